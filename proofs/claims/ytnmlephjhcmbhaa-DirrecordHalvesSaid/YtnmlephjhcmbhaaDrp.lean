/- Package dirrecord: Differ. -/
import Derived.Test.YtnmlephjhcmbhaaDro
namespace Go.Proofs.Ytnmlephjhcmbhaa
set_option linter.unusedSimpArgs false
set_option linter.unusedVariables false
open Go Go.RowKit
theorem i64Info : (Try.prog.info? 3).map (fun i => (i.zero, i.size, i.bytes)) = some (some (.int .i64 0), 1, 8) := by kernel_rfl
/-- The halves of a number agree. -/
def smB (s : ByteArray) (a z : Nat) : Bool := decide (leR s a z = beR s (a + z) z)
/-- The places and sizes of the numbers. -/
def nthP : Nat → Nat × Nat
  | 0 => (2, 4)
  | 1 => (10, 4)
  | _ => (28, 2)
/-- What Differ has found behind k numbers. -/
def dl (s : ByteArray) : Nat → List Nat
  | 0 => []
  | k + 1 => dl s k ++ (if smB s (nthP k).1 (nthP k).2 then [] else [(nthP k).1])
def difM (s : ByteArray) : List Nat := if s.size < 34 then [] else dl s 3
def ints (l : List Nat) : List Value := l.map fun n : Nat => cN (n : Int)
theorem ints_snoc (l : List Nat) (n : Nat) : ints (l ++ [n]) = ints l ++ [cN (n : Int)] := by simp [ints]
theorem dl_len (s : ByteArray) (k : Nat) : (dl s k).length ≤ k := by
  induction k with
  | zero => simp [dl]
  | succ k ih => rw [dl, List.length_append]; split <;> simp <;> omega
/-- The state of Differ behind k numbers. -/
def DiS (w : World) (s : ByteArray) (k : Nat) (v : Value) (W : World) : Prop :=
  W.ownsRow (w.heap.size + 1) 3 1 v (dl s k).length (ints (dl s k)) ∧ W.heap[w.heap.size]? = some (.cells #[cN 2, cN 10, cN 28] 3 (0, 0)) ∧ Below w.heap.size w W
theorem own_keep {W W' : World} {base n : Nat} {v : Value} {xs : List Value} {e : TypeId} (h : W.ownsRow base e 1 v n xs) (k : Below W.heap.size W W') : W'.ownsRow base e 1 v n xs := by
  refine ⟨h.1, ?_⟩
  rcases h.2 with hn | ⟨g, cap, cur, rfl, hb, hg, rest⟩
  · exact .inl hn
  · exact .inr ⟨g, cap, cur, rfl, hb, (k.block _ (lt_of_block hg)).trans hg, rest⟩
theorem DiS.below {w : World} {s : ByteArray} {k : Nat} {v : Value} {W W' : World} (h : DiS w s k v W) (b : Below W.heap.size W W') : DiS w s k v W' :=
  ⟨own_keep h.1 b, (b.block _ (lt_of_block h.2.1)).trans h.2.1, h.2.2.trans (b.mono h.2.2.size)⟩
theorem DiS.start (w : World) (s : ByteArray) : DiS w s 0 (.slice none 0 0) (w.alloc (.cells #[cN 2, cN 10, cN 28] 3)) :=
  ⟨⟨by simp [dl, ints], .inl ⟨rfl, by simp [dl]⟩⟩, World.alloc_heap_new _ _, (Below.refl _ w).alloc (Nat.le_refl _) _⟩
theorem DiS.put {w : World} {s : ByteArray} {k a : Nat} {v v' : Value} {W W2 : World} (h : DiS w s k v W) (hd : dl s (k + 1) = dl s k ++ [a]) (hown : W2.ownsRow (w.heap.size + 1) 3 1 v' ((dl s k).length + 1) (ints (dl s k) ++ [cN (a : Int)]))
    (hg : (W.alloc (.cells #[cN (a : Int)] 3)).grownBy W2 v.ownBlock) : DiS w s (k + 1) v' W2 := by
  have hlt := lt_of_block h.2.1
  have hne : some w.heap.size ≠ v.ownBlock := fun e => by
    have := (h.1.lt _ e.symm).1
    omega
  refine ⟨?_, ?_, ?_⟩
  · rw [hd, ints_snoc]
    simpa using hown
  · rw [hg.block _ (by simp; omega) hne, Lib.alloc_old _ _ _ hlt]
    exact h.2.1
  · exact (h.2.2.alloc h.2.2.size _).grown hg (by have := h.2.2.size; simp; omega) (fun k hk => (by have := (h.1.lt k hk).1; omega))
theorem DiS.same {w : World} {s : ByteArray} {k : Nat} {v : Value} {W : World} (h : DiS w s k v W) (hd : dl s (k + 1) = dl s k) : DiS w s (k + 1) v W := by
  unfold DiS at *
  rw [hd]
  exact h
set_option maxRecDepth 100000 in
set_option maxHeartbeats 400000 in
theorem differ_short (s : ByteArray) (w : World) (h : (s.size : Int) < 34) : Calls Try.prog 26 #[.string s] w fun e w' => e = .returned (.slice none 0 0) ∧ w = w' := by
  go_enter Try.func26, Try.ntmps26
  go_wp2
  go_ret
  exact ⟨rfl, rfl⟩
set_option maxRecDepth 100000 in
set_option maxHeartbeats 4000000 in
theorem differ_long (s : ByteArray) (w : World) (h : (34 : Int) ≤ s.size) (hs61 : s.size < 2 ^ 61) : Calls Try.prog 26 #[.string s] w fun e w' => ∃ v, e = .returned v ∧ DiS w s 3 v w' := by
  obtain ⟨i0, hi, hz0, hz1, hz2⟩ := info_parts i64Info
  go_enter Try.func26, Try.ntmps26
  go_wp2
  go_loopw [15, 3] (fun i v wr => ∃ k : Nat, k ≤ 3 ∧ i = cN (k : Int) ∧ DiS w s k v wr) (fun i _ _ => 3 - (intOf i).toNat)
  case atStart => exact ⟨0, by decide, rfl, DiS.start w s⟩
  case round =>
    obtain ⟨k, hk, rfl, H⟩ := hrel
    match k, hk with
    | 0, _ =>
      have q0 : wr.cell? ⟨w.heap.size, 0, none⟩ = some (cN 2) := (Lib.cell_of_heap H.2.1 0)
      have c1 : ∀ W : World, Calls Try.prog 65 #[.string s, cN 2, cN 4] W fun e w' => e = .returned (.tuple #[cN (leR s 2 4 : Nat), .bool (smB s 2 4), cN 0]) ∧ Below W.heap.size W w' := fun W => readBoth_ok s 2 4 W hs61 (by decide) (by omega)
      obtain ⟨x, hx⟩ : ∃ x : Nat, leR s 2 4 = x := ⟨_, rfl⟩
      rw [hx] at c1
      clear hx
      cases hsm : smB s 2 4
      · rw [hsm] at c1
        have HD : Hid (dl s (0 + 1) = dl s 0 ++ [2]) := Lib.hid (by show dl s 0 ++ (if smB s 2 4 then [] else [2]) = _; rw [hsm]; rfl)
        clear hsm
        go_wp2_with (first | (go_at_call 65; (with_reducible refine (c1 _).mono ?_); rintro e w1 ⟨rfl, hB⟩; have H1 := H.below hB; clear hB) | (at_builtin; refine wpList_append_own _ rfl _ _ 33 rfl (w.heap.size + 1) 3 i0 (.int .i64 0) 1 8 Try.underlying33 hi hz0 hz1 hz2 rfl (by decide) _ _ _ rfl (H1.1.alloc _) ⟨w1.heap.size, 0, none⟩ 1 1 [cN 2] rfl rfl ?c1 ?c2 ?c3 ?c4 ?c5 ?_))
        case c1 =>
          intro j u hj
          match j, hj with
          | 0, hj => simp at hj; subst hj; simp [Addr.add]
        case c2 => intro u hu; simp at hu; subst hu; rfl
        case c3 => have := dl_len s 0; unfold maxLen; omega
        case c4 => have := dl_len s 0; omega
        case c5 => have := lt_of_block H1.2.1; simp; omega
        intro v' w2 hown hgrow _
        have H2 := H1.put (a := 2) HD.out hown hgrow
        clear hown hgrow H1 H q0
        go_wp2
        go_roundw
        case rel => exact ⟨0 + 1, by decide, by go_num, H2⟩
        case measure => simp [intOf]
      · rw [hsm] at c1
        have HD : Hid (dl s (0 + 1) = dl s 0) := Lib.hid (by show dl s 0 ++ (if smB s 2 4 then [] else [2]) = _; rw [hsm]; simp)
        clear hsm
        go_wp2_with (first | (go_at_call 65; (with_reducible refine (c1 _).mono ?_); rintro e w1 ⟨rfl, hB⟩; have H1 := (H.below hB).same HD.out; clear hB))
        go_roundw
        case rel => exact ⟨0 + 1, by decide, by go_num, H1⟩
        case measure => simp [intOf]
    | 1, _ =>
      have q0 : wr.cell? ⟨w.heap.size, 1, none⟩ = some (cN 10) := (Lib.cell_of_heap H.2.1 1)
      have c1 : ∀ W : World, Calls Try.prog 65 #[.string s, cN 10, cN 4] W fun e w' => e = .returned (.tuple #[cN (leR s 10 4 : Nat), .bool (smB s 10 4), cN 0]) ∧ Below W.heap.size W w' := fun W => readBoth_ok s 10 4 W hs61 (by decide) (by omega)
      obtain ⟨x, hx⟩ : ∃ x : Nat, leR s 10 4 = x := ⟨_, rfl⟩
      rw [hx] at c1
      clear hx
      cases hsm : smB s 10 4
      · rw [hsm] at c1
        have HD : Hid (dl s (1 + 1) = dl s 1 ++ [10]) := Lib.hid (by show dl s 1 ++ (if smB s 10 4 then [] else [10]) = _; rw [hsm]; rfl)
        clear hsm
        go_wp2_with (first | (go_at_call 65; (with_reducible refine (c1 _).mono ?_); rintro e w1 ⟨rfl, hB⟩; have H1 := H.below hB; clear hB) | (at_builtin; refine wpList_append_own _ rfl _ _ 33 rfl (w.heap.size + 1) 3 i0 (.int .i64 0) 1 8 Try.underlying33 hi hz0 hz1 hz2 rfl (by decide) _ _ _ rfl (H1.1.alloc _) ⟨w1.heap.size, 0, none⟩ 1 1 [cN 10] rfl rfl ?c1 ?c2 ?c3 ?c4 ?c5 ?_))
        case c1 =>
          intro j u hj
          match j, hj with
          | 0, hj => simp at hj; subst hj; simp [Addr.add]
        case c2 => intro u hu; simp at hu; subst hu; rfl
        case c3 => have := dl_len s 1; unfold maxLen; omega
        case c4 => have := dl_len s 1; omega
        case c5 => have := lt_of_block H1.2.1; simp; omega
        intro v' w2 hown hgrow _
        have H2 := H1.put (a := 10) HD.out hown hgrow
        clear hown hgrow H1 H q0
        go_wp2
        go_roundw
        case rel => exact ⟨1 + 1, by decide, by go_num, H2⟩
        case measure => simp [intOf]
      · rw [hsm] at c1
        have HD : Hid (dl s (1 + 1) = dl s 1) := Lib.hid (by show dl s 1 ++ (if smB s 10 4 then [] else [10]) = _; rw [hsm]; simp)
        clear hsm
        go_wp2_with (first | (go_at_call 65; (with_reducible refine (c1 _).mono ?_); rintro e w1 ⟨rfl, hB⟩; have H1 := (H.below hB).same HD.out; clear hB))
        go_roundw
        case rel => exact ⟨1 + 1, by decide, by go_num, H1⟩
        case measure => simp [intOf]
    | 2, _ =>
      have q0 : wr.cell? ⟨w.heap.size, 2, none⟩ = some (cN 28) := (Lib.cell_of_heap H.2.1 2)
      have c1 : ∀ W : World, Calls Try.prog 65 #[.string s, cN 28, cN 2] W fun e w' => e = .returned (.tuple #[cN (leR s 28 2 : Nat), .bool (smB s 28 2), cN 0]) ∧ Below W.heap.size W w' := fun W => readBoth_ok s 28 2 W hs61 (by decide) (by omega)
      obtain ⟨x, hx⟩ : ∃ x : Nat, leR s 28 2 = x := ⟨_, rfl⟩
      rw [hx] at c1
      clear hx
      cases hsm : smB s 28 2
      · rw [hsm] at c1
        have HD : Hid (dl s (2 + 1) = dl s 2 ++ [28]) := Lib.hid (by show dl s 2 ++ (if smB s 28 2 then [] else [28]) = _; rw [hsm]; rfl)
        clear hsm
        go_wp2_with (first | (go_at_call 65; (with_reducible refine (c1 _).mono ?_); rintro e w1 ⟨rfl, hB⟩; have H1 := H.below hB; clear hB) | (at_builtin; refine wpList_append_own _ rfl _ _ 33 rfl (w.heap.size + 1) 3 i0 (.int .i64 0) 1 8 Try.underlying33 hi hz0 hz1 hz2 rfl (by decide) _ _ _ rfl (H1.1.alloc _) ⟨w1.heap.size, 0, none⟩ 1 1 [cN 28] rfl rfl ?c1 ?c2 ?c3 ?c4 ?c5 ?_))
        case c1 =>
          intro j u hj
          match j, hj with
          | 0, hj => simp at hj; subst hj; simp [Addr.add]
        case c2 => intro u hu; simp at hu; subst hu; rfl
        case c3 => have := dl_len s 2; unfold maxLen; omega
        case c4 => have := dl_len s 2; omega
        case c5 => have := lt_of_block H1.2.1; simp; omega
        intro v' w2 hown hgrow _
        have H2 := H1.put (a := 28) HD.out hown hgrow
        clear hown hgrow H1 H q0
        go_wp2
        go_roundw
        case rel => exact ⟨2 + 1, by decide, by go_num, H2⟩
        case measure => simp [intOf]
      · rw [hsm] at c1
        have HD : Hid (dl s (2 + 1) = dl s 2) := Lib.hid (by show dl s 2 ++ (if smB s 28 2 then [] else [28]) = _; rw [hsm]; simp)
        clear hsm
        go_wp2_with (first | (go_at_call 65; (with_reducible refine (c1 _).mono ?_); rintro e w1 ⟨rfl, hB⟩; have H1 := (H.below hB).same HD.out; clear hB))
        go_roundw
        case rel => exact ⟨2 + 1, by decide, by go_num, H1⟩
        case measure => simp [intOf]
    | 3, _ =>
      go_wp2
      go_ret
      exact ⟨_, rfl, H⟩
end Go.Proofs.Ytnmlephjhcmbhaa
