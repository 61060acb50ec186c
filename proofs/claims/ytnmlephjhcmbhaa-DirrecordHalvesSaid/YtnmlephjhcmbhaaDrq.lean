/- The reference of package dirrecord: Differ. -/
import Derived.Test.YtnmlephjhcmbhaaDrp
namespace Go.Proofs.Ytnmlephjhcmbhaa
set_option linter.unusedSimpArgs false
set_option linter.unusedVariables false
open Go Go.RowKit
/-- The state of the reference's Differ behind k numbers. -/
def DiR (w : World) (s : ByteArray) (k : Nat) (v : Value) (W : World) : Prop :=
  W.ownsRow w.heap.size 3 1 v (dl s k).length (ints (dl s k)) ∧ Below w.heap.size w W
theorem DiR.below {w : World} {s : ByteArray} {k : Nat} {v : Value} {W W' : World} (h : DiR w s k v W) (b : Below W.heap.size W W') : DiR w s k v W' :=
  ⟨own_keep h.1 b, h.2.trans (b.mono h.2.size)⟩
theorem DiR.start (w : World) (s : ByteArray) : DiR w s 0 (.slice none 0 0) w :=
  ⟨⟨by simp [dl, ints], .inl ⟨rfl, by simp [dl]⟩⟩, Below.refl _ _⟩
theorem DiR.put {w : World} {s : ByteArray} {k a : Nat} {v v' : Value} {W W2 : World} (h : DiR w s k v W) (hd : dl s (k + 1) = dl s k ++ [a]) (hown : W2.ownsRow w.heap.size 3 1 v' ((dl s k).length + 1) (ints (dl s k) ++ [cN (a : Int)]))
    (hg : (W.alloc (.cells #[cN (a : Int)] 3)).grownBy W2 v.ownBlock) : DiR w s (k + 1) v' W2 := by
  refine ⟨?_, ?_⟩
  · rw [hd, ints_snoc]
    simpa using hown
  · exact (h.2.alloc h.2.size _).grown hg (by have := h.2.size; simp; omega) (fun k hk => (h.1.lt k hk).1)
theorem DiR.same {w : World} {s : ByteArray} {k : Nat} {v : Value} {W : World} (h : DiR w s k v W) (hd : dl s (k + 1) = dl s k) : DiR w s (k + 1) v W := by
  unfold DiR at *
  rw [hd]
  exact h
set_option maxRecDepth 100000 in
set_option maxHeartbeats 400000 in
theorem rdiffer_short (s : ByteArray) (w : World) (h : (s.size : Int) < 34) : Calls Try.prog 27 #[.string s] w fun e w' => e = .returned (.slice none 0 0) ∧ w = w' := by
  go_enter Try.func27, Try.ntmps27
  go_wp2
  go_ret
  exact ⟨rfl, rfl⟩
set_option maxRecDepth 100000 in
set_option maxHeartbeats 2000000 in
theorem rdiffer_ttt (s : ByteArray) (x0 x1 x2 : Nat) (w : World) (h : (34 : Int) ≤ s.size) (h0 : smB s 2 4 = true) (d0 : ∀ W : World, Calls Try.prog 66 #[.string s, cN 2, cN 4] W fun e w' => e = .returned (.tuple #[cN (x0 : Nat), .bool true, cN 0]) ∧ Below W.heap.size W w') (h1 : smB s 10 4 = true) (d1 : ∀ W : World, Calls Try.prog 66 #[.string s, cN 10, cN 4] W fun e w' => e = .returned (.tuple #[cN (x1 : Nat), .bool true, cN 0]) ∧ Below W.heap.size W w') (h2 : smB s 28 2 = true) (d2 : ∀ W : World, Calls Try.prog 66 #[.string s, cN 28, cN 2] W fun e w' => e = .returned (.tuple #[cN (x2 : Nat), .bool true, cN 0]) ∧ Below W.heap.size W w') : Calls Try.prog 27 #[.string s] w fun e w' => ∃ v, e = .returned v ∧ DiR w s 3 v w' := by
  obtain ⟨i0, hi, hz0, hz1, hz2⟩ := info_parts i64Info
  have c0 : ∀ W : World, Calls Try.prog 66 #[.string s, cN 2, cN 4] W fun e w' => e = .returned (.tuple #[cN (x0 : Nat), .bool true, cN 0]) ∧ Below W.heap.size W w' := d0
  have HD0 : Hid (dl s (0 + 1) = dl s 0) := Lib.hid (by show dl s 0 ++ (if smB s 2 4 then [] else [2]) = _; rw [h0]; simp)
  have c1 : ∀ W : World, Calls Try.prog 66 #[.string s, cN 10, cN 4] W fun e w' => e = .returned (.tuple #[cN (x1 : Nat), .bool true, cN 0]) ∧ Below W.heap.size W w' := d1
  have HD1 : Hid (dl s (1 + 1) = dl s 1) := Lib.hid (by show dl s 1 ++ (if smB s 10 4 then [] else [10]) = _; rw [h1]; simp)
  have c2 : ∀ W : World, Calls Try.prog 66 #[.string s, cN 28, cN 2] W fun e w' => e = .returned (.tuple #[cN (x2 : Nat), .bool true, cN 0]) ∧ Below W.heap.size W w' := d2
  have HD2 : Hid (dl s (2 + 1) = dl s 2) := Lib.hid (by show dl s 2 ++ (if smB s 28 2 then [] else [28]) = _; rw [h2]; simp)
  clear d0 d1 d2 h0 h1 h2
  have H0 := DiR.start w s
  go_enter Try.func27, Try.ntmps27
  go_wp2_with fail
  with_reducible refine (c0 _).mono ?_
  rintro e w0 ⟨rfl, hB⟩
  have H1 : DiR w s 1 _ _ := (H0.below hB).same HD0.out
  clear hB H0
  go_wp2_with fail
  with_reducible refine (c1 _).mono ?_
  rintro e w1 ⟨rfl, hB⟩
  have H2 : DiR w s 2 _ _ := (H1.below hB).same HD1.out
  clear hB H1
  go_wp2_with fail
  with_reducible refine (c2 _).mono ?_
  rintro e w2 ⟨rfl, hB⟩
  have H3 : DiR w s 3 _ _ := (H2.below hB).same HD2.out
  clear hB H2
  go_wp2
  go_ret
  exact ⟨_, rfl, H3⟩
set_option maxRecDepth 100000 in
set_option maxHeartbeats 2000000 in
theorem rdiffer_ttf (s : ByteArray) (x0 x1 x2 : Nat) (w : World) (h : (34 : Int) ≤ s.size) (h0 : smB s 2 4 = true) (d0 : ∀ W : World, Calls Try.prog 66 #[.string s, cN 2, cN 4] W fun e w' => e = .returned (.tuple #[cN (x0 : Nat), .bool true, cN 0]) ∧ Below W.heap.size W w') (h1 : smB s 10 4 = true) (d1 : ∀ W : World, Calls Try.prog 66 #[.string s, cN 10, cN 4] W fun e w' => e = .returned (.tuple #[cN (x1 : Nat), .bool true, cN 0]) ∧ Below W.heap.size W w') (h2 : smB s 28 2 = false) (d2 : ∀ W : World, Calls Try.prog 66 #[.string s, cN 28, cN 2] W fun e w' => e = .returned (.tuple #[cN (x2 : Nat), .bool false, cN 0]) ∧ Below W.heap.size W w') : Calls Try.prog 27 #[.string s] w fun e w' => ∃ v, e = .returned v ∧ DiR w s 3 v w' := by
  obtain ⟨i0, hi, hz0, hz1, hz2⟩ := info_parts i64Info
  have c0 : ∀ W : World, Calls Try.prog 66 #[.string s, cN 2, cN 4] W fun e w' => e = .returned (.tuple #[cN (x0 : Nat), .bool true, cN 0]) ∧ Below W.heap.size W w' := d0
  have HD0 : Hid (dl s (0 + 1) = dl s 0) := Lib.hid (by show dl s 0 ++ (if smB s 2 4 then [] else [2]) = _; rw [h0]; simp)
  have c1 : ∀ W : World, Calls Try.prog 66 #[.string s, cN 10, cN 4] W fun e w' => e = .returned (.tuple #[cN (x1 : Nat), .bool true, cN 0]) ∧ Below W.heap.size W w' := d1
  have HD1 : Hid (dl s (1 + 1) = dl s 1) := Lib.hid (by show dl s 1 ++ (if smB s 10 4 then [] else [10]) = _; rw [h1]; simp)
  have c2 : ∀ W : World, Calls Try.prog 66 #[.string s, cN 28, cN 2] W fun e w' => e = .returned (.tuple #[cN (x2 : Nat), .bool false, cN 0]) ∧ Below W.heap.size W w' := d2
  have HD2 : Hid (dl s (2 + 1) = dl s 2 ++ [28]) := Lib.hid (by show dl s 2 ++ (if smB s 28 2 then [] else [28]) = _; rw [h2]; rfl)
  clear d0 d1 d2 h0 h1 h2
  have H0 := DiR.start w s
  go_enter Try.func27, Try.ntmps27
  go_wp2_with fail
  with_reducible refine (c0 _).mono ?_
  rintro e w0 ⟨rfl, hB⟩
  have H1 : DiR w s 1 _ _ := (H0.below hB).same HD0.out
  clear hB H0
  go_wp2_with fail
  with_reducible refine (c1 _).mono ?_
  rintro e w1 ⟨rfl, hB⟩
  have H2 : DiR w s 2 _ _ := (H1.below hB).same HD1.out
  clear hB H1
  go_wp2_with fail
  with_reducible refine (c2 _).mono ?_
  rintro e w2 ⟨rfl, hB⟩
  have G2 := H2.below hB
  clear hB H2
  go_wp2_with (at_builtin; refine wpList_append_own _ rfl _ _ 33 rfl w.heap.size 3 i0 (.int .i64 0) 1 8 Try.underlying33 hi hz0 hz1 hz2 rfl (by decide) _ _ _ rfl (G2.1.alloc _) ⟨w2.heap.size, 0, none⟩ 1 1 [cN 28] rfl rfl ?c1 ?c2 ?c3 ?c4 ?c5 ?_)
  case c1 =>
    intro j u hj
    match j, hj with
    | 0, hj => simp at hj; subst hj; simp [Addr.add]
  case c2 => intro u hu; simp at hu; subst hu; rfl
  case c3 => have := dl_len s 2; unfold maxLen; omega
  case c4 => have := dl_len s 2; omega
  case c5 => have := G2.2.size; simp; omega
  intro v2 y2 hown hgrow _
  have H3 : DiR w s 3 _ _ := G2.put (a := 28) HD2.out hown hgrow
  clear hown hgrow G2
  go_wp2
  go_ret
  exact ⟨_, rfl, H3⟩
set_option maxRecDepth 100000 in
set_option maxHeartbeats 2000000 in
theorem rdiffer_tft (s : ByteArray) (x0 x1 x2 : Nat) (w : World) (h : (34 : Int) ≤ s.size) (h0 : smB s 2 4 = true) (d0 : ∀ W : World, Calls Try.prog 66 #[.string s, cN 2, cN 4] W fun e w' => e = .returned (.tuple #[cN (x0 : Nat), .bool true, cN 0]) ∧ Below W.heap.size W w') (h1 : smB s 10 4 = false) (d1 : ∀ W : World, Calls Try.prog 66 #[.string s, cN 10, cN 4] W fun e w' => e = .returned (.tuple #[cN (x1 : Nat), .bool false, cN 0]) ∧ Below W.heap.size W w') (h2 : smB s 28 2 = true) (d2 : ∀ W : World, Calls Try.prog 66 #[.string s, cN 28, cN 2] W fun e w' => e = .returned (.tuple #[cN (x2 : Nat), .bool true, cN 0]) ∧ Below W.heap.size W w') : Calls Try.prog 27 #[.string s] w fun e w' => ∃ v, e = .returned v ∧ DiR w s 3 v w' := by
  obtain ⟨i0, hi, hz0, hz1, hz2⟩ := info_parts i64Info
  have c0 : ∀ W : World, Calls Try.prog 66 #[.string s, cN 2, cN 4] W fun e w' => e = .returned (.tuple #[cN (x0 : Nat), .bool true, cN 0]) ∧ Below W.heap.size W w' := d0
  have HD0 : Hid (dl s (0 + 1) = dl s 0) := Lib.hid (by show dl s 0 ++ (if smB s 2 4 then [] else [2]) = _; rw [h0]; simp)
  have c1 : ∀ W : World, Calls Try.prog 66 #[.string s, cN 10, cN 4] W fun e w' => e = .returned (.tuple #[cN (x1 : Nat), .bool false, cN 0]) ∧ Below W.heap.size W w' := d1
  have HD1 : Hid (dl s (1 + 1) = dl s 1 ++ [10]) := Lib.hid (by show dl s 1 ++ (if smB s 10 4 then [] else [10]) = _; rw [h1]; rfl)
  have c2 : ∀ W : World, Calls Try.prog 66 #[.string s, cN 28, cN 2] W fun e w' => e = .returned (.tuple #[cN (x2 : Nat), .bool true, cN 0]) ∧ Below W.heap.size W w' := d2
  have HD2 : Hid (dl s (2 + 1) = dl s 2) := Lib.hid (by show dl s 2 ++ (if smB s 28 2 then [] else [28]) = _; rw [h2]; simp)
  clear d0 d1 d2 h0 h1 h2
  have H0 := DiR.start w s
  go_enter Try.func27, Try.ntmps27
  go_wp2_with fail
  with_reducible refine (c0 _).mono ?_
  rintro e w0 ⟨rfl, hB⟩
  have H1 : DiR w s 1 _ _ := (H0.below hB).same HD0.out
  clear hB H0
  go_wp2_with fail
  with_reducible refine (c1 _).mono ?_
  rintro e w1 ⟨rfl, hB⟩
  have G1 := H1.below hB
  clear hB H1
  go_wp2_with (at_builtin; refine wpList_append_own _ rfl _ _ 33 rfl w.heap.size 3 i0 (.int .i64 0) 1 8 Try.underlying33 hi hz0 hz1 hz2 rfl (by decide) _ _ _ rfl (G1.1.alloc _) ⟨w1.heap.size, 0, none⟩ 1 1 [cN 10] rfl rfl ?c1 ?c2 ?c3 ?c4 ?c5 ?_)
  case c1 =>
    intro j u hj
    match j, hj with
    | 0, hj => simp at hj; subst hj; simp [Addr.add]
  case c2 => intro u hu; simp at hu; subst hu; rfl
  case c3 => have := dl_len s 1; unfold maxLen; omega
  case c4 => have := dl_len s 1; omega
  case c5 => have := G1.2.size; simp; omega
  intro v1 y1 hown hgrow _
  have H2 : DiR w s 2 _ _ := G1.put (a := 10) HD1.out hown hgrow
  clear hown hgrow G1
  go_wp2_with fail
  with_reducible refine (c2 _).mono ?_
  rintro e w2 ⟨rfl, hB⟩
  have H3 : DiR w s 3 _ _ := (H2.below hB).same HD2.out
  clear hB H2
  go_wp2
  go_ret
  exact ⟨_, rfl, H3⟩
set_option maxRecDepth 100000 in
set_option maxHeartbeats 2000000 in
theorem rdiffer_tff (s : ByteArray) (x0 x1 x2 : Nat) (w : World) (h : (34 : Int) ≤ s.size) (h0 : smB s 2 4 = true) (d0 : ∀ W : World, Calls Try.prog 66 #[.string s, cN 2, cN 4] W fun e w' => e = .returned (.tuple #[cN (x0 : Nat), .bool true, cN 0]) ∧ Below W.heap.size W w') (h1 : smB s 10 4 = false) (d1 : ∀ W : World, Calls Try.prog 66 #[.string s, cN 10, cN 4] W fun e w' => e = .returned (.tuple #[cN (x1 : Nat), .bool false, cN 0]) ∧ Below W.heap.size W w') (h2 : smB s 28 2 = false) (d2 : ∀ W : World, Calls Try.prog 66 #[.string s, cN 28, cN 2] W fun e w' => e = .returned (.tuple #[cN (x2 : Nat), .bool false, cN 0]) ∧ Below W.heap.size W w') : Calls Try.prog 27 #[.string s] w fun e w' => ∃ v, e = .returned v ∧ DiR w s 3 v w' := by
  obtain ⟨i0, hi, hz0, hz1, hz2⟩ := info_parts i64Info
  have c0 : ∀ W : World, Calls Try.prog 66 #[.string s, cN 2, cN 4] W fun e w' => e = .returned (.tuple #[cN (x0 : Nat), .bool true, cN 0]) ∧ Below W.heap.size W w' := d0
  have HD0 : Hid (dl s (0 + 1) = dl s 0) := Lib.hid (by show dl s 0 ++ (if smB s 2 4 then [] else [2]) = _; rw [h0]; simp)
  have c1 : ∀ W : World, Calls Try.prog 66 #[.string s, cN 10, cN 4] W fun e w' => e = .returned (.tuple #[cN (x1 : Nat), .bool false, cN 0]) ∧ Below W.heap.size W w' := d1
  have HD1 : Hid (dl s (1 + 1) = dl s 1 ++ [10]) := Lib.hid (by show dl s 1 ++ (if smB s 10 4 then [] else [10]) = _; rw [h1]; rfl)
  have c2 : ∀ W : World, Calls Try.prog 66 #[.string s, cN 28, cN 2] W fun e w' => e = .returned (.tuple #[cN (x2 : Nat), .bool false, cN 0]) ∧ Below W.heap.size W w' := d2
  have HD2 : Hid (dl s (2 + 1) = dl s 2 ++ [28]) := Lib.hid (by show dl s 2 ++ (if smB s 28 2 then [] else [28]) = _; rw [h2]; rfl)
  clear d0 d1 d2 h0 h1 h2
  have H0 := DiR.start w s
  go_enter Try.func27, Try.ntmps27
  go_wp2_with fail
  with_reducible refine (c0 _).mono ?_
  rintro e w0 ⟨rfl, hB⟩
  have H1 : DiR w s 1 _ _ := (H0.below hB).same HD0.out
  clear hB H0
  go_wp2_with fail
  with_reducible refine (c1 _).mono ?_
  rintro e w1 ⟨rfl, hB⟩
  have G1 := H1.below hB
  clear hB H1
  go_wp2_with (at_builtin; refine wpList_append_own _ rfl _ _ 33 rfl w.heap.size 3 i0 (.int .i64 0) 1 8 Try.underlying33 hi hz0 hz1 hz2 rfl (by decide) _ _ _ rfl (G1.1.alloc _) ⟨w1.heap.size, 0, none⟩ 1 1 [cN 10] rfl rfl ?c1 ?c2 ?c3 ?c4 ?c5 ?_)
  case c1 =>
    intro j u hj
    match j, hj with
    | 0, hj => simp at hj; subst hj; simp [Addr.add]
  case c2 => intro u hu; simp at hu; subst hu; rfl
  case c3 => have := dl_len s 1; unfold maxLen; omega
  case c4 => have := dl_len s 1; omega
  case c5 => have := G1.2.size; simp; omega
  intro v1 y1 hown hgrow _
  have H2 : DiR w s 2 _ _ := G1.put (a := 10) HD1.out hown hgrow
  clear hown hgrow G1
  go_wp2_with fail
  with_reducible refine (c2 _).mono ?_
  rintro e w2 ⟨rfl, hB⟩
  have G2 := H2.below hB
  clear hB H2
  go_wp2_with (at_builtin; refine wpList_append_own _ rfl _ _ 33 rfl w.heap.size 3 i0 (.int .i64 0) 1 8 Try.underlying33 hi hz0 hz1 hz2 rfl (by decide) _ _ _ rfl (G2.1.alloc _) ⟨w2.heap.size, 0, none⟩ 1 1 [cN 28] rfl rfl ?c1 ?c2 ?c3 ?c4 ?c5 ?_)
  case c1 =>
    intro j u hj
    match j, hj with
    | 0, hj => simp at hj; subst hj; simp [Addr.add]
  case c2 => intro u hu; simp at hu; subst hu; rfl
  case c3 => have := dl_len s 2; unfold maxLen; omega
  case c4 => have := dl_len s 2; omega
  case c5 => have := G2.2.size; simp; omega
  intro v2 y2 hown hgrow _
  have H3 : DiR w s 3 _ _ := G2.put (a := 28) HD2.out hown hgrow
  clear hown hgrow G2
  go_wp2
  go_ret
  exact ⟨_, rfl, H3⟩
set_option maxRecDepth 100000 in
set_option maxHeartbeats 2000000 in
theorem rdiffer_ftt (s : ByteArray) (x0 x1 x2 : Nat) (w : World) (h : (34 : Int) ≤ s.size) (h0 : smB s 2 4 = false) (d0 : ∀ W : World, Calls Try.prog 66 #[.string s, cN 2, cN 4] W fun e w' => e = .returned (.tuple #[cN (x0 : Nat), .bool false, cN 0]) ∧ Below W.heap.size W w') (h1 : smB s 10 4 = true) (d1 : ∀ W : World, Calls Try.prog 66 #[.string s, cN 10, cN 4] W fun e w' => e = .returned (.tuple #[cN (x1 : Nat), .bool true, cN 0]) ∧ Below W.heap.size W w') (h2 : smB s 28 2 = true) (d2 : ∀ W : World, Calls Try.prog 66 #[.string s, cN 28, cN 2] W fun e w' => e = .returned (.tuple #[cN (x2 : Nat), .bool true, cN 0]) ∧ Below W.heap.size W w') : Calls Try.prog 27 #[.string s] w fun e w' => ∃ v, e = .returned v ∧ DiR w s 3 v w' := by
  obtain ⟨i0, hi, hz0, hz1, hz2⟩ := info_parts i64Info
  have c0 : ∀ W : World, Calls Try.prog 66 #[.string s, cN 2, cN 4] W fun e w' => e = .returned (.tuple #[cN (x0 : Nat), .bool false, cN 0]) ∧ Below W.heap.size W w' := d0
  have HD0 : Hid (dl s (0 + 1) = dl s 0 ++ [2]) := Lib.hid (by show dl s 0 ++ (if smB s 2 4 then [] else [2]) = _; rw [h0]; rfl)
  have c1 : ∀ W : World, Calls Try.prog 66 #[.string s, cN 10, cN 4] W fun e w' => e = .returned (.tuple #[cN (x1 : Nat), .bool true, cN 0]) ∧ Below W.heap.size W w' := d1
  have HD1 : Hid (dl s (1 + 1) = dl s 1) := Lib.hid (by show dl s 1 ++ (if smB s 10 4 then [] else [10]) = _; rw [h1]; simp)
  have c2 : ∀ W : World, Calls Try.prog 66 #[.string s, cN 28, cN 2] W fun e w' => e = .returned (.tuple #[cN (x2 : Nat), .bool true, cN 0]) ∧ Below W.heap.size W w' := d2
  have HD2 : Hid (dl s (2 + 1) = dl s 2) := Lib.hid (by show dl s 2 ++ (if smB s 28 2 then [] else [28]) = _; rw [h2]; simp)
  clear d0 d1 d2 h0 h1 h2
  have H0 := DiR.start w s
  go_enter Try.func27, Try.ntmps27
  go_wp2_with fail
  with_reducible refine (c0 _).mono ?_
  rintro e w0 ⟨rfl, hB⟩
  have G0 := H0.below hB
  clear hB H0
  go_wp2_with (at_builtin; refine wpList_append_own _ rfl _ _ 33 rfl w.heap.size 3 i0 (.int .i64 0) 1 8 Try.underlying33 hi hz0 hz1 hz2 rfl (by decide) _ _ _ rfl (G0.1.alloc _) ⟨w0.heap.size, 0, none⟩ 1 1 [cN 2] rfl rfl ?c1 ?c2 ?c3 ?c4 ?c5 ?_)
  case c1 =>
    intro j u hj
    match j, hj with
    | 0, hj => simp at hj; subst hj; simp [Addr.add]
  case c2 => intro u hu; simp at hu; subst hu; rfl
  case c3 => have := dl_len s 0; unfold maxLen; omega
  case c4 => have := dl_len s 0; omega
  case c5 => have := G0.2.size; simp; omega
  intro v0 y0 hown hgrow _
  have H1 : DiR w s 1 _ _ := G0.put (a := 2) HD0.out hown hgrow
  clear hown hgrow G0
  go_wp2_with fail
  with_reducible refine (c1 _).mono ?_
  rintro e w1 ⟨rfl, hB⟩
  have H2 : DiR w s 2 _ _ := (H1.below hB).same HD1.out
  clear hB H1
  go_wp2_with fail
  with_reducible refine (c2 _).mono ?_
  rintro e w2 ⟨rfl, hB⟩
  have H3 : DiR w s 3 _ _ := (H2.below hB).same HD2.out
  clear hB H2
  go_wp2
  go_ret
  exact ⟨_, rfl, H3⟩
set_option maxRecDepth 100000 in
set_option maxHeartbeats 2000000 in
theorem rdiffer_ftf (s : ByteArray) (x0 x1 x2 : Nat) (w : World) (h : (34 : Int) ≤ s.size) (h0 : smB s 2 4 = false) (d0 : ∀ W : World, Calls Try.prog 66 #[.string s, cN 2, cN 4] W fun e w' => e = .returned (.tuple #[cN (x0 : Nat), .bool false, cN 0]) ∧ Below W.heap.size W w') (h1 : smB s 10 4 = true) (d1 : ∀ W : World, Calls Try.prog 66 #[.string s, cN 10, cN 4] W fun e w' => e = .returned (.tuple #[cN (x1 : Nat), .bool true, cN 0]) ∧ Below W.heap.size W w') (h2 : smB s 28 2 = false) (d2 : ∀ W : World, Calls Try.prog 66 #[.string s, cN 28, cN 2] W fun e w' => e = .returned (.tuple #[cN (x2 : Nat), .bool false, cN 0]) ∧ Below W.heap.size W w') : Calls Try.prog 27 #[.string s] w fun e w' => ∃ v, e = .returned v ∧ DiR w s 3 v w' := by
  obtain ⟨i0, hi, hz0, hz1, hz2⟩ := info_parts i64Info
  have c0 : ∀ W : World, Calls Try.prog 66 #[.string s, cN 2, cN 4] W fun e w' => e = .returned (.tuple #[cN (x0 : Nat), .bool false, cN 0]) ∧ Below W.heap.size W w' := d0
  have HD0 : Hid (dl s (0 + 1) = dl s 0 ++ [2]) := Lib.hid (by show dl s 0 ++ (if smB s 2 4 then [] else [2]) = _; rw [h0]; rfl)
  have c1 : ∀ W : World, Calls Try.prog 66 #[.string s, cN 10, cN 4] W fun e w' => e = .returned (.tuple #[cN (x1 : Nat), .bool true, cN 0]) ∧ Below W.heap.size W w' := d1
  have HD1 : Hid (dl s (1 + 1) = dl s 1) := Lib.hid (by show dl s 1 ++ (if smB s 10 4 then [] else [10]) = _; rw [h1]; simp)
  have c2 : ∀ W : World, Calls Try.prog 66 #[.string s, cN 28, cN 2] W fun e w' => e = .returned (.tuple #[cN (x2 : Nat), .bool false, cN 0]) ∧ Below W.heap.size W w' := d2
  have HD2 : Hid (dl s (2 + 1) = dl s 2 ++ [28]) := Lib.hid (by show dl s 2 ++ (if smB s 28 2 then [] else [28]) = _; rw [h2]; rfl)
  clear d0 d1 d2 h0 h1 h2
  have H0 := DiR.start w s
  go_enter Try.func27, Try.ntmps27
  go_wp2_with fail
  with_reducible refine (c0 _).mono ?_
  rintro e w0 ⟨rfl, hB⟩
  have G0 := H0.below hB
  clear hB H0
  go_wp2_with (at_builtin; refine wpList_append_own _ rfl _ _ 33 rfl w.heap.size 3 i0 (.int .i64 0) 1 8 Try.underlying33 hi hz0 hz1 hz2 rfl (by decide) _ _ _ rfl (G0.1.alloc _) ⟨w0.heap.size, 0, none⟩ 1 1 [cN 2] rfl rfl ?c1 ?c2 ?c3 ?c4 ?c5 ?_)
  case c1 =>
    intro j u hj
    match j, hj with
    | 0, hj => simp at hj; subst hj; simp [Addr.add]
  case c2 => intro u hu; simp at hu; subst hu; rfl
  case c3 => have := dl_len s 0; unfold maxLen; omega
  case c4 => have := dl_len s 0; omega
  case c5 => have := G0.2.size; simp; omega
  intro v0 y0 hown hgrow _
  have H1 : DiR w s 1 _ _ := G0.put (a := 2) HD0.out hown hgrow
  clear hown hgrow G0
  go_wp2_with fail
  with_reducible refine (c1 _).mono ?_
  rintro e w1 ⟨rfl, hB⟩
  have H2 : DiR w s 2 _ _ := (H1.below hB).same HD1.out
  clear hB H1
  go_wp2_with fail
  with_reducible refine (c2 _).mono ?_
  rintro e w2 ⟨rfl, hB⟩
  have G2 := H2.below hB
  clear hB H2
  go_wp2_with (at_builtin; refine wpList_append_own _ rfl _ _ 33 rfl w.heap.size 3 i0 (.int .i64 0) 1 8 Try.underlying33 hi hz0 hz1 hz2 rfl (by decide) _ _ _ rfl (G2.1.alloc _) ⟨w2.heap.size, 0, none⟩ 1 1 [cN 28] rfl rfl ?c1 ?c2 ?c3 ?c4 ?c5 ?_)
  case c1 =>
    intro j u hj
    match j, hj with
    | 0, hj => simp at hj; subst hj; simp [Addr.add]
  case c2 => intro u hu; simp at hu; subst hu; rfl
  case c3 => have := dl_len s 2; unfold maxLen; omega
  case c4 => have := dl_len s 2; omega
  case c5 => have := G2.2.size; simp; omega
  intro v2 y2 hown hgrow _
  have H3 : DiR w s 3 _ _ := G2.put (a := 28) HD2.out hown hgrow
  clear hown hgrow G2
  go_wp2
  go_ret
  exact ⟨_, rfl, H3⟩
set_option maxRecDepth 100000 in
set_option maxHeartbeats 2000000 in
theorem rdiffer_fft (s : ByteArray) (x0 x1 x2 : Nat) (w : World) (h : (34 : Int) ≤ s.size) (h0 : smB s 2 4 = false) (d0 : ∀ W : World, Calls Try.prog 66 #[.string s, cN 2, cN 4] W fun e w' => e = .returned (.tuple #[cN (x0 : Nat), .bool false, cN 0]) ∧ Below W.heap.size W w') (h1 : smB s 10 4 = false) (d1 : ∀ W : World, Calls Try.prog 66 #[.string s, cN 10, cN 4] W fun e w' => e = .returned (.tuple #[cN (x1 : Nat), .bool false, cN 0]) ∧ Below W.heap.size W w') (h2 : smB s 28 2 = true) (d2 : ∀ W : World, Calls Try.prog 66 #[.string s, cN 28, cN 2] W fun e w' => e = .returned (.tuple #[cN (x2 : Nat), .bool true, cN 0]) ∧ Below W.heap.size W w') : Calls Try.prog 27 #[.string s] w fun e w' => ∃ v, e = .returned v ∧ DiR w s 3 v w' := by
  obtain ⟨i0, hi, hz0, hz1, hz2⟩ := info_parts i64Info
  have c0 : ∀ W : World, Calls Try.prog 66 #[.string s, cN 2, cN 4] W fun e w' => e = .returned (.tuple #[cN (x0 : Nat), .bool false, cN 0]) ∧ Below W.heap.size W w' := d0
  have HD0 : Hid (dl s (0 + 1) = dl s 0 ++ [2]) := Lib.hid (by show dl s 0 ++ (if smB s 2 4 then [] else [2]) = _; rw [h0]; rfl)
  have c1 : ∀ W : World, Calls Try.prog 66 #[.string s, cN 10, cN 4] W fun e w' => e = .returned (.tuple #[cN (x1 : Nat), .bool false, cN 0]) ∧ Below W.heap.size W w' := d1
  have HD1 : Hid (dl s (1 + 1) = dl s 1 ++ [10]) := Lib.hid (by show dl s 1 ++ (if smB s 10 4 then [] else [10]) = _; rw [h1]; rfl)
  have c2 : ∀ W : World, Calls Try.prog 66 #[.string s, cN 28, cN 2] W fun e w' => e = .returned (.tuple #[cN (x2 : Nat), .bool true, cN 0]) ∧ Below W.heap.size W w' := d2
  have HD2 : Hid (dl s (2 + 1) = dl s 2) := Lib.hid (by show dl s 2 ++ (if smB s 28 2 then [] else [28]) = _; rw [h2]; simp)
  clear d0 d1 d2 h0 h1 h2
  have H0 := DiR.start w s
  go_enter Try.func27, Try.ntmps27
  go_wp2_with fail
  with_reducible refine (c0 _).mono ?_
  rintro e w0 ⟨rfl, hB⟩
  have G0 := H0.below hB
  clear hB H0
  go_wp2_with (at_builtin; refine wpList_append_own _ rfl _ _ 33 rfl w.heap.size 3 i0 (.int .i64 0) 1 8 Try.underlying33 hi hz0 hz1 hz2 rfl (by decide) _ _ _ rfl (G0.1.alloc _) ⟨w0.heap.size, 0, none⟩ 1 1 [cN 2] rfl rfl ?c1 ?c2 ?c3 ?c4 ?c5 ?_)
  case c1 =>
    intro j u hj
    match j, hj with
    | 0, hj => simp at hj; subst hj; simp [Addr.add]
  case c2 => intro u hu; simp at hu; subst hu; rfl
  case c3 => have := dl_len s 0; unfold maxLen; omega
  case c4 => have := dl_len s 0; omega
  case c5 => have := G0.2.size; simp; omega
  intro v0 y0 hown hgrow _
  have H1 : DiR w s 1 _ _ := G0.put (a := 2) HD0.out hown hgrow
  clear hown hgrow G0
  go_wp2_with fail
  with_reducible refine (c1 _).mono ?_
  rintro e w1 ⟨rfl, hB⟩
  have G1 := H1.below hB
  clear hB H1
  go_wp2_with (at_builtin; refine wpList_append_own _ rfl _ _ 33 rfl w.heap.size 3 i0 (.int .i64 0) 1 8 Try.underlying33 hi hz0 hz1 hz2 rfl (by decide) _ _ _ rfl (G1.1.alloc _) ⟨w1.heap.size, 0, none⟩ 1 1 [cN 10] rfl rfl ?c1 ?c2 ?c3 ?c4 ?c5 ?_)
  case c1 =>
    intro j u hj
    match j, hj with
    | 0, hj => simp at hj; subst hj; simp [Addr.add]
  case c2 => intro u hu; simp at hu; subst hu; rfl
  case c3 => have := dl_len s 1; unfold maxLen; omega
  case c4 => have := dl_len s 1; omega
  case c5 => have := G1.2.size; simp; omega
  intro v1 y1 hown hgrow _
  have H2 : DiR w s 2 _ _ := G1.put (a := 10) HD1.out hown hgrow
  clear hown hgrow G1
  go_wp2_with fail
  with_reducible refine (c2 _).mono ?_
  rintro e w2 ⟨rfl, hB⟩
  have H3 : DiR w s 3 _ _ := (H2.below hB).same HD2.out
  clear hB H2
  go_wp2
  go_ret
  exact ⟨_, rfl, H3⟩
set_option maxRecDepth 100000 in
set_option maxHeartbeats 2000000 in
theorem rdiffer_fff (s : ByteArray) (x0 x1 x2 : Nat) (w : World) (h : (34 : Int) ≤ s.size) (h0 : smB s 2 4 = false) (d0 : ∀ W : World, Calls Try.prog 66 #[.string s, cN 2, cN 4] W fun e w' => e = .returned (.tuple #[cN (x0 : Nat), .bool false, cN 0]) ∧ Below W.heap.size W w') (h1 : smB s 10 4 = false) (d1 : ∀ W : World, Calls Try.prog 66 #[.string s, cN 10, cN 4] W fun e w' => e = .returned (.tuple #[cN (x1 : Nat), .bool false, cN 0]) ∧ Below W.heap.size W w') (h2 : smB s 28 2 = false) (d2 : ∀ W : World, Calls Try.prog 66 #[.string s, cN 28, cN 2] W fun e w' => e = .returned (.tuple #[cN (x2 : Nat), .bool false, cN 0]) ∧ Below W.heap.size W w') : Calls Try.prog 27 #[.string s] w fun e w' => ∃ v, e = .returned v ∧ DiR w s 3 v w' := by
  obtain ⟨i0, hi, hz0, hz1, hz2⟩ := info_parts i64Info
  have c0 : ∀ W : World, Calls Try.prog 66 #[.string s, cN 2, cN 4] W fun e w' => e = .returned (.tuple #[cN (x0 : Nat), .bool false, cN 0]) ∧ Below W.heap.size W w' := d0
  have HD0 : Hid (dl s (0 + 1) = dl s 0 ++ [2]) := Lib.hid (by show dl s 0 ++ (if smB s 2 4 then [] else [2]) = _; rw [h0]; rfl)
  have c1 : ∀ W : World, Calls Try.prog 66 #[.string s, cN 10, cN 4] W fun e w' => e = .returned (.tuple #[cN (x1 : Nat), .bool false, cN 0]) ∧ Below W.heap.size W w' := d1
  have HD1 : Hid (dl s (1 + 1) = dl s 1 ++ [10]) := Lib.hid (by show dl s 1 ++ (if smB s 10 4 then [] else [10]) = _; rw [h1]; rfl)
  have c2 : ∀ W : World, Calls Try.prog 66 #[.string s, cN 28, cN 2] W fun e w' => e = .returned (.tuple #[cN (x2 : Nat), .bool false, cN 0]) ∧ Below W.heap.size W w' := d2
  have HD2 : Hid (dl s (2 + 1) = dl s 2 ++ [28]) := Lib.hid (by show dl s 2 ++ (if smB s 28 2 then [] else [28]) = _; rw [h2]; rfl)
  clear d0 d1 d2 h0 h1 h2
  have H0 := DiR.start w s
  go_enter Try.func27, Try.ntmps27
  go_wp2_with fail
  with_reducible refine (c0 _).mono ?_
  rintro e w0 ⟨rfl, hB⟩
  have G0 := H0.below hB
  clear hB H0
  go_wp2_with (at_builtin; refine wpList_append_own _ rfl _ _ 33 rfl w.heap.size 3 i0 (.int .i64 0) 1 8 Try.underlying33 hi hz0 hz1 hz2 rfl (by decide) _ _ _ rfl (G0.1.alloc _) ⟨w0.heap.size, 0, none⟩ 1 1 [cN 2] rfl rfl ?c1 ?c2 ?c3 ?c4 ?c5 ?_)
  case c1 =>
    intro j u hj
    match j, hj with
    | 0, hj => simp at hj; subst hj; simp [Addr.add]
  case c2 => intro u hu; simp at hu; subst hu; rfl
  case c3 => have := dl_len s 0; unfold maxLen; omega
  case c4 => have := dl_len s 0; omega
  case c5 => have := G0.2.size; simp; omega
  intro v0 y0 hown hgrow _
  have H1 : DiR w s 1 _ _ := G0.put (a := 2) HD0.out hown hgrow
  clear hown hgrow G0
  go_wp2_with fail
  with_reducible refine (c1 _).mono ?_
  rintro e w1 ⟨rfl, hB⟩
  have G1 := H1.below hB
  clear hB H1
  go_wp2_with (at_builtin; refine wpList_append_own _ rfl _ _ 33 rfl w.heap.size 3 i0 (.int .i64 0) 1 8 Try.underlying33 hi hz0 hz1 hz2 rfl (by decide) _ _ _ rfl (G1.1.alloc _) ⟨w1.heap.size, 0, none⟩ 1 1 [cN 10] rfl rfl ?c1 ?c2 ?c3 ?c4 ?c5 ?_)
  case c1 =>
    intro j u hj
    match j, hj with
    | 0, hj => simp at hj; subst hj; simp [Addr.add]
  case c2 => intro u hu; simp at hu; subst hu; rfl
  case c3 => have := dl_len s 1; unfold maxLen; omega
  case c4 => have := dl_len s 1; omega
  case c5 => have := G1.2.size; simp; omega
  intro v1 y1 hown hgrow _
  have H2 : DiR w s 2 _ _ := G1.put (a := 10) HD1.out hown hgrow
  clear hown hgrow G1
  go_wp2_with fail
  with_reducible refine (c2 _).mono ?_
  rintro e w2 ⟨rfl, hB⟩
  have G2 := H2.below hB
  clear hB H2
  go_wp2_with (at_builtin; refine wpList_append_own _ rfl _ _ 33 rfl w.heap.size 3 i0 (.int .i64 0) 1 8 Try.underlying33 hi hz0 hz1 hz2 rfl (by decide) _ _ _ rfl (G2.1.alloc _) ⟨w2.heap.size, 0, none⟩ 1 1 [cN 28] rfl rfl ?c1 ?c2 ?c3 ?c4 ?c5 ?_)
  case c1 =>
    intro j u hj
    match j, hj with
    | 0, hj => simp at hj; subst hj; simp [Addr.add]
  case c2 => intro u hu; simp at hu; subst hu; rfl
  case c3 => have := dl_len s 2; unfold maxLen; omega
  case c4 => have := dl_len s 2; omega
  case c5 => have := G2.2.size; simp; omega
  intro v2 y2 hown hgrow _
  have H3 : DiR w s 3 _ _ := G2.put (a := 28) HD2.out hown hgrow
  clear hown hgrow G2
  go_wp2
  go_ret
  exact ⟨_, rfl, H3⟩
theorem rdiffer_long (s : ByteArray) (w : World) (h : (34 : Int) ≤ s.size) (hs61 : s.size < 2 ^ 61) : Calls Try.prog 27 #[.string s] w fun e w' => ∃ v, e = .returned v ∧ DiR w s 3 v w' := by
  have d0 : ∀ W : World, Calls Try.prog 66 #[.string s, cN 2, cN 4] W fun e w' => e = .returned (.tuple #[cN (leR s 2 4 : Nat), .bool (smB s 2 4), cN 0]) ∧ Below W.heap.size W w' := fun W => rreadBoth_ok s 2 4 W hs61 (by decide) (by omega)
  have d1 : ∀ W : World, Calls Try.prog 66 #[.string s, cN 10, cN 4] W fun e w' => e = .returned (.tuple #[cN (leR s 10 4 : Nat), .bool (smB s 10 4), cN 0]) ∧ Below W.heap.size W w' := fun W => rreadBoth_ok s 10 4 W hs61 (by decide) (by omega)
  have d2 : ∀ W : World, Calls Try.prog 66 #[.string s, cN 28, cN 2] W fun e w' => e = .returned (.tuple #[cN (leR s 28 2 : Nat), .bool (smB s 28 2), cN 0]) ∧ Below W.heap.size W w' := fun W => rreadBoth_ok s 28 2 W hs61 (by decide) (by omega)
  cases h0 : smB s 2 4
  · rw [h0] at d0
    cases h1 : smB s 10 4
    · rw [h1] at d1
      cases h2 : smB s 28 2
      · rw [h2] at d2
        exact rdiffer_fff s _ _ _ w h h0 d0 h1 d1 h2 d2
      · rw [h2] at d2
        exact rdiffer_fft s _ _ _ w h h0 d0 h1 d1 h2 d2
    · rw [h1] at d1
      cases h2 : smB s 28 2
      · rw [h2] at d2
        exact rdiffer_ftf s _ _ _ w h h0 d0 h1 d1 h2 d2
      · rw [h2] at d2
        exact rdiffer_ftt s _ _ _ w h h0 d0 h1 d1 h2 d2
  · rw [h0] at d0
    cases h1 : smB s 10 4
    · rw [h1] at d1
      cases h2 : smB s 28 2
      · rw [h2] at d2
        exact rdiffer_tff s _ _ _ w h h0 d0 h1 d1 h2 d2
      · rw [h2] at d2
        exact rdiffer_tft s _ _ _ w h h0 d0 h1 d1 h2 d2
    · rw [h1] at d1
      cases h2 : smB s 28 2
      · rw [h2] at d2
        exact rdiffer_ttf s _ _ _ w h h0 d0 h1 d1 h2 d2
      · rw [h2] at d2
        exact rdiffer_ttt s _ _ _ w h h0 d0 h1 d1 h2 d2
end Go.Proofs.Ytnmlephjhcmbhaa
