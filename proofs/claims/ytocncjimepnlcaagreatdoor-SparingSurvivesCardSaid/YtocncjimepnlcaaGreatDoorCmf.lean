/- sparing.Encode. -/
import Derived.Test.YtocncjimepnlcaaGreatDoorCmd
import Derived.Test.YtocncjimepnlcaaGreatDoorSpa
namespace Go.Proofs.YtocncjimepnlcaaGreatDoor
set_option linter.unusedSimpArgs false
set_option linter.unusedVariables false
open Go Go.RowKit
/-- A slice of entries, an entry at a time. -/
theorem SL.rows {w : World} {v : Value} {l : List Sp} (h : SL w v l) : ∃ a c, v = .slice a l.length c ∧ ∀ k, k < l.length → ∃ b off, a = some ⟨b, off, none⟩ ∧ l.length ≤ c ∧ b < w.heap.size ∧ w.cell? ⟨b, off + k * 2, none⟩ = some (cN (at_ l k).1) ∧ w.cell? ⟨b, off + k * 2 + 1, none⟩ = some (cN (at_ l k).2) := by
  rcases h with ⟨rfl, a, c, rfl⟩ | ⟨b, off, c, rfl, hc, hb, hr⟩
  · exact ⟨a, c, rfl, fun k hk => absurd hk (Nat.not_lt_zero _)⟩
  · exact ⟨_, c, rfl, fun k hk => ⟨b, off, rfl, hc, hb, hr k hk⟩⟩
/-- Encode's own blocks. -/
structure NE (w : World) (s : Int) (v : Value) (p : Nat) (o : ByteArray) (W : World) : Prop where
  b0 : W.heap[w.heap.size]? = some (.cells #[cN s, v] 24 (0, 0))
  bp : W.heap[p]? = some (.cells #[.string o] 9 (0, 0))
  lt : w.heap.size < p
  bel : Below w.heap.size w W
theorem NE.below {w : World} {s : Int} {v : Value} {p : Nat} {o : ByteArray} {W W' : World} (h : NE w s v p o W) (k : Below W.heap.size W W') : NE w s v p o W' :=
  ⟨(k.block _ (lt_of_block h.b0)).trans h.b0, (k.block _ (lt_of_block h.bp)).trans h.bp, h.lt, bthen h.bel k⟩
theorem NE.put {w : World} {s : Int} {v : Value} {p : Nat} {o : ByteArray} {W : World} (h : NE w s v p o W) (o' : ByteArray) : NE w s v p o' (W.setCell ⟨p, 0, none⟩ (.string o')) :=
  ⟨row_other 0 _ h.b0 (by have := h.lt; omega), row_set 0 _ h.bp, h.lt, h.bel.setCell (p := ⟨p, 0, none⟩) (by have := h.lt; simp only; omega) _⟩
set_option maxRecDepth 100000 in
set_option maxHeartbeats 1000000 in
theorem enc1_ok {w : World} {s : Int} {v : Value} {p : Nat} {o : ByteArray} {W : World} (h : NE w s v p o W) (n k : Nat) (hk : k = 2 ∨ k = 4) (hn : n < 2 ^ (8 * k)) (ho : o.size ≤ 2 ^ 20) :
    Calls Tryz.prog 20 #[cN (n : Int), cN (k : Int), .pointer (some ⟨p, 0, none⟩)] W fun e W' => e = .returned (.tuple #[]) ∧ NE w s v p (o ++ leB n k) W' ∧ Hid (∀ g x, g ≠ p → W.heap[g]? = some x → W'.heap[g]? = some x) := by
  have c1 : ∀ W, Calls Tryz.prog 21 #[cN (n : Int), cN (k : Int)] W fun e w' => e = .returned (.tuple #[.string (leB n k), cN 0]) ∧ Below W.heap.size W w' := fun W => little_ok n k W hk hn
  have hz := leB_size n k
  generalize leB n k = z at c1 hz ⊢
  have hz4 : z.size ≤ 4 := by omega
  have H := Lib.hid h
  clear h hk hn hz
  go_enter Tryz.func20, Tryz.ntmps20
  go_wp2_with (go_at_call 21; (with_reducible refine (c1 _).mono ?_); rintro e w1 ⟨rfl, hB1⟩; have HN := H.out.below hB1; have q0 := Lib.cell_of_heap HN.bp 0; have f0 := Lib.frozen_of_heap HN.bp 0; have HN := Lib.hid HN; have HB := Lib.hid hB1; clear hB1)
  go_end0
  exact ⟨rfl, HN.out.put _, Lib.hid fun g x hg hx => row_other 0 _ ((HB.out.block _ (lt_of_block hx)).trans hx) hg⟩
theorem enc2_ok {w : World} {s : Int} {v : Value} {p : Nat} {o : ByteArray} {W : World} (h : NE w s v p o W) (n : Nat) (hn : n < 65536) (ho : o.size ≤ 2 ^ 20) :
    Calls Tryz.prog 20 #[cN (n : Int), cN 2, .pointer (some ⟨p, 0, none⟩)] W fun e W' => e = .returned (.tuple #[]) ∧ NE w s v p (o ++ leB n 2) W' ∧ Hid (∀ g x, g ≠ p → W.heap[g]? = some x → W'.heap[g]? = some x) := enc1_ok h n 2 (.inl rfl) hn ho
theorem enc0_ok {w : World} {s : Int} {v : Value} {p : Nat} {o : ByteArray} {W : World} (h : NE w s v p o W) (ho : o.size ≤ 2 ^ 20) :
    Calls Tryz.prog 20 #[cN 0, cN 2, .pointer (some ⟨p, 0, none⟩)] W fun e W' => e = .returned (.tuple #[]) ∧ NE w s v p (o ++ leB 0 2) W' ∧ Hid (∀ g x, g ≠ p → W.heap[g]? = some x → W'.heap[g]? = some x) := enc1_ok h 0 2 (.inl rfl) (by decide) ho
theorem enc4_ok {w : World} {s : Int} {v : Value} {p : Nat} {o : ByteArray} {W : World} (h : NE w s v p o W) (n : Nat) (hn : n < 4294967296) (ho : o.size ≤ 2 ^ 20) :
    Calls Tryz.prog 20 #[cN (n : Int), cN 4, .pointer (some ⟨p, 0, none⟩)] W fun e W' => e = .returned (.tuple #[]) ∧ NE w s v p (o ++ leB n 4) W' ∧ Hid (∀ g x, g ≠ p → W.heap[g]? = some x → W'.heap[g]? = some x) := enc1_ok h n 4 (.inr rfl) hn ho
set_option maxRecDepth 100000 in
set_option maxHeartbeats 1000000 in
theorem senc_bad (s loc : Int) (v : Value) (l : List Sp) (w : World) (h : SL w v l) (hv : validB s l = false) : Calls Tryz.prog 7 #[.agg #[cN s, v], cN loc] w fun e w' => e = .returned (.tuple #[.string ByteArray.empty, cN 1]) ∧ Below w.heap.size w w' := by
  obtain ⟨a, c, rfl, -⟩ := h.rows
  have c1 := fun (W : World) (k : Below w.heap.size w W) => valid_ok s _ l W (h.below k)
  rw [hv] at c1
  clear h hv
  go_enter Tryz.func7, Tryz.ntmps7
  go_wp2_with (go_at_call 10; (with_reducible refine (c1 _ (bal (Below.refl _ w) _)).mono ?_); rintro e w1 ⟨rfl, hB1⟩)
  go_ret2
  exact ⟨rfl, bthen (bal (Below.refl _ w) _) hB1⟩
set_option maxRecDepth 100000 in
set_option maxHeartbeats 1000000 in
theorem senc_far (s loc : Int) (v : Value) (l : List Sp) (w : World) (h : SL w v l) (hv : validB s l = true) (hw : wordB loc = false) : Calls Tryz.prog 7 #[.agg #[cN s, v], cN loc] w fun e w' => e = .returned (.tuple #[.string ByteArray.empty, cN 2]) ∧ Below w.heap.size w w' := by
  obtain ⟨a, c, rfl, -⟩ := h.rows
  have c1 := fun (W : World) (k : Below w.heap.size w W) => valid_ok s _ l W (h.below k)
  have c2 := fun W => word_ok loc W
  rw [hv] at c1
  rw [hw] at c2
  clear h hv hw
  go_enter Tryz.func7, Tryz.ntmps7
  go_wp2_with (first | (go_at_call 10; (with_reducible refine (c1 _ (bal (Below.refl _ w) _)).mono ?_); rintro e w1 ⟨rfl, hB1⟩) | (go_at_call 18; (with_reducible refine (c2 _).mono ?_); rintro e w1 ⟨rfl, rfl⟩))
  go_ret2
  exact ⟨rfl, bthen (bal (Below.refl _ w) _) hB1⟩
theorem NE.start {w : World} {s : Int} {v : Value} {W : World} (k : Below (w.alloc (.cells #[cN s, v] 24)).heap.size (w.alloc (.cells #[cN s, v] 24)) W) (o : ByteArray) : NE w s v W.heap.size o (W.alloc (.cells #[.string o] 9)) := by
  have hs := k.size
  rw [World.size_alloc] at hs
  have h0 := (k.block _ (by rw [World.size_alloc]; omega)).trans (World.alloc_heap_new w (.cells #[cN s, v] 24))
  exact ⟨(Lib.alloc_old W _ _ (by omega)).trans h0, World.alloc_heap_new W _, by omega, bal (bthen (bal (Below.refl _ w) _) k) _⟩
theorem take_snocS (l : List Sp) (k : Nat) (hk : k < l.length) : l.take (k + 1) = l.take k ++ [at_ l k] := by
  rw [List.take_succ_eq_append_getElem hk, at_, List.getD_eq_getElem?_getD, List.getElem?_eq_getElem hk, Option.getD_some]
set_option maxRecDepth 100000 in
set_option maxHeartbeats 4000000 in
theorem senc_good (s : Int) (loc : Nat) (v : Value) (l : List Sp) (w : World) (h : SL w v l) (hv : validB s l = true) (hw : wordB loc = true) : Calls Tryz.prog 7 #[.agg #[cN s, v], cN (loc : Int)] w fun e w' => e = .returned (.tuple #[.string (blockB loc (bodyB s.toNat l)), cN 0]) ∧ Below w.heap.size w w' := by
  obtain ⟨a, c, rfl, hrow⟩ := h.rows
  have V := (valid_iff s l).1 hv
  obtain ⟨sn, rfl⟩ : ∃ sn : Nat, s = sn := ⟨s.toNat, by have := V.s0; omega⟩
  rw [Int.toNat_natCast]
  have hs1 : sn < 4294967296 := by have := V.s1; omega
  have hl8 := V.len
  have VW := Lib.hid V.w
  have hloc : loc < 4294967296 := by
    simp only [wordB, decide_eq_true_eq] at hw
    omega
  have c1 := fun (W : World) (k : Below w.heap.size w W) => valid_ok sn _ l W (h.below k)
  have c2 := fun W => word_ok loc W
  rw [hv] at c1
  rw [hw] at c2
  have HR := Lib.hid hrow
  have c9 := fun W => block_ok loc (bodyB sn l) W hloc (by rw [bodyB_size]; omega)
  generalize hBK : blockB loc (bodyB sn l) = BK at c9 ⊢
  have c3 : ∀ W, Calls Tryz.prog 19 #[.string ⟨#[42, 85, 68, 70, 32, 83, 112, 97, 114, 105, 110, 103, 32, 84, 97, 98, 108, 101]⟩, .string ⟨#[1, 2]⟩] W fun e w' => e = .returned (.tuple #[.string entB, cN 0]) ∧ Below W.heap.size W w' := fun W => entity_ok W
  have hHD : hdB sn l.length = entB ++ leB l.length 2 ++ leB 0 2 ++ leB sn 4 := rfl
  have hes := entB_size
  have HBD : Hid (∀ k, (rowB (hdB sn l.length) (l.take k)).size ≤ 2 ^ 19) := Lib.hid (by
    intro k
    rw [rowB_size, List.length_take]
    have : (hdB sn l.length).size = 40 := by unfold hdB; simp only [size_app, leB_size, entB_size]
    omega)
  have HBB : Hid (rowB (hdB sn l.length) (l.take l.length) = bodyB sn l) := Lib.hid (by rw [List.take_length]; rfl)
  generalize bodyB sn l = BO at c9 HBB
  have HHD := Lib.hid hHD
  generalize hdB sn l.length = HD at HBD HBB HHD
  generalize entB = E at c3 hes HHD
  clear hrow h hv hw V hBK hHD
  go_enter Tryz.func7, Tryz.ntmps7
  go_wp2_with (first | (go_at_call 10; (with_reducible refine (c1 _ (bal (Below.refl _ w) _)).mono ?_); rintro e w1 ⟨rfl, hB1⟩; have HB1 := Lib.hid hB1; clear hB1 c1) | (go_at_call 18; (with_reducible refine (c2 _).mono ?_); rintro e w1 ⟨rfl, rfl⟩) | (go_at_call 19; (with_reducible refine (c3 _).mono ?_); rintro e w2 ⟨rfl, hB2⟩; have HN := Lib.hid (NE.start (bthen HB1.out hB2) E); clear hB2 HB1 c3; have p0 := Lib.cell_of_heap HN.out.b0 0; have p1 := Lib.cell_of_heap HN.out.b0 1))
  have HP := Lib.hid HN.out.lt
  generalize hq : w2.heap.size = q at *
  clear hq
  with_reducible refine (enc2_ok HN.out l.length (by omega) (by omega)).mono ?_
  rintro e w3 ⟨rfl, hN3, -⟩
  clear HN p0 p1
  have p0 := Lib.cell_of_heap hN3.b0 0
  have p1 := Lib.cell_of_heap hN3.b0 1
  have HN := Lib.hid hN3
  clear hN3
  go_wp2_with fail
  have hz1 : (E ++ leB l.length 2).size = 34 := by rw [size_app, leB_size, hes]
  with_reducible refine (enc0_ok HN.out (by omega)).mono ?_
  rintro e w4 ⟨rfl, hN3, -⟩
  clear HN p0 p1
  have p0 := Lib.cell_of_heap hN3.b0 0
  have p1 := Lib.cell_of_heap hN3.b0 1
  have HN := Lib.hid hN3
  clear hN3
  go_wp2_with fail
  have hz2 : (E ++ leB l.length 2 ++ leB 0 2).size = 36 := by rw [size_app, leB_size, hz1]
  with_reducible refine (enc4_ok HN.out sn hs1 (by omega)).mono ?_
  rintro e w5 ⟨rfl, hN3, -⟩
  clear HN p0 p1
  rw [← HHD.out] at hN3
  have p0 := Lib.cell_of_heap hN3.b0 0
  have p1 := Lib.cell_of_heap hN3.b0 1
  have HN := Lib.hid hN3
  clear hN3 hz1 hz2 hes HHD
  go_wp2
  clear p0 p1
  go_loopw [38] (fun i wr => ∃ k : Nat, i = cN k ∧ k ≤ l.length ∧ NE w sn (.slice a l.length c) q (rowB HD (l.take k)) wr) (fun i _ => l.length - (intOf i).toNat)
  case atStart => exact ⟨0, rfl, Nat.zero_le _, HN.out⟩
  case round =>
    obtain ⟨k, rfl, hk, hN⟩ := hrel
    have HN := Lib.hid hN
    clear hN
    by_cases hlt : (k : Int) < (l.length : Int)
    · have hkl : k < l.length := by omega
      obtain ⟨b, off, rfl, hlc, hb, hc0, hc1⟩ := HR.out k hkl
      have HV := Lib.hid (VW.out (at_ l k) (at_mem hkl))
      have HT := Lib.hid (take_snocS l k hkl)
      obtain ⟨xo, xm, hx⟩ : ∃ xo xm, at_ l k = (xo, xm) := ⟨_, _, rfl⟩
      rw [hx] at hc0 hc1 HV HT
      obtain ⟨⟨g1, g2⟩, ⟨g3, g4⟩, -⟩ := HV.out
      simp only at g1 g2 g3 g4 hc0 hc1
      obtain ⟨on, rfl⟩ : ∃ on : Nat, xo = on := ⟨xo.toNat, by omega⟩
      obtain ⟨mn, rfl⟩ : ∃ mn : Nat, xm = mn := ⟨xm.toNat, by omega⟩
      have q0 := (HN.out.bel.cell (p := ⟨b, off + k * 2, none⟩) hb).trans hc0
      have q1 := (HN.out.bel.cell (p := ⟨b, off + k * 2 + 1, none⟩) hb).trans hc1
      have hbd := HBD.out k
      have hkc : (k : Int) ≤ (c : Int) := by omega
      have e1 : on < 4294967296 := by omega
      have e2 : mn < 4294967296 := by omega
      clear hx hc0 hc1 g1 g2 g3 g4 HV
      have hbl := lt_of_block HN.out.bp
      go_wp2_with fail
      have HX := Lib.hid (World.alloc_heap_new wr (.cells #[cN (on : Int), cN (mn : Int)] 54))
      with_reducible refine (enc4_ok (HN.out.below ((Below.refl _ _).alloc (Nat.le_refl _) (.cells #[cN (on : Int), cN (mn : Int)] 54))) on e1 (by omega)).mono ?_
      rintro e w6 ⟨rfl, hN6, hf6⟩
      have hx6 := hf6.out _ _ (by omega) HX.out
      have q2 := Lib.cell_of_heap hx6 1
      have HN6 := Lib.hid hN6
      have hz6 : (rowB HD (l.take k) ++ leB on 4).size ≤ 2 ^ 20 := by rw [size_app, leB_size]; omega
      clear hN6 hf6 hx6 HX q0 q1
      go_wp2_with fail
      with_reducible refine (enc4_ok HN6.out mn e2 hz6).mono ?_
      rintro e w7 ⟨rfl, hN7, -⟩
      have HN7 : Hid (NE w sn (.slice (some ⟨b, off, none⟩) l.length c) q (rowB HD (l.take (k + 1))) w7) := Lib.hid (by
        rw [HT.out, rowB_snoc]
        exact hN7)
      clear hN7 HN6 q2 hz6 hbd
      go_wp2
      go_roundw
      case rel => exact ⟨k + 1, by go_num, by omega, HN7.out⟩
      case measure => simp [intOf]; omega
    · obtain rfl : k = l.length := by omega
      rw [HBB.out] at HN
      have p2 := Lib.cell_of_heap HN.out.bp 0
      go_wp2_with (go_at_call 22; (with_reducible refine (c9 _).mono ?_); rintro e w8 ⟨rfl, hB8⟩)
      go_ret2
      exact ⟨rfl, bthen HN.out.bel hB8⟩
theorem senc_ok (s loc : Int) (v : Value) (l : List Sp) (w : World) (h : SL w v l) : Calls Tryz.prog 7 #[.agg #[cN s, v], cN loc] w fun e w' => e = .returned (.tuple #[.string (encS s loc l), cN (encE s loc l)]) ∧ Below w.heap.size w w' := by
  unfold encS encE
  cases hv : validB s l with
  | false => simpa using senc_bad s loc v l w h hv
  | true =>
    cases hw : wordB loc with
    | false => simpa using senc_far s loc v l w h hv hw
    | true =>
      obtain ⟨n, rfl⟩ : ∃ n : Nat, loc = n := ⟨loc.toNat, by simp only [wordB, decide_eq_true_eq] at hw; omega⟩
      simpa using senc_good s n v l w h hv hw
end Go.Proofs.YtocncjimepnlcaaGreatDoor
