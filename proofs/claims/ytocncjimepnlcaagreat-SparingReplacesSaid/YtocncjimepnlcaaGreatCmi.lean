/- The law SparingEncodes, walked. -/
import Derived.Test.YtocncjimepnlcaaGreatCmh
import Derived.Test.YtocncjimepnlcaaGreatCmg
import Derived.Test.YtocncjimepnlcaaGreatSpl
namespace Go.Proofs.YtocncjimepnlcaaGreat
set_option linter.unusedSimpArgs false
set_option linter.unusedVariables false
open Go Go.RowKit
def NewGood (p0 p1 : Int) : Prop := 0 ≤ p0 ∧ 8 ≤ p1 ∧ p1 ≤ 64 ∧ p1 % 8 = 0 ∧ p0 ≤ 4096 - p1
instance (p0 p1 : Int) : Decidable (NewGood p0 p1) := by unfold NewGood; infer_instance
def newE (p0 p1 : Int) : Int := if NewGood p0 p1 then 0 else 2
def newS (p0 p1 : Int) : Int := if NewGood p0 p1 then 1 else 0
def newL (p0 p1 : Int) : List Sp := if NewGood p0 p1 then newT p0 (p1 / 8).toNat else []
theorem new_split {p0 p1 : Int} (h : ¬ NewGood p0 p1) : p0 < 0 ∨ (0 ≤ p0 ∧ p1 < 8) ∨ (0 ≤ p0 ∧ 8 ≤ p1 ∧ 64 < p1) ∨ (0 ≤ p0 ∧ 8 ≤ p1 ∧ p1 ≤ 64 ∧ Int.tmod p1 8 ≠ 0) ∨ (0 ≤ p0 ∧ 8 ≤ p1 ∧ p1 ≤ 64 ∧ Int.tmod p1 8 = 0 ∧ 4096 - p1 < p0) := by
  unfold NewGood at h
  by_cases h0 : p0 < 0
  · exact .inl h0
  by_cases h1 : p1 < 8
  · exact .inr (.inl ⟨by omega, h1⟩)
  rw [Int.tmod_eq_emod_of_nonneg (show 0 ≤ p1 by omega)]
  omega
theorem new_ok (p0 p1 : Int) (w : World) : Calls Tryz.prog 7 #[.agg #[cN p0, cN p1]] w fun e w' => ∃ v, e = .returned (.tuple #[.agg #[cN (newS p0 p1), v], cN (newE p0 p1)]) ∧ SL w' v (newL p0 p1) ∧ Below w.heap.size w w' := by
  unfold newS newE newL
  by_cases h : NewGood p0 p1
  · rw [if_pos h, if_pos h, if_pos h]
    obtain ⟨h0, h1, h2, h3, h4⟩ := h
    obtain ⟨m, rfl⟩ : ∃ m : Nat, p1 = 8 * (m : Int) := ⟨(p1 / 8).toNat, by omega⟩
    rw [show ((8 * (m : Int)) / 8).toNat = m by omega]
    exact (new_good p0 m w h0 (by omega) (by omega) (by omega)).mono fun e w' ⟨v, he, ho, hb⟩ => ⟨v, he, ho.sl, hb⟩
  · rw [if_neg h, if_neg h, if_neg h]
    exact (new_bad p0 p1 w (new_split h)).mono fun e w' ⟨he, hb⟩ => ⟨_, he, .inl ⟨rfl, none, 0, rfl⟩, hb⟩
theorem rnew_ok (p0 p1 : Int) (w : World) : Calls Tryz.prog 8 #[.agg #[cN p0, cN p1]] w fun e w' => ∃ v, e = .returned (.tuple #[.agg #[cN (newS p0 p1), v], cN (newE p0 p1)]) ∧ SL w' v (newL p0 p1) ∧ Below w.heap.size w w' := by
  unfold newS newE newL
  by_cases h : NewGood p0 p1
  · rw [if_pos h, if_pos h, if_pos h]
    obtain ⟨h0, h1, h2, h3, h4⟩ := h
    obtain ⟨m, rfl⟩ : ∃ m : Nat, p1 = 8 * (m : Int) := ⟨(p1 / 8).toNat, by omega⟩
    rw [show ((8 * (m : Int)) / 8).toNat = m by omega]
    exact (rnew_good p0 m w h0 (by omega) (by omega) (by omega)).mono fun e w' ⟨v, he, ho, hb⟩ => ⟨v, he, ho.sl, hb⟩
  · rw [if_neg h, if_neg h, if_neg h]
    exact (rnew_bad p0 p1 w (new_split h)).mono fun e w' ⟨he, hb⟩ => ⟨_, he, .inl ⟨rfl, none, 0, rfl⟩, hb⟩
set_option maxRecDepth 100000 in
set_option maxHeartbeats 400000 in
theorem same_nil (s : Int) (a1 a2 : Option Addr) (c1 c2 : Nat) (w : World) :
    Calls Tryz.prog 11 #[.agg #[cN s, .slice a1 0 c1], .agg #[cN s, .slice a2 0 c2]] w fun e w' => e = .returned (.bool true) ∧ Below w.heap.size w w' := by
  go_enter Tryz.func11, Tryz.ntmps11
  go_wp2
  go_loopw [5] (fun i wr => i = cN 0 ∧ wr = (w.alloc (.cells #[cN s, .slice a1 0 c1] 26)).alloc (.cells #[cN s, .slice a2 0 c2] 26)) (fun _ _ => 0)
  case atStart => exact ⟨rfl, rfl⟩
  case round =>
    obtain ⟨rfl, rfl⟩ := hrel
    go_wp2
    go_ret
    exact ⟨rfl, bal (bal (Below.refl _ w) _) _⟩
theorem same_sl (s : Int) (v v' : Value) (l : List Sp) (W : World) (hl : l.length ≤ 1000) (h : SL W v l) (h' : SL W v' l) : Calls Tryz.prog 11 #[.agg #[cN s, v], .agg #[cN s, v']] W fun e w' => e = .returned (.bool true) ∧ Below W.heap.size W w' := by
  rcases h with ⟨rfl, a1, c1, rfl⟩ | ⟨b, o, c, rfl, hc, hb, hr⟩
  · obtain ⟨a2, c2, rfl⟩ := h'.form
    exact same_nil s a1 a2 c1 c2 W
  · rcases h' with ⟨rfl, a2, c2, rfl⟩ | ⟨b', o', c', rfl, hc', hb', hr'⟩
    · exact same_nil s _ a2 c c2 W
    · exact same_row s b o c b' o' c' l W hl hb hb' hc hc' hr hr'
/-- The world in the course of the law. -/
structure LW (w : World) (p0 p1 s : Int) (v : Value) (l : List Sp) (W : World) : Prop where
  b0 : W.heap[w.heap.size]? = some (.cells #[cN p0, cN p1] 23 (0, 0))
  b1 : W.heap[w.heap.size + 1]? = some (.cells #[cN s, v] 26 (0, 0))
  sl : SL W v l
  bel : Below w.heap.size w W
theorem LW.below {w : World} {p0 p1 s : Int} {v : Value} {l : List Sp} {W W' : World} (h : LW w p0 p1 s v l W) (k : Below W.heap.size W W') : LW w p0 p1 s v l W' :=
  ⟨(k.block _ (lt_of_block h.b0)).trans h.b0, (k.block _ (lt_of_block h.b1)).trans h.b1, h.sl.below k, bthen h.bel k⟩
theorem LW.start (w : World) (p0 p1 s : Int) (v : Value) (l : List Sp) (h : SL w v l) : LW w p0 p1 s v l ((w.alloc (.cells #[cN p0, cN p1] 23)).alloc (.cells #[cN s, v] 26)) := by
  refine ⟨(Lib.alloc_old _ _ _ (by simp)).trans (World.alloc_heap_new w _), ?_, h.below (bal (bal (Below.refl _ w) _) _), bal (bal (Below.refl _ w) _) _⟩
  have := World.alloc_heap_new (w.alloc (.cells #[cN p0, cN p1] 23)) (.cells #[cN s, v] 26)
  rwa [World.size_alloc] at this
/-- A table of the law's own. -/
structure TB (s : Int) (v : Value) (l : List Sp) (x : Nat) (W : World) : Prop where
  b : W.heap[x]? = some (.cells #[cN s, v] 26 (0, 0))
  sl : SL W v l
theorem TB.below {s : Int} {v : Value} {l : List Sp} {x : Nat} {W W' : World} (h : TB s v l x W) (k : Below W.heap.size W W') : TB s v l x W' := ⟨(k.block _ (lt_of_block h.b)).trans h.b, h.sl.below k⟩
theorem TB.new {s : Int} {v : Value} {l : List Sp} {W : World} (h : SL W v l) : TB s v l W.heap.size (W.alloc (.cells #[cN s, v] 26)) := ⟨World.alloc_heap_new W _, h.below (bal (Below.refl _ W) _)⟩
set_option maxRecDepth 100000 in
set_option maxHeartbeats 1000000 in
theorem lsenc_big (p0 p1 s : Int) (a : Option Addr) (c : Nat) (l : List Sp) (loc : Int) (w : World) (hn : (20 : Int) < (l.length : Int)) (h : SL w (.slice a l.length c) l) :
    Calls Tryz.prog 3 #[.agg #[cN p0, cN p1], .agg #[cN s, .slice a l.length c], cN loc] w fun e w' => e = .returned (.bool true) ∧ Below w.heap.size w w' := by
  have hd := decide_eq_true hn
  have H := Lib.hid (LW.start w p0 p1 s _ l h)
  clear h
  go_enter Tryz.func3, Tryz.ntmps3
  go_wp2_with (first | (go_at_call 5; (with_reducible refine (awake_ok _).mono ?_); rintro e w1 ⟨rfl, hB1⟩; have H1 := H.out.below hB1; clear hB1 H; have p1' := Lib.cell_of_heap H1.b1 0; have p2' := Lib.cell_of_heap H1.b1 1; have H := Lib.hid H1; clear H1) | (go_at_call 6; (with_reducible refine (few_ok s a l.length c _ _ (World.alloc_heap_new _ _)).mono ?_); rw [hd]; rintro e w2 ⟨rfl, hB2⟩))
  go_ret
  exact ⟨rfl, bthen (bal H.out.bel _) hB2⟩
theorem newL_len (p0 p1 : Int) : (newL p0 p1).length ≤ 1000 := by
  unfold newL
  by_cases h : NewGood p0 p1
  · rw [if_pos h, newT_len]
    obtain ⟨_, _, h2, _, _⟩ := h
    omega
  · rw [if_neg h]
    exact Nat.zero_le _
set_option maxRecDepth 100000 in
set_option maxHeartbeats 4000000 in
theorem lsenc_small (p0 p1 s : Int) (a : Option Addr) (c : Nat) (l : List Sp) (loc : Int) (w : World) (hn : ¬ (20 : Int) < (l.length : Int)) (h : SL w (.slice a l.length c) l) :
    Calls Tryz.prog 3 #[.agg #[cN p0, cN p1], .agg #[cN s, .slice a l.length c], cN loc] w fun e w' => e = .returned (.bool true) ∧ Below w.heap.size w w' := by
  have hd := decide_eq_false hn
  have H := Lib.hid (LW.start w p0 p1 s _ l h)
  have k1 := fun W => new_ok p0 p1 W
  have k2 := fun W => rnew_ok p0 p1 W
  have hlen := newL_len p0 p1
  have k3 := fun W (h : SL W (.slice a l.length c) l) => senc_ok s loc _ l W h
  have k4 := fun W (h : SL W (.slice a l.length c) l) => rsenc_ok s loc _ l W h
  have k5 := fun W (h : SL W (.slice a l.length c) l) => valid_ok s _ l W h
  have k6 := fun W (h : SL W (.slice a l.length c) l) => rvalid_ok s _ l W h
  generalize newL p0 p1 = lN at k1 k2 hlen
  generalize newS p0 p1 = sN at k1 k2
  generalize newE p0 p1 = eN at k1 k2
  generalize encS s loc l = S at k3 k4
  generalize encE s loc l = E at k3 k4
  generalize validB s l = vb at k5 k6
  have HL := Lib.hid hlen
  clear h hn hlen
  go_enter Tryz.func3, Tryz.ntmps3
  go_wp2_with (first | (go_at_call 5; (with_reducible refine (awake_ok _).mono ?_); rintro e w1 ⟨rfl, hB1⟩; have H1 := H.out.below hB1; clear hB1 H; have p1' := Lib.cell_of_heap H1.b1 0; have p2' := Lib.cell_of_heap H1.b1 1; have H := Lib.hid H1; clear H1) | (go_at_call 6; (with_reducible refine (few_ok s a l.length c _ _ (World.alloc_heap_new _ _)).mono ?_); rw [hd]; rintro e w2 ⟨rfl, hB2⟩; have H1 := (H.out.below ((Below.refl _ _).alloc (Nat.le_refl _) _)).below hB2; clear hB2 H p1' p2'; have p1' := Lib.cell_of_heap H1.b0 0; have p2' := Lib.cell_of_heap H1.b0 1; have H := Lib.hid H1; clear H1))
  with_reducible refine (k1 _).mono ?_
  rintro e w3 ⟨v1, rfl, hS1, hB3⟩
  have H1 := H.out.below hB3
  obtain ⟨a1, c1, rfl⟩ := hS1.form
  clear H p1' p2' hB3
  have T1 := Lib.hid (TB.new (s := sN) hS1)
  have H := Lib.hid (H1.below ((Below.refl _ _).alloc (Nat.le_refl _) (.cells #[cN sN, .slice a1 lN.length c1] 26)))
  have p1' := Lib.cell_of_heap H.out.b0 0
  have p2' := Lib.cell_of_heap H.out.b0 1
  clear H1 hS1
  go_wp2_with fail
  with_reducible refine (k2 _).mono ?_
  rintro e w4 ⟨v2, rfl, hS2, hB4⟩
  obtain ⟨a2, c2, rfl⟩ := hS2.form
  have T2 := Lib.hid (TB.new (s := sN) hS2)
  have T1' := Lib.hid ((T1.out.below hB4).below ((Below.refl _ _).alloc (Nat.le_refl _) (.cells #[cN sN, .slice a2 lN.length c2] 26)))
  have H' := Lib.hid ((H.out.below hB4).below ((Below.refl _ _).alloc (Nat.le_refl _) (.cells #[cN sN, .slice a2 lN.length c2] 26)))
  clear p1' p2' H T1 hB4 hS2
  have p1' := Lib.cell_of_heap H'.out.b1 0
  have p2' := Lib.cell_of_heap H'.out.b1 1
  go_wp2_with fail
  generalize w3.heap.size = x1 at *
  generalize w4.heap.size = x2 at *
  with_reducible refine (k3 _ H'.out.sl).mono ?_
  rintro e w5 ⟨rfl, hB5⟩
  have T1 := Lib.hid (T1'.out.below hB5)
  have T3 := Lib.hid (T2.out.below hB5)
  have H := Lib.hid (H'.out.below hB5)
  clear p1' p2' H' T1' T2 hB5
  have p1' := Lib.cell_of_heap H.out.b1 0
  have p2' := Lib.cell_of_heap H.out.b1 1
  go_wp2_with fail
  with_reducible refine (k4 _ H.out.sl).mono ?_
  rintro e w6 ⟨rfl, hB6⟩
  have HT : Hid (LW w p0 p1 s (.slice a l.length c) l w6 ∧ TB sN (.slice a1 lN.length c1) lN x1 w6 ∧ TB sN (.slice a2 lN.length c2) lN x2 w6) := Lib.hid ⟨H.out.below hB6, T1.out.below hB6, T3.out.below hB6⟩
  clear p1' p2' H T1 T3 hB6
  have HD : Hid (∀ W, (LW w p0 p1 s (.slice a l.length c) l W ∧ TB sN (.slice a1 lN.length c1) lN x1 W ∧ TB sN (.slice a2 lN.length c2) lN x2 W) → ∀ W', Below W.heap.size W W' → (LW w p0 p1 s (.slice a l.length c) l W' ∧ TB sN (.slice a1 lN.length c1) lN x1 W' ∧ TB sN (.slice a2 lN.length c2) lN x2 W')) := Lib.hid fun W h W' k => ⟨h.1.below k, h.2.1.below k, h.2.2.below k⟩
  have HT0 := Lib.hid (HD.out _ HT.out _ (Below.refl _ w6).drew)
  go_wp2
  refine region_sch (fun W => (LW w p0 p1 s (.slice a l.length c) l W ∧ TB sN (.slice a1 lN.length c1) lN x1 W ∧ TB sN (.slice a2 lN.length c2) lN x2 W)) [(true, 0), (true, 1), (false, 2), (true, 3), (true, 4), (true, 5), (true, 6), (true, 7), (true, 8), (true, 9), (true, 10), (true, 11), (true, 12), (true, 13), (true, 14), (true, 15), (true, 16), (true, 17), (true, 18), (true, 19), (true, 21), (false, 20)] [22, 23, 24, 25] (by kernel_rfl) (by kernel_rfl) (by rintro ⟨_, _, h, _⟩; cases h) (fun _ _ d _ _ h => by cases d <;> exact h) HT0.out ?_
  simp only [pickM, pickT, List.filterMap_cons, List.filterMap_nil, List.getElem?_cons_zero, List.getElem?_cons_succ, Option.map_some]
  repeat (first | (refine m_float ⟨?_, .inl ⟨?_, .inl ?_⟩, fun K' hK => ?_⟩; rotate_left; (first | rfl | (go_simp; done)); (intro w' hS; (have p1' := Lib.cell_of_heap hS.2.1.b 0; have p2' := Lib.cell_of_heap hS.2.1.b 1; have p3' := Lib.cell_of_heap hS.2.2.b 0; have p4' := Lib.cell_of_heap hS.2.2.b 1); go_simp; try rfl); (simp only [Act.put, List.setIfInBounds_toArray, List.set_cons_succ, List.set_cons_zero]; refine hK _ ?_; clear hK K')) | (refine m_float ⟨undef, .inr ⟨?_, rfl⟩, fun K' hK => ?_⟩; (first | rfl | (go_simp; done)); (simp only [Act.put, List.setIfInBounds_toArray, List.set_cons_succ, List.set_cons_zero]; refine hK _ ?_; clear hK K')))
  refine m_loud ?_ (fun K' hK => ?_)
  · rintro ⟨_, _, h, _⟩; cases h
  go_wp2_with (go_at_call 11; (with_reducible refine (same_sl sN _ _ lN _ HL.out HT0.out.2.1.sl HT0.out.2.2.sl).mono ?_); rintro e w7 ⟨rfl, hB7⟩)
  have HT7 := Lib.hid (HD.out _ HT0.out _ hB7)
  refine hK _ _ HT7.out ?_
  clear hK K'
  repeat (first | (refine m_float ⟨?_, .inl ⟨?_, .inl ?_⟩, fun K' hK => ?_⟩; rotate_left; (first | rfl | (go_simp; done)); (intro w' hS; (have p1' := Lib.cell_of_heap hS.1.b1 0; have p2' := Lib.cell_of_heap hS.1.b1 1); go_simp; try rfl); (simp only [Act.put, List.setIfInBounds_toArray, List.set_cons_succ, List.set_cons_zero]; refine hK _ ?_; clear hK K')) | (refine m_float ⟨undef, .inr ⟨?_, rfl⟩, fun K' hK => ?_⟩; (first | rfl | (go_simp; done)); (simp only [Act.put, List.setIfInBounds_toArray, List.set_cons_succ, List.set_cons_zero]; refine hK _ ?_; clear hK K')))
  refine m_loud ?_ (fun K' hK => ?_)
  · rintro ⟨_, _, h, _⟩; cases h
  go_wp2_with (go_at_call 12; (with_reducible refine (k5 _ HT7.out.1.sl).mono ?_); rintro e w8 ⟨rfl, hB8⟩)
  have HT8 := Lib.hid (HD.out _ HT7.out _ hB8)
  refine hK _ _ HT8.out ?_
  clear hK K'
  refine m_nil ?_
  show wpList Tryz.prog _ _ (List.cons _ _) _ _
  go_wp2_with (go_at_call 13; (with_reducible refine (k6 _ HT8.out.1.sl).mono ?_); rintro e w9 ⟨rfl, hB9⟩)
  go_ret
  refine ⟨by simp, bthen HT8.out.1.bel hB9⟩
end Go.Proofs.YtocncjimepnlcaaGreat
