/- strings.Cut at ";", directory.rank, directory.parts. -/
import Derived.Test.YtnmlephjhcmbhaaGreatDkd
namespace Go.Proofs.YtnmlephjhcmbhaaGreat
set_option linter.unusedSimpArgs false
set_option linter.unusedVariables false
open Go Go.RowKit
theorem indexByte_ixS (l : List UInt8) : Lib.indexByte l 59 = if ixS l < l.length then (ixS l : Int) else -1 := by
  induction l with
  | nil => rfl
  | cons b l ih =>
    unfold ixS at *
    rw [Lib.indexByte, List.findIdx_cons]
    cases hb : (b == 59)
    · rw [ih, List.length_cons]
      simp only [Bool.false_eq_true, ↓reduceIte, cond_false]
      obtain ⟨q, hq⟩ : ∃ q, List.findIdx (fun c : UInt8 => c == 59) l = q := ⟨_, rfl⟩
      rw [hq]
      by_cases h : q < l.length
      · rw [if_pos h, if_pos (show q + 1 < l.length + 1 by omega), if_neg (by simp; try omega)]
        omega
      · rw [if_neg h, if_neg (show ¬ q + 1 < l.length + 1 by omega)]
        decide
    · simp
theorem ext_take (s : ByteArray) (i : Nat) (h : i ≤ s.size) : s.extract 0 i = bL (s.data.toList.take i) := by
  apply ByteArray.ext
  apply Array.toList_inj.1
  simp [bL]
theorem ext_drop (s : ByteArray) (i : Nat) : s.extract i s.size = bL (s.data.toList.drop i) := by
  apply ByteArray.ext
  apply Array.toList_inj.1
  simp [bL]
  exact List.take_of_length_le (by simp)
set_option maxRecDepth 100000 in
set_option maxHeartbeats 1000000 in
theorem lcut_ok (s : ByteArray) (w : World) (hs : s.size < 2 ^ 62) : Calls Tryz.prog 89 #[.string s, .string ⟨#[59]⟩] w fun e w' =>
    e = .returned (.tuple #[.string (bL (s.data.toList.take (ixS s.data.toList))), .string (bL (s.data.toList.drop (ixS s.data.toList + 1))), .bool (decide (ixS s.data.toList < s.data.toList.length))]) ∧ Below w.heap.size w w' := by
  have c1 : ∀ W, Calls Tryz.prog 114 #[.string s, .string ⟨#[59]⟩] W fun e w' => e = .returned (cN (if ixS s.data.toList < s.data.toList.length then (ixS s.data.toList : Int) else -1)) ∧ w' = W := fun W => by
    have := Tryz.stringslite_Index_one s 59 W
    rw [indexByte_ixS] at this
    exact this
  obtain ⟨q, hq⟩ : ∃ q, ixS s.data.toList = q := ⟨_, rfl⟩
  have hl := list_size s
  rw [hq, hl] at c1
  rw [hq, hl]
  by_cases h : q < s.size
  · rw [if_pos h] at c1
    rw [decide_eq_true h]
    have e1 := ext_take s q (by omega)
    have e2 := ext_drop s (q + 1)
    have k0 : (0 : Int) ≤ (q : Int) := by omega
    have k1 : IntKind.i64.wrap ((q : Int) + 1) = (q : Int) + 1 := by rw [IntKind.wrap_i64]; omega
    have k2 : ((q : Int) + 1).toNat = q + 1 := by omega
    have k3 : (q : Int) + 1 ≤ s.size := by omega
    have k4 : (q : Int) ≤ s.size := by omega
    have HE := Lib.hid e1
    have HE2 := Lib.hid e2
    clear e1 e2 hq hl
    go_enter Tryz.func89, Tryz.ntmps89
    go_wp2_with (go_at_call 114; (with_reducible refine (c1 _).mono ?_); rintro e w1 ⟨rfl, rfl⟩)
    refine region_sch (fun w' => w' = w1.drew) [(true, 0), (true, 1), (true, 2), (true, 3), (true, 4), (true, 5), (true, 6), (true, 7), (true, 8), (true, 9)] [10, 11] (by kernel_rfl) (by kernel_rfl) (by rintro ⟨_, _, h, _⟩; cases h) (fun _ _ d _ _ h => by cases d <;> exact h) rfl ?_
    simp only [pickM, pickT, List.filterMap_cons, List.filterMap_nil, List.getElem?_cons_zero, List.getElem?_cons_succ, Option.map_some]
    repeat (refine m_float ⟨?_, .inl ⟨?_, .inl ?_⟩, fun K' hK => ?_⟩; rotate_left; (first | rfl | (go_simp; done)); (intro w' hS; subst hS; go_simp; try rfl); (simp only [Act.put, List.setIfInBounds_toArray, List.set_cons_succ, List.set_cons_zero]; refine hK _ ?_; clear hK K'))
    refine m_nil ?_
    show wpList Tryz.prog _ _ (List.cons _ _) _ _
    go_wp2
    go_ret3
    exact ⟨by rw [← HE.out, ← HE2.out]; rfl, (Below.refl _ _).drew⟩
  · rw [if_neg h] at c1
    rw [decide_eq_false h]
    have e1 : bL (s.data.toList.take q) = s := by rw [List.take_of_length_le (by omega), bL_of]
    have e2 : bL (s.data.toList.drop (q + 1)) = ⟨#[]⟩ := by rw [List.drop_eq_nil_of_le (by omega)]; rfl
    have HE := Lib.hid e1
    have HE2 := Lib.hid e2
    clear hq hl e1 e2
    go_enter Tryz.func89, Tryz.ntmps89
    go_wp2_with (go_at_call 114; (with_reducible refine (c1 _).mono ?_); rintro e w1 ⟨rfl, rfl⟩)
    go_ret3
    exact ⟨by rw [HE.out, HE2.out]; rfl, Below.refl _ _⟩
set_option maxRecDepth 100000 in
set_option maxHeartbeats 400000 in
theorem cut_ok (s : ByteArray) (w : World) (hs : s.size < 2 ^ 62) : Calls Tryz.prog 62 #[.string s, .string ⟨#[59]⟩] w fun e w' =>
    e = .returned (.tuple #[.string (bL (s.data.toList.take (ixS s.data.toList))), .string (bL (s.data.toList.drop (ixS s.data.toList + 1))), .bool (decide (ixS s.data.toList < s.data.toList.length))]) ∧ Below w.heap.size w w' := by
  have c1 := lcut_ok s w hs
  go_enter Tryz.func62, Tryz.ntmps62
  go_wp2_with (go_at_call 89; (with_reducible refine c1.mono ?_); rintro e w1 ⟨rfl, hB⟩)
  go_ret3
  exact ⟨rfl, hB⟩
set_option maxRecDepth 100000 in
set_option maxHeartbeats 400000 in
theorem rank_ok (s : ByteArray) (w : World) : Calls Tryz.prog 33 #[.string s] w fun e w' => e = .returned (cN (rankM s.data.toList)) ∧ w = w' := by
  have e0 : ∀ l : List UInt8, (s.toList == l) = (s.data.toList == l) := fun l => by rw [Lib.toList_data]
  unfold rankM
  by_cases h0 : s.data.toList = [0]
  · rw [if_pos h0]
    have g0 : s.toList = [0] := by rw [Lib.toList_data]; exact h0
    clear h0 e0
    go_enter Tryz.func33, Tryz.ntmps33
    go_wp2
    go_ret
    exact ⟨rfl, rfl⟩
  · rw [if_neg h0]
    have g0 : (s.toList == [0]) = false := by rw [e0]; exact beq_eq_false_iff_ne.2 h0
    by_cases h1 : s.data.toList = [1]
    · rw [if_pos h1]
      have g1 : (s.toList == [1]) = true := by rw [e0]; exact beq_iff_eq.2 h1
      clear h0 e0 h1
      go_enter Tryz.func33, Tryz.ntmps33
      go_wp2
      go_ret
      exact ⟨rfl, rfl⟩
    · rw [if_neg h1]
      have g1 : (s.toList == [1]) = false := by rw [e0]; exact beq_eq_false_iff_ne.2 h1
      clear h0 e0 h1
      go_enter Tryz.func33, Tryz.ntmps33
      go_wp2
      go_ret
      exact ⟨rfl, rfl⟩
set_option maxRecDepth 100000 in
set_option maxHeartbeats 1000000 in
theorem parts_ok (s : ByteArray) (w : World) (hs : s.size < 4294967281) : Calls Tryz.prog 35 #[.string s] w fun e w' =>
    e = .returned (.tuple #[.string (bL (nameL s.data.toList)), .string (bL (extL s.data.toList)), .string (bL (verL s.data.toList))]) ∧ Below w.heap.size w w' := by
  have c1 := idx_ok s w hs
  unfold idxI at c1
  obtain ⟨l, hl⟩ : ∃ l, s.data.toList = l := ⟨_, rfl⟩
  have hsz : l.length = s.size := by rw [← hl, list_size]
  rw [hl] at c1 ⊢
  obtain ⟨q, hq⟩ : ∃ q, ixD l = q := ⟨_, rfl⟩
  have hle : q ≤ l.length := by rw [← hq]; exact List.findIdx_le_length
  rw [hq] at c1
  by_cases h : q < l.length
  · rw [if_pos h] at c1
    have hqs : q < s.size := by omega
    have hx : (s[q]'hqs) = l.getD q 0 := by
      subst hl
      rw [List.getD_eq_getElem?_getD, List.getElem?_eq_getElem h, Option.getD_some]; rfl
    have e1 : s.extract 0 q = bL (nameL l) := by rw [ext_take s q (by omega), hl, nameL, hq]
    have e2 : s.extract (q + 1) s.size = bL (restL l) := by rw [ext_drop, hl, restL, hq]
    have hd : dotB l = (l.getD q 0 == 46) := by rw [dotB, hq]
    have k0 : (0 : Int) ≤ (q : Int) := by omega
    have k1 : IntKind.i64.wrap ((q : Int) + 1) = (q : Int) + 1 := by rw [IntKind.wrap_i64]; omega
    have k2 : ((q : Int) + 1).toNat = q + 1 := by omega
    have k3 : (q : Int) + 1 ≤ s.size := by omega
    have k4 : (q : Int) ≤ s.size := by omega
    have k5 : (q : Int) < s.size := by omega
    have hx2 : l.getD q 0 = 46 ∨ l.getD q 0 = 59 := by
      have := List.findIdx_getElem (p := fun c : UInt8 => c == 46 || c == 59) (xs := l) (w := by unfold ixD at hq; omega)
      simp only [Bool.or_eq_true, beq_iff_eq] at this
      rw [List.getD_eq_getElem?_getD, List.getElem?_eq_getElem h, Option.getD_some]
      subst hq
      exact this
    rcases hx2 with hx2 | hx2
    · rw [hx2] at hx hd
      have hd' : dotB l = true := by rw [hd]; rfl
      have c2 := fun W => cut_ok (bL (restL l)) W (by rw [bL_size]; have := restL_len l; omega)
      simp only [bL_list] at c2
      have e3 : extL l = (restL l).take (ixS (restL l)) := by rw [extL, if_pos hd']
      have e4 : verL l = (restL l).drop (ixS (restL l) + 1) := by rw [verL, if_pos hd']
      rw [← e3, ← e4] at c2
      have b1 : (((s[q]'hqs).toNat : Int) == 59) = false := by rw [hx]; decide
      clear hx hd hd' e3 e4 hl hq hx2
      go_enter Tryz.func35, Tryz.ntmps35
      go_wp2_with (go_at_call 61; (with_reducible refine c1.mono ?_); rintro e w1 ⟨rfl, hB1⟩)
      refine region_sch (fun w' => w' = w1.drew) [(true, 0), (true, 1), (true, 2), (true, 3), (true, 4), (true, 5), (true, 6), (true, 7)] [8] (by kernel_rfl) (by kernel_rfl) (by rintro ⟨_, _, h, _⟩; cases h) (fun _ _ d _ _ h => by cases d <;> exact h) rfl ?_
      simp only [pickM, pickT, List.filterMap_cons, List.filterMap_nil, List.getElem?_cons_zero, List.getElem?_cons_succ, Option.map_some]
      repeat (refine m_float ⟨?_, .inl ⟨?_, .inl ?_⟩, fun K' hK => ?_⟩; rotate_left; (first | rfl | (go_simp; done)); (intro w' hS; subst hS; go_simp; try rfl); (simp only [Act.put, List.setIfInBounds_toArray, List.set_cons_succ, List.set_cons_zero]; refine hK _ ?_; clear hK K'))
      refine m_nil ?_
      show wpList Tryz.prog _ _ (List.cons _ _) _ _
      go_wp2_with fail
      with_reducible refine (c2 _).mono ?_
      rintro e w2 ⟨rfl, hB2⟩
      go_wp2
      go_ret3
      exact ⟨rfl, bthen hB1.drew hB2⟩
    · rw [hx2] at hx hd
      have hd' : dotB l = false := by rw [hd]; rfl
      have e3 : extL l = [] := by rw [extL, hd']; rfl
      have e4 : verL l = restL l := by rw [verL, hd']; rfl
      rw [e3, e4]
      have b1 : (((s[q]'hqs).toNat : Int) == 59) = true := by rw [hx]; decide
      clear hx hd hd' e3 e4 hl hq hx2
      go_enter Tryz.func35, Tryz.ntmps35
      go_wp2_with (go_at_call 61; (with_reducible refine c1.mono ?_); rintro e w1 ⟨rfl, hB1⟩)
      refine region_sch (fun w' => w' = w1.drew) [(true, 0), (true, 1), (true, 2), (true, 3), (true, 4), (true, 5), (true, 6), (true, 7)] [8] (by kernel_rfl) (by kernel_rfl) (by rintro ⟨_, _, h, _⟩; cases h) (fun _ _ d _ _ h => by cases d <;> exact h) rfl ?_
      simp only [pickM, pickT, List.filterMap_cons, List.filterMap_nil, List.getElem?_cons_zero, List.getElem?_cons_succ, Option.map_some]
      repeat (refine m_float ⟨?_, .inl ⟨?_, .inl ?_⟩, fun K' hK => ?_⟩; rotate_left; (first | rfl | (go_simp; done)); (intro w' hS; subst hS; go_simp; try rfl); (simp only [Act.put, List.setIfInBounds_toArray, List.set_cons_succ, List.set_cons_zero]; refine hK _ ?_; clear hK K'))
      refine m_nil ?_
      show wpList Tryz.prog _ _ (List.cons _ _) _ _
      go_wp2
      go_ret3
      exact ⟨rfl, hB1.drew⟩
  · rw [if_neg h] at c1
    have hql : q = l.length := by omega
    have e1 : bL (nameL l) = s := by rw [nameL, hq, List.take_of_length_le (by omega), ← hl, bL_of]
    have er : restL l = [] := by rw [restL, hq]; exact List.drop_eq_nil_of_le (by omega)
    have e2 : bL (extL l) = ⟨#[]⟩ := by unfold extL; rw [er]; split <;> rfl
    have e3 : bL (verL l) = ⟨#[]⟩ := by unfold verL; rw [er]; split <;> rfl
    rw [e1, e2, e3]
    clear hl hq e1 er e2 e3 hql h
    go_enter Tryz.func35, Tryz.ntmps35
    go_wp2_with (go_at_call 61; (with_reducible refine c1.mono ?_); rintro e w1 ⟨rfl, hB1⟩)
    go_ret3
    exact ⟨rfl, hB1⟩
end Go.Proofs.YtnmlephjhcmbhaaGreat
