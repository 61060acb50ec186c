/- Replace of both gives the same: plain. -/
import Derived.Test.YtocncjimepnlcaaGreatCne
import Derived.Test.YtocncjimepnlcaaGreatSpl
namespace Go.Proofs.YtocncjimepnlcaaGreat
set_option linter.unusedSimpArgs false
set_option linter.unusedVariables false
theorem ltS_iff (x y : Sp) : ltS x y = true ↔ x.1 < y.1 ∨ (x.1 = y.1 ∧ x.2 < y.2) := by
  unfold ltS
  by_cases h : x.1 = y.1
  · rw [if_neg (by simp [h])]
    simp [h]
  · rw [if_pos (by simpa using h)]
    simp [h]
theorem ltS_not (x y : Sp) : ltS x y = false ↔ ¬ (x.1 < y.1 ∨ (x.1 = y.1 ∧ x.2 < y.2)) := by
  rw [← ltS_iff]
  simp
theorem bef_iff (x y : Sp) : befB x y = true ↔ x.1 < y.1 ∨ (x.1 = y.1 ∧ x.2 < y.2) := by
  simp [befB]
theorem insM_perm (x : Sp) : ∀ l : List Sp, (insM x l).Perm (x :: l)
  | [] => List.Perm.refl _
  | y :: l => by
    rw [insM]
    split
    · exact List.Perm.refl _
    · exact ((insM_perm x l).cons y).trans (List.Perm.swap x y l)
theorem insM_sorted (x : Sp) : ∀ l : List Sp, (l.Pairwise fun y x => ltS x y = false) → (insM x l).Pairwise fun y x => ltS x y = false
  | [], _ => List.pairwise_singleton _ _
  | y :: l, h => by
    rw [List.pairwise_cons] at h
    rw [insM]
    split
    · rename_i hb
      rw [bef_iff] at hb
      rw [List.pairwise_cons, List.pairwise_cons]
      refine ⟨fun z hz => ?_, h⟩
      rcases List.mem_cons.1 hz with rfl | hz
      · rw [ltS_not]; omega
      · have := h.1 z hz
        rw [ltS_not] at this ⊢
        omega
    · rename_i hb
      rw [bef_iff] at hb
      rw [List.pairwise_cons]
      refine ⟨fun z hz => ?_, insM_sorted x l h.2⟩
      rcases List.mem_cons.1 ((insM_perm x l).mem_iff.1 hz) with rfl | hz
      · rw [ltS_not]; exact hb
      · exact h.1 z hz
theorem outR_sorted (l : List Sp) (b : Nat) (f : Int) : ∀ k, (outR l b f k).Pairwise fun y x => ltS x y = false
  | 0 => List.Pairwise.nil
  | k + 1 => by
    rw [outR]
    split
    · exact insM_sorted _ _ (outR_sorted l b f k)
    · split
      · exact outR_sorted l b f k
      · exact insM_sorted _ _ (outR_sorted l b f k)
theorem bk_sign (l : List Sp) : ∀ n, bestK l n = -1 ∨ 0 ≤ bestK l n
  | 0 => .inl rfl
  | n + 1 => by
    rw [bestK]
    split
    · exact .inr (by omega)
    · exact bk_sign l n
theorem bk_none (l : List Sp) : ∀ n, bestK l n = -1 → ∀ j, j < n → (at_ l j).1 ≠ UN
  | 0, _, j, hj => absurd hj (Nat.not_lt_zero _)
  | n + 1, hn, j, hj => by
    rw [bestK] at hn
    split at hn
    · omega
    · rename_i hc2
      intro hju
      rcases Nat.lt_or_ge j n with hjn | hjn
      · exact bk_none l n hn j hjn hju
      · obtain rfl : j = n := by omega
        exact hc2 ⟨hju, .inl (by omega)⟩
theorem bestK_min (l : List Sp) : ∀ (k b : Nat), bestK l k = b → ∀ i, i < k → (at_ l i).1 = UN → (at_ l b).2 ≤ (at_ l i).2
  | 0, _, _, i, hi, _ => absurd hi (Nat.not_lt_zero _)
  | k + 1, b, h, i, hi, hu => by
    rw [bestK] at h
    split at h
    · rename_i hc
      obtain rfl : k = b := by omega
      rcases Nat.lt_or_ge i k with hik | hik
      · rcases bk_sign l k with h4 | h4
        · exact absurd hu (bk_none l k h4 i hik)
        · obtain ⟨b', hb'⟩ : ∃ b' : Nat, bestK l k = b' := ⟨(bestK l k).toNat, by omega⟩
          have h5 := bestK_min l k b' hb' i hik hu
          rcases hc.2 with h2 | h2
          · omega
          · rw [hb', Int.toNat_natCast] at h2
            have h6 : (at_ l k).2 < (at_ l b').2 := h2
            omega
      · obtain rfl : i = k := by omega
        exact Int.le_refl _
    · rename_i hc
      rcases Nat.lt_or_ge i k with hik | hik
      · exact bestK_min l k b h i hik hu
      · obtain rfl : i = k := by omega
        have : ¬ (bestK l i < 0 ∨ (at_ l i).2 < (at_ l (bestK l i).toNat).2) := fun h2 => hc ⟨hu, h2⟩
        rw [h, Int.toNat_natCast] at this
        omega
theorem at_of_mem {l : List Sp} {x : Sp} (h : x ∈ l) : ∃ i, i < l.length ∧ at_ l i = x := by
  obtain ⟨i, hi, rfl⟩ := List.getElem_of_mem h
  exact ⟨i, hi, by rw [at_, List.getD_eq_getElem?_getD, List.getElem?_eq_getElem hi, Option.getD_some]⟩
theorem remF_snoc (f : Int) (l : List Sp) (x : Sp) : remF f (l ++ [x]) = if x.1 = f then remF f l else remF f l ++ [x] := by
  unfold remF
  rw [List.filter_append]
  by_cases h : x.1 = f
  · rw [if_pos h]; simp [h]
  · rw [if_neg h]; simp [h]
theorem outR_before (l : List Sp) (b : Nat) (f : Int) (hbl : b < l.length) : ∀ k, k ≤ b → (outR l b f k).Perm (remF f (l.take k))
  | 0, _ => List.Perm.refl _
  | k + 1, h => by
    rw [outR, if_neg (by omega), take_snocS l k (by omega), remF_snoc]
    by_cases hf : (at_ l k).1 = f
    · rw [if_pos hf, if_pos hf]
      exact outR_before l b f hbl k (by omega)
    · rw [if_neg hf, if_neg hf]
      exact ((insM_perm _ _).trans ((outR_before l b f hbl k (by omega)).cons _)).trans (List.perm_append_singleton _ _).symm
theorem outR_after (l : List Sp) (b : Nat) (f : Int) (hf : f ≠ UN) (hbl : b < l.length) (hbu : (at_ l b).1 = UN) : ∀ k, b < k → k ≤ l.length → (at_ l b :: outR l b f k).Perm ((f, (at_ l b).2) :: remF f (l.take k))
  | 0, h, _ => absurd h (Nat.not_lt_zero _)
  | k + 1, h, hk => by
    rw [outR, take_snocS l k (by omega), remF_snoc]
    by_cases hkb : k = b
    · subst hkb
      rw [if_pos rfl, if_neg (by rw [hbu]; exact fun e => hf e.symm)]
      have h1 := outR_before l k f hbl k (Nat.le_refl _)
      have h2 : (insM (f, (at_ l k).2) (outR l k f k)).Perm ((f, (at_ l k).2) :: remF f (l.take k)) := (insM_perm _ _).trans (h1.cons _)
      refine (h2.cons _).trans ?_
      refine (List.Perm.swap _ _ _).trans ?_
      exact ((List.perm_append_singleton _ _).symm).cons _
    · rw [if_neg hkb]
      have ih := outR_after l b f hf hbl hbu k (by omega) (by omega)
      by_cases hkf : (at_ l k).1 = f
      · rw [if_pos hkf, if_pos hkf]
        exact ih
      · rw [if_neg hkf, if_neg hkf]
        have h2 : (at_ l b :: insM (at_ l k) (outR l b f k)).Perm (at_ l b :: at_ l k :: outR l b f k) := (insM_perm _ _).cons _
        refine h2.trans ((List.Perm.swap _ _ _).trans ?_)
        refine (ih.cons _).trans ((List.Perm.swap _ _ _).trans ?_)
        exact ((List.perm_append_singleton _ _).symm).cons _
/-- Both give the same table. -/
theorem rep_same {l u : List Sp} {f m : Int} {b : Nat} (hf : f ≠ UN) (hb : bestK l l.length = b) (hbl : b < l.length) (hbu : (at_ l b).1 = UN) (h : Rep l f m u) : m = (at_ l b).2 ∧ u = outR l b f l.length := by
  have hmem : ∀ x ∈ l, x.1 = UN → x ∈ remF f l := fun x hx hu => mem_remF.2 ⟨hx, by rw [hu]; exact fun e => hf e.symm⟩
  obtain ⟨b', hb', hbl', hg, hp⟩ := h.best
  have hg' : at_ (remF f l) b' = (UN, m) := hg
  have hm : m = (at_ l b).2 := by
    have h1 : (UN, m) ∈ l := (mem_remF.1 (by rw [← hg']; exact at_mem hbl')).1
    obtain ⟨i, hi, hie⟩ := at_of_mem h1
    have h2 := bestK_min l l.length b hb i hi (by rw [hie])
    rw [hie] at h2
    obtain ⟨j, hj, hje⟩ := at_of_mem (hmem _ (at_mem hbl) hbu)
    have h3 := bestK_min (remF f l) (remF f l).length b' hb' j hj (by rw [hje]; exact hbu)
    rw [hje, hg'] at h3
    simp only at h2 h3
    omega
  refine ⟨hm, ?_⟩
  have hE : at_ l b = (UN, m) := Prod.ext hbu hm.symm
  have h4 := outR_after l b f hf hbl hbu l.length hbl (Nat.le_refl _)
  rw [List.take_length, hE] at h4
  obtain ⟨p, q, hr, hq⟩ := h.split
  have h5 : ((UN, m) :: u).Perm ((f, m) :: remF f l) := by
    rw [hr]
    refine (hq.cons _).trans ((List.Perm.swap _ _ _).trans ?_)
    exact (List.perm_middle.symm).cons _
  have h6 : u.Perm (outR l b f l.length) := (h5.trans h4.symm).cons_inv
  exact sorted_unique h6 h.sorted (outR_sorted l b f l.length)
theorem none_best {l : List Sp} {f : Int} (hf : f ≠ UN) (h : ∀ i, i < (remF f l).length → (at_ (remF f l) i).1 ≠ UN) : bestK l l.length = -1 := by
  rcases bestK_spec l l.length (Nat.le_refl _) with h1 | ⟨b, -, hbl, hbu⟩
  · exact h1.1
  · exfalso
    have hbu' : (at_ l b).1 = UN := hbu
    obtain ⟨i, hi, hie⟩ := at_of_mem (mem_remF.2 ⟨at_mem hbl, by rw [hbu']; exact fun e => hf e.symm⟩ : at_ l b ∈ remF f l)
    exact h i hi (by rw [hie]; exact hbu')
theorem some_best {l : List Sp} {f : Int} (h : ∃ i, i < (remF f l).length ∧ (at_ (remF f l) i).1 = UN) : bestK l l.length ≠ -1 := by
  obtain ⟨i, hi, hu⟩ := h
  intro hn
  obtain ⟨j, hj, hje⟩ := at_of_mem (mem_remF.1 (at_mem hi)).1
  exact bk_none l l.length hn j hj (by rw [hje]; exact hu)
theorem rep_some {l u : List Sp} {f m : Int} (h : Rep l f m u) : bestK l l.length ≠ -1 := by
  obtain ⟨b', hb', hbl', hg, hp⟩ := h.best
  have hg' : at_ (remF f l) b' = (UN, m) := hg
  exact some_best ⟨b', hbl', by rw [hg']⟩
end Go.Proofs.YtocncjimepnlcaaGreat
