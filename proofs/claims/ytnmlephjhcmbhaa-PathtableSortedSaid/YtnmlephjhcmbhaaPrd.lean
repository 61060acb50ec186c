/- The order of a path table as the reference finds it, said plainly. -/
import Derived.Test.YtnmlephjhcmbhaaPtb
import Derived.Test.YtnmlephjhcmbhaaPpy
namespace Go.Proofs.Ytnmlephjhcmbhaa
set_option linter.unusedSimpArgs false
set_option linter.unusedVariables false
open Go Go.RowKit
/-- Some steps up lead to the first entry. -/
def reachB (l : List PE) : Nat → Nat → Bool
  | 0, i => i == 0
  | f + 1, i => i == 0 || reachB l f ((l.getD i peD).par.toNat - 1)
theorem reach_zero (l : List PE) : ∀ f, reachB l f 0 = true
  | 0 => rfl
  | _ + 1 => rfl
theorem reach_mono (l : List PE) : ∀ f i, reachB l f i = true → reachB l (f + 1) i = true
  | 0, i, h => by
    obtain rfl : i = 0 := beq_iff_eq.1 h
    rfl
  | f + 1, i, h => by
    rw [reachB, Bool.or_eq_true] at h ⊢
    rcases h with h | h
    · exact .inl h
    · exact .inr (reach_mono l f _ h)
theorem reach_le (l : List PE) (i : Nat) {f g : Nat} (hfg : f ≤ g) (h : reachB l f i = true) : reachB l g i = true := by
  obtain ⟨d, rfl⟩ : ∃ d, g = f + d := ⟨g - f, by omega⟩
  clear hfg
  induction d with
  | zero => exact h
  | succ d ih => exact reach_mono l _ i ih
theorem ordF_len (l : List PE) (wide : Bool) (k : Nat) : (ordF l wide k).1.length ≤ (ordF l wide (k + 1)).1.length := by
  rw [ordF]
  by_cases hk : k < (ordF l wide k).1.length
  · simp only [hk, if_true, List.length_append]
    omega
  · simp only [hk, if_false]
    omega
theorem ordF_pre (l : List PE) (wide : Bool) (k : Nat) : ∀ d j, j < (ordF l wide k).1.length → j < (ordF l wide (k + d)).1.length ∧ (ordF l wide (k + d)).1.getD j 0 = (ordF l wide k).1.getD j 0
  | 0, j, h => ⟨h, rfl⟩
  | d + 1, j, h => by
    obtain ⟨h1, h2⟩ := ordF_pre l wide k d j h
    rw [show k + (d + 1) = k + d + 1 by omega, ordF]
    by_cases hk : k + d < (ordF l wide (k + d)).1.length
    · simp only [hk, if_true]
      rw [getD_app h1]
      exact ⟨by rw [List.length_append]; omega, h2⟩
    · simp only [hk, if_false]
      exact ⟨h1, h2⟩
theorem ordF_dup (l : List PE) (wide : Bool) (k : Nat) (h : (ordF l wide k).2 = true) : ∀ d, (ordF l wide (k + d)).2 = true
  | 0 => h
  | d + 1 => by
    have ih := ordF_dup l wide k h d
    rw [show k + (d + 1) = k + d + 1 by omega, ordF]
    by_cases hk : k + d < (ordF l wide (k + d)).1.length
    · simp only [hk, if_true, ih, Bool.true_or]
    · simp only [hk, if_false, ih]
/-- What stands in the order had its round. -/
theorem ordF_round {l : List PE} {wide : Bool} {t : Nat} (h : t < (ordO l wide).length) (hn : t < l.length) : t < (ordF l wide t).1.length ∧ (ordF l wide t).1.getD t 0 = (ordO l wide).getD t 0 := by
  have h1 : t < (ordF l wide t).1.length := by
    rcases Nat.lt_or_ge t (ordF l wide t).1.length with h2 | h2
    · exact h2
    · have := ordF_stable l wide t (by omega) (l.length - t)
      rw [show t + (l.length - t) = l.length by omega] at this
      unfold ordO at h
      rw [this] at h
      omega
  refine ⟨h1, ?_⟩
  have := (ordF_pre l wide t (l.length - t) t h1).2
  rw [show t + (l.length - t) = l.length by omega] at this
  exact this.symm
theorem ord_kids {l : List PE} {wide : Bool} {t i : Nat} (h : t < (ordO l wide).length) (hn : t < l.length) (hi : i ∈ kidsM l l.length ((ordO l wide).getD t 0 + 1)) : i ∈ ordO l wide := by
  obtain ⟨h1, h2⟩ := ordF_round h hn
  have e := ordF_next h1
  rw [h2] at e
  have hm : i ∈ (ordF l wide (t + 1)).1 := by
    rw [e]
    exact List.mem_append_right _ ((srtI_perm _ _).mem_iff.2 hi)
  obtain ⟨j, hj, rfl⟩ := List.getElem_of_mem hm
  have hp := ordF_pre l wide (t + 1) (l.length - (t + 1)) j hj
  rw [show t + 1 + (l.length - (t + 1)) = l.length by omega] at hp
  have : (ordF l wide (t + 1)).1[j] = (ordO l wide).getD j 0 := by
    unfold ordO
    rw [hp.2, List.getD_eq_getElem?_getD, List.getElem?_eq_getElem hj, Option.getD_some]
  rw [this]
  exact getD_mem hp.1
structure OGd (l : List PE) : Prop where
  hpos : 0 < l.length
  hroot : RootP (l.getD 0 peD)
  hgood : ∀ i, 1 ≤ i → i < l.length → GoodE l i
theorem OGd.par {l : List PE} (h : OGd l) {i : Nat} (hi : i < l.length) : 1 ≤ (l.getD i peD).par ∧ (l.getD i peD).par ≤ l.length := by
  rcases Nat.eq_zero_or_pos i with h0 | h0
  · subst h0
    have := h.hroot.2
    omega
  · exact (h.hgood i h0 hi).2
theorem OGd.le {l : List PE} (h : OGd l) (wide : Bool) : (ordO l wide).length ≤ l.length := by
  have hk : ∀ k, ∃ q, q ≤ k ∧ q ≤ (ordF l wide q).1.length ∧ ordF l wide k = ordF l wide q := by
    intro k
    induction k with
    | zero => exact ⟨0, Nat.le_refl _, Nat.zero_le _, rfl⟩
    | succ k ih =>
      by_cases hlt : k < (ordF l wide k).1.length
      · exact ⟨k + 1, Nat.le_refl _, by have := ordF_len l wide k; omega, rfl⟩
      · obtain ⟨q, h1, h2, h3⟩ := ih
        refine ⟨q, by omega, h2, ?_⟩
        rw [ordF]
        simp only [hlt, if_false]
        exact h3
  obtain ⟨q, -, h2, h3⟩ := hk l.length
  unfold ordO
  rw [h3]
  exact ordS_len (ordF_ok l wide h.hpos q h2)
theorem OGd.fullS {l : List PE} (h : OGd l) {wide : Bool} (hf : (ordO l wide).length = l.length) : OrdS l l.length (ordO l wide) ∧ OrdB l wide l.length (ordO l wide) (ordF l wide l.length).2 :=
  ⟨ordF_ok l wide h.hpos l.length (by unfold ordO at hf; omega), ordB_ok l wide h.hpos l.length (by unfold ordO at hf; omega)⟩
theorem OGd.reach {l : List PE} (h : OGd l) (wide : Bool) : ∀ f i, i < l.length → reachB l f i = true → i ∈ ordO l wide
  | 0, i, hi, hr => by
    obtain rfl : i = 0 := beq_iff_eq.1 hr
    have e : ∀ k, 0 < (ordF l wide k).1.length ∧ (ordF l wide k).1.getD 0 0 = 0 := fun k => by
      have := ordF_pre l wide 0 k 0 (show 0 < [0].length by decide)
      rw [Nat.zero_add] at this
      exact this
    have := e l.length
    have hm := getD_mem this.1
    rw [this.2] at hm
    exact hm
  | f + 1, i, hi, hr => by
    rw [reachB, Bool.or_eq_true] at hr
    by_cases h0 : i = 0
    · exact OGd.reach h wide 0 i hi (by rw [h0]; rfl)
    · rcases hr with hr | hr
      · exact absurd (beq_iff_eq.1 hr) h0
      · have hp := h.par hi
        have hm := OGd.reach h wide f _ (by omega) hr
        obtain ⟨t, ht, e⟩ := List.getElem_of_mem hm
        have hle := h.le wide
        refine ord_kids (t := t) ht (by omega) ?_
        rw [List.getD_eq_getElem?_getD, List.getElem?_eq_getElem ht, Option.getD_some, e]
        unfold kidsM
        rw [List.mem_filter, List.mem_range'_1]
        exact ⟨⟨by omega, by omega⟩, beq_iff_eq.2 (by omega)⟩
theorem OGd.full_iff {l : List PE} (h : OGd l) (wide : Bool) : (ordO l wide).length = l.length ↔ ∀ i, i < l.length → reachB l l.length i = true := by
  constructor
  · intro hf i hi
    obtain ⟨hS, hB⟩ := h.fullS hf
    have key : ∀ t, t < l.length → reachB l t ((ordO l wide).getD t 0) = true := by
      intro t
      induction t using Nat.strongRecOn with
      | _ t ih =>
        intro ht
        rcases Nat.eq_zero_or_pos t with h0 | h0
        · subst h0
          rw [hB.at0]
          rfl
        · obtain ⟨j, -, a2, a3⟩ := hB.pos t h0 (by omega)
          obtain ⟨t, rfl⟩ : ∃ t', t = t' + 1 := ⟨t - 1, by omega⟩
          rw [reachB, a3, Int.toNat_natCast, Nat.add_sub_cancel, reach_le l _ (by omega) (ih j a2 (by omega)), Bool.or_true]
    obtain ⟨t, ht, e⟩ := List.getElem_of_mem (nodup_full _ _ hS.nd hS.lt hf i hi)
    have := key t (by omega)
    rw [List.getD_eq_getElem?_getD, List.getElem?_eq_getElem ht, Option.getD_some, e] at this
    exact reach_le l i (by omega) this
  · intro hr
    have hle := h.le wide
    rcases Nat.lt_or_ge (ordO l wide).length l.length with hlt | hge
    · exfalso
      have := nodup_le' l.length (ordO l wide) fun i hi => h.reach wide l.length i hi (hr i hi)
      omega
    · omega
  where
  nodup_le' : ∀ (n : Nat) (o : List Nat), (∀ i, i < n → i ∈ o) → n ≤ o.length
    | 0, _, _ => Nat.zero_le _
    | n + 1, o, hh => by
      have hn := hh n (Nat.lt_succ_self n)
      have := nodup_le' n (o.erase n) fun i hi => by
        have h1 := hh i (by omega)
        exact (List.mem_erase_of_ne (by omega)).2 h1
      rw [List.length_erase_of_mem hn] at this
      have := List.length_pos_of_mem hn
      omega
theorem dupB_yes (cf : Nat → Nat → Int) : ∀ m : List Nat, dupB cf m = true → ∃ p, p + 1 < m.length ∧ cf (m.getD p 0) (m.getD (p + 1) 0) = 0
  | [], h => by simp [dupB] at h
  | [x], h => by simp [dupB] at h
  | x :: y :: m, h => by
    rw [dupB, Bool.or_eq_true] at h
    rcases h with h | h
    · exact ⟨0, by simp, beq_iff_eq.1 h⟩
    · obtain ⟨p, h1, h2⟩ := dupB_yes cf (y :: m) h
      exact ⟨p + 1, by simp at h1 ⊢; omega, h2⟩
theorem dupB_lt {cf : Nat → Nat → Int} (h : OrdI cf) : ∀ m : List Nat, m.Pairwise (ltI cf) → dupB cf m = false → m.Pairwise (fun x y => cf x y < 0)
  | [], _, _ => List.Pairwise.nil
  | [x], _, _ => by simp
  | x :: y :: m, hs, hd => by
    rw [dupB, Bool.or_eq_false_iff] at hd
    rw [List.pairwise_cons] at hs
    have ih := dupB_lt h (y :: m) hs.2 hd.2
    have hxy : cf x y < 0 := by
      rcases hs.1 y (List.mem_cons_self ..) with k | k
      · exact k
      · exact absurd k.1 (beq_eq_false_iff_ne.1 hd.1)
    rw [List.pairwise_cons] at ih
    refine List.pairwise_cons.2 ⟨fun z hz => ?_, List.pairwise_cons.2 ih⟩
    rcases List.mem_cons.1 hz with rfl | hz
    · exact hxy
    · have h1 := ih.1 z hz
      have h2 := h.trans x y z (by omega) (by omega)
      have h3 := h.swap x z
      have h4 := h.swap x y
      rcases Int.lt_or_eq_of_le h2 with k | k
      · exact k
      · have := h.trans y z x (by omega) (by omega)
        omega
theorem OGd.dup_iff {l : List PE} (h : OGd l) (wide : Bool) (hf : (ordO l wide).length = l.length) :
    (ordF l wide l.length).2 = true ↔ ∃ i k, 1 ≤ k ∧ k < i ∧ i < l.length ∧ (l.getD i peD).par = (l.getD k peD).par ∧ cfP l wide i k = 0 := by
  have hcf := cfP_ok l wide
  constructor
  · intro hd
    have key : ∀ k, (ordF l wide k).2 = true → ∃ j, dupB (cfP l wide) (srtI (cfP l wide) (kidsM l l.length j)) = true := by
      intro k
      induction k with
      | zero => intro h; cases h
      | succ k ih =>
        intro hh
        rw [ordF] at hh
        by_cases hk : k < (ordF l wide k).1.length
        · simp only [hk, if_true, Bool.or_eq_true] at hh
          rcases hh with hh | hh
          · exact ih hh
          · exact ⟨_, hh⟩
        · simp only [hk, if_false] at hh
          exact ih hh
    obtain ⟨j, hj⟩ := key _ hd
    obtain ⟨p, hp, hz⟩ := dupB_yes _ _ hj
    have hnd : (srtI (cfP l wide) (kidsM l l.length j)).Nodup := (srtI_perm _ _).nodup_iff.2 (inc_nodup (kids_inc _ _ _))
    have m1 := kids_mem ((srtI_perm (cfP l wide) (kidsM l l.length j)).mem_iff.1 (getD_mem (j := p) (by omega)))
    have m2 := kids_mem ((srtI_perm (cfP l wide) (kidsM l l.length j)).mem_iff.1 (getD_mem (j := p + 1) hp))
    have hne : (srtI (cfP l wide) (kidsM l l.length j)).getD p 0 ≠ (srtI (cfP l wide) (kidsM l l.length j)).getD (p + 1) 0 := fun e => by
      have := getD_inj hnd (by omega) hp e
      omega
    generalize (srtI (cfP l wide) (kidsM l l.length j)).getD p 0 = x at *
    generalize (srtI (cfP l wide) (kidsM l l.length j)).getD (p + 1) 0 = y at *
    have hs := hcf.swap x y
    rcases Nat.lt_or_gt_of_ne hne with k | k
    · exact ⟨y, x, m1.1, k, m2.2.1, by rw [m1.2.2, m2.2.2], by omega⟩
    · exact ⟨x, y, m2.1, k, m1.2.1, by rw [m1.2.2, m2.2.2], hz⟩
  · rintro ⟨i, k, h1, h2, h3, h4, h5⟩
    obtain ⟨hS, hB⟩ := h.fullS hf
    have hp := h.par (i := k) (by omega)
    obtain ⟨t, ht, e⟩ := List.getElem_of_mem (nodup_full _ _ hS.nd hS.lt hf ((l.getD k peD).par.toNat - 1) (by omega))
    have htn : t < l.length := by omega
    obtain ⟨r1, r2⟩ := ordF_round ht htn
    have e2 : (ordO l wide).getD t 0 = (l.getD k peD).par.toNat - 1 := by rw [List.getD_eq_getElem?_getD, List.getElem?_eq_getElem ht, Option.getD_some, e]
    have hn := ordF_next r1
    rw [r2, e2, show (l.getD k peD).par.toNat - 1 + 1 = (l.getD k peD).par.toNat by omega] at hn
    have hd : dupB (cfP l wide) (srtI (cfP l wide) (kidsM l l.length (l.getD k peD).par.toNat)) = true := by
      cases hdd : dupB (cfP l wide) (srtI (cfP l wide) (kidsM l l.length (l.getD k peD).par.toNat)) with
      | true => rfl
      | false =>
        exfalso
        have hlt := dupB_lt hcf _ (srtI_sorted hcf _ (inc_nodup (kids_inc _ _ _))) hdd
        have mk : ∀ x, 1 ≤ x → x < l.length → (l.getD x peD).par = (l.getD k peD).par → x ∈ srtI (cfP l wide) (kidsM l l.length (l.getD k peD).par.toNat) := fun x a1 a2 a3 => by
          refine (srtI_perm _ _).mem_iff.2 ?_
          unfold kidsM
          rw [List.mem_filter, List.mem_range'_1]
          exact ⟨⟨a1, by omega⟩, beq_iff_eq.2 (by omega)⟩
        obtain ⟨p, hp1, ep⟩ := List.getElem_of_mem (mk i (by omega) h3 h4)
        obtain ⟨q, hq1, eq⟩ := List.getElem_of_mem (mk k h1 (by omega) rfl)
        have hs := hcf.swap i k
        rcases Nat.lt_trichotomy p q with c | c | c
        · have := List.pairwise_iff_getElem.1 hlt p q hp1 hq1 c
          rw [ep, eq] at this
          omega
        · subst c
          rw [ep] at eq
          omega
        · have := List.pairwise_iff_getElem.1 hlt q p hq1 hp1 c
          rw [ep, eq] at this
          omega
    have := ordF_dup l wide (t + 1) (by rw [hn]; simp only [hd, Bool.or_true]) (l.length - (t + 1))
    rw [show t + 1 + (l.length - (t + 1)) = l.length by omega] at this
    exact this
/-- An element more, put where it belongs. -/
theorem ins_at {cf : Nat → Nat → Int} (h : OrdI cf) {m : List Nat} {i k : Nat} (hs : m.Pairwise (ltI cf)) (hlt : ∀ x ∈ m, x < i) (hk : k ≤ m.length) (hb : k = 0 ∨ cf (m.getD (k - 1) 0) i ≤ 0) (ha : ∀ t, k ≤ t → t < m.length → 0 < cf (m.getD t 0) i) :
    (m.take k ++ i :: m.drop k).Pairwise (ltI cf) := by
  have hsp : m = m.take k ++ m.drop k := (List.take_append_drop k m).symm
  rw [hsp, List.pairwise_append] at hs
  have hlow : ∀ x ∈ m.take k, ltI cf x i := fun x hx => by
    obtain ⟨t, ht, e⟩ := List.getElem_of_mem hx
    rw [List.length_take] at ht
    have htk : t < k := by omega
    rcases hb with h0 | hb
    · omega
    · have hkm : k - 1 < m.length := by omega
      have e1 : m.getD (k - 1) 0 = m[k - 1] := by rw [List.getD_eq_getElem?_getD, List.getElem?_eq_getElem hkm, Option.getD_some]
      have hlast : ltI cf (m[k - 1]) i := by
        rw [e1] at hb
        rcases Int.lt_or_eq_of_le hb with q | q
        · exact .inl q
        · exact .inr ⟨q, hlt _ (List.getElem_mem hkm)⟩
      rw [List.getElem_take] at e
      by_cases htl : t = k - 1
      · subst htl
        rw [← e]
        exact hlast
      · have := hs.1
        have h9 := List.pairwise_iff_getElem.1 this t (k - 1) (by rw [List.length_take]; omega) (by rw [List.length_take]; omega) (by omega)
        rw [List.getElem_take, List.getElem_take, e] at h9
        exact ltI_trans h _ _ _ h9 hlast
  have hhigh : ∀ y ∈ m.drop k, ltI cf i y := fun y hy => by
    obtain ⟨t, ht, e⟩ := List.getElem_of_mem hy
    rw [List.length_drop] at ht
    rw [List.getElem_drop] at e
    have := ha (k + t) (by omega) (by omega)
    rw [List.getD_eq_getElem?_getD, List.getElem?_eq_getElem (by omega), Option.getD_some, e] at this
    have s := h.swap i y
    exact .inl (by omega)
  rw [List.pairwise_append, List.pairwise_cons]
  refine ⟨hs.1, ⟨hhigh, hs.2.1⟩, fun x hx y hy => ?_⟩
  rcases List.mem_cons.1 hy with rfl | hy
  · exact hlow x hx
  · exact hs.2.2 x hx y hy
theorem ins_srt {cf : Nat → Nat → Int} (h : OrdI cf) {z : List Nat} {i k : Nat} (hn : z.Pairwise (· < ·)) (hlt : ∀ x ∈ z, x < i) (hk : k ≤ (srtI cf z).length) (hb : k = 0 ∨ cf ((srtI cf z).getD (k - 1) 0) i ≤ 0) (ha : ∀ t, k ≤ t → t < (srtI cf z).length → 0 < cf ((srtI cf z).getD t 0) i) :
    (srtI cf z).take k ++ i :: (srtI cf z).drop k = srtI cf (z ++ [i]) := by
  have hp := srtI_perm cf z
  refine sort_is h ?_ ?_ (ins_at h (srtI_sorted h z (inc_nodup hn)) (fun x hx => hlt x (hp.mem_iff.1 hx)) hk hb ha)
  · rw [List.nodup_append]
    refine ⟨inc_nodup hn, by simp, fun x hx y hy e => ?_⟩
    simp at hy
    have := hlt x hx
    omega
  · have e : ((srtI cf z).take k ++ i :: (srtI cf z).drop k).Perm (i :: srtI cf z) := by
      have := List.perm_middle (a := i) (l₁ := (srtI cf z).take k) (l₂ := (srtI cf z).drop k)
      rw [List.take_append_drop] at this
      exact this
    refine e.trans ?_
    refine ((hp.cons i).trans ?_)
    exact (List.perm_append_singleton i z).symm
/-- What can be refused is one thing. -/
theorem OrdBad.unique {l : List PE} {wide : Bool} {c c' : Int} (h : OrdBad l wide c) (h' : OrdBad l wide c') : c = c' := by
  rcases h with ⟨h1, h2⟩ | ⟨h1, h2, h3⟩
  · rcases h' with ⟨h4, -⟩ | ⟨h4, h5, -⟩
    · omega
    · exfalso
      rcases h2 with k | ⟨i, a, b, k⟩
      · exact k h4
      · exact k (h5 i a b)
  · rcases h' with ⟨-, h4⟩ | ⟨-, -, h4⟩
    · exfalso
      rcases h4 with k | ⟨i, a, b, k⟩
      · exact k h1
      · exact k (h2 i a b)
    · rcases h3 with ⟨rfl, a⟩ | ⟨a, ⟨rfl, b⟩ | ⟨b, rfl, d⟩⟩ <;> rcases h4 with ⟨rfl, a'⟩ | ⟨a', ⟨rfl, b'⟩ | ⟨b', rfl, d'⟩⟩ <;> first | rfl | omega | (rw [b] at b'; cases b')
theorem OrdBad.notfin {l : List PE} {wide : Bool} {c : Int} (h : OrdBad l wide c) (h1 : RootP (l.getD 0 peD)) (h2 : ∀ i, 1 ≤ i → i < l.length → GoodE l i) (h3 : OrdFin l wide) : False := by
  rcases h with ⟨-, k | ⟨i, a, b, k⟩⟩ | ⟨-, -, h⟩
  · exact k h1
  · exact k (h2 i a b)
  · have f1 := h3.full
    have f2 := h3.dup
    have f3 := h3.blk
    rcases h with ⟨-, a⟩ | ⟨-, ⟨-, a⟩ | ⟨-, -, a⟩⟩
    · omega
    · rw [f3] at a; cases a
    · rw [f2] at a; cases a
end Go.Proofs.Ytnmlephjhcmbhaa
