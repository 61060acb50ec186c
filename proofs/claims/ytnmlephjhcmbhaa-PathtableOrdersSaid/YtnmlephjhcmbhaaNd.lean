/- What pathtable.Order gives, said plainly. What pathtable.Order gives is a path table. The order of a path table as the reference finds it, said plainly. -/
import Derived.Test.YtnmlephjhcmbhaaPpu
import Derived.Test.YtnmlephjhcmbhaaPpy
namespace Go.Proofs.Ytnmlephjhcmbhaa
set_option linter.unusedSimpArgs false
set_option linter.unusedVariables false
open Go Go.RowKit
theorem inc_ext : ∀ (a b : List Nat), a.Pairwise (· < ·) → b.Pairwise (· < ·) → (∀ x, x ∈ a ↔ x ∈ b) → a = b
  | [], [], _, _, _ => rfl
  | [], y :: b, _, _, h => by have := (h y).2 (List.mem_cons_self ..); cases this
  | x :: a, [], _, _, h => by have := (h x).1 (List.mem_cons_self ..); cases this
  | x :: a, y :: b, ha, hb, h => by
    rw [List.pairwise_cons] at ha hb
    have hxy : x = y := by
      rcases List.mem_cons.1 ((h x).1 (List.mem_cons_self ..)) with e | h1
      · exact e
      · rcases List.mem_cons.1 ((h y).2 (List.mem_cons_self ..)) with e | h2
        · exact e.symm
        · have := hb.1 x h1
          have := ha.1 y h2
          omega
    subst hxy
    rw [inc_ext a b ha.2 hb.2 fun z => ⟨fun hz => ?_, fun hz => ?_⟩]
    · rcases List.mem_cons.1 ((h z).1 (List.mem_cons_of_mem _ hz)) with e | h1
      · have := ha.1 z hz
        omega
      · exact h1
    · rcases List.mem_cons.1 ((h z).2 (List.mem_cons_of_mem _ hz)) with e | h1
      · have := hb.1 z hz
        omega
      · exact h1
theorem nodup_full (o : List Nat) (n : Nat) (hn : o.Nodup) (hlt : ∀ i ∈ o, i < n) (hl : o.length = n) (i : Nat) (hi : i < n) : i ∈ o := by
  refine Classical.byContradiction fun hni => ?_
  have := nodup_le n (i :: o) (List.nodup_cons.2 ⟨hni, hn⟩) fun j hj => by
    rcases List.mem_cons.1 hj with rfl | hj
    · exact hi
    · exact hlt j hj
  rw [List.length_cons] at this
  omega
/-- The entries are those of a path table. -/
structure VTb (wide : Bool) (l : List PE) : Prop where
  ne : l.length ≠ 0
  le : l.length ≤ 1024
  lo : ∀ i, 1 ≤ i → i < l.length → 1 ≤ (l.getD i peD).par
  hi : ∀ i, 1 ≤ i → i < l.length → (l.getD i peD).par ≤ i
  mono : ∀ i, 1 ≤ i → i < l.length → (l.getD (i - 1) peD).par ≤ (l.getD i peD).par
  ord : ∀ i, 1 < i → i < l.length → (l.getD i peD).par = (l.getD (i - 1) peD).par → cmpM (l.getD (i - 1) peD).id.data.toList (l.getD i peD).id.data.toList wide < 0
  nam : ∀ i, 1 ≤ i → i < l.length → NamedP (l.getD i peD)
  blk : ∀ i, i < l.length → BlockP (l.getD i peD).lba
  root : RootP (l.getD 0 peD)
theorem vt_iff {wide : Bool} {l : List PE} : pvB wide l = true ↔ VTb wide l := by
  unfold pvB
  rw [Bool.and_eq_true, decide_eq_true_eq, List.all_eq_true]
  have e : ∀ i, vatB wide l i = true ↔ VAt wide i (l.getD (i - 1) peD) (l.getD i peD) := fun i => by simp [vatB]
  constructor
  · intro h
    have h2 : ∀ i, i < l.length → VAt wide i (l.getD (i - 1) peD) (l.getD i peD) := fun i hi => (e i).1 (h.2 i (List.mem_range.2 hi))
    refine ⟨h.1.1, h.1.2.1, fun i h1 hi => ?_, fun i h1 hi => ?_, fun i h1 hi => ?_, fun i h1 hi he => ?_, fun i h1 hi => ?_, fun i hi => (h2 i hi).1, h.1.2.2⟩
    · rcases (h2 i hi).2 with k | k
      · omega
      · exact k.2.1
    · rcases (h2 i hi).2 with k | k
      · omega
      · exact k.2.2.2.1
    · rcases (h2 i hi).2 with k | k
      · omega
      · exact k.2.2.1
    · rcases (h2 i hi).2 with k | k
      · omega
      · have := k.2.2.2.2
        rcases Int.lt_or_le (cmpM (l.getD (i - 1) peD).id.data.toList (l.getD i peD).id.data.toList wide) 0 with hc | hc
        · exact hc
        · exact absurd ⟨h1, he, hc⟩ this
    · rcases (h2 i hi).2 with k | k
      · omega
      · exact k.1
  · intro h
    refine ⟨⟨h.ne, h.le, h.root⟩, fun i hi => (e i).2 ⟨h.blk i (List.mem_range.1 hi), ?_⟩⟩
    rw [List.mem_range] at hi
    rcases Nat.eq_zero_or_pos i with h0 | h0
    · exact .inl h0
    · refine .inr ⟨h.nam i h0 hi, h.lo i h0 hi, h.mono i h0 hi, h.hi i h0 hi, fun k => ?_⟩
      have := h.ord i k.1 hi k.2.1
      omega
theorem VTb.mono_le {wide : Bool} {l : List PE} (h : VTb wide l) : ∀ k j, 1 ≤ j → j ≤ k → k < l.length → (l.getD j peD).par ≤ (l.getD k peD).par := by
  intro k
  induction k with
  | zero => intro j h1 h2; omega
  | succ k ih =>
    intro j h1 h2 h3
    rcases Nat.lt_or_ge k j with hlt | hge
    · obtain rfl : j = k + 1 := by omega
      exact Int.le_refl _
    · have a := ih j h1 hge (by omega)
      have b := h.mono (k + 1) (by omega) h3
      rw [Nat.add_sub_cancel] at b
      omega
theorem VTb.sib_lt {wide : Bool} {l : List PE} (h : VTb wide l) : ∀ k j, 1 ≤ j → j < k → k < l.length → (l.getD j peD).par = (l.getD k peD).par → cfP l wide j k < 0 := by
  intro k
  induction k with
  | zero => intro j h1 h2; omega
  | succ k ih =>
    intro j h1 h2 h3 he
    have b1 := h.mono (k + 1) (by omega) h3
    have b2 := h.mono_le k j h1 (by omega) (by omega)
    rw [Nat.add_sub_cancel] at b1
    have o := h.ord (k + 1) (by omega) h3 (by rw [Nat.add_sub_cancel]; omega)
    rw [Nat.add_sub_cancel] at o
    rcases Nat.lt_or_ge j k with hlt | hge
    · exact cmpM_trans_lt _ _ _ _ (ih j h1 hlt (by omega) (by omega)) (by omega)
    · obtain rfl : j = k := by omega
      exact o
theorem dupB_none (cf : Nat → Nat → Int) : ∀ m : List Nat, m.Pairwise (fun x y => cf x y < 0) → dupB cf m = false
  | [], _ => rfl
  | [x], _ => rfl
  | x :: y :: m, h => by
    rw [List.pairwise_cons] at h
    have := h.1 y (List.mem_cons_self ..)
    rw [dupB, dupB_none cf (y :: m) h.2, Bool.or_false]
    exact beq_eq_false_iff_ne.2 (by omega)
/-- Where what holds of the first ones ends. -/
theorem cut_at (P : Nat → Prop) [DecidablePred P] (n : Nat) (hd : ∀ i, i + 1 < n → P (i + 1) → P i) : ∀ d c, c + d = n → ∃ c', c ≤ c' ∧ c' ≤ n ∧ ∀ i, c ≤ i → i < n → (i < c' ↔ P i)
  | 0, c, h => ⟨c, Nat.le_refl _, by omega, fun i h1 h2 => by omega⟩
  | d + 1, c, h => by
    by_cases hP : P c
    · obtain ⟨c', h1, h2, h3⟩ := cut_at P n hd d (c + 1) (by omega)
      refine ⟨c', by omega, h2, fun i h4 h5 => ?_⟩
      rcases Nat.lt_or_ge c i with hlt | hge
      · exact h3 i hlt h5
      · obtain rfl : i = c := by omega
        exact ⟨fun _ => hP, fun _ => by omega⟩
    · refine ⟨c, Nat.le_refl _, by omega, fun i h4 h5 => ⟨fun h => by omega, fun h => ?_⟩⟩
      have : ∀ e, c + e < n → P (c + e) → P c := by
        intro e
        induction e with
        | zero => intro _ h; exact h
        | succ e ih => intro h1 h2; exact ih (by omega) (hd _ h1 h2)
      exact absurd (this (i - c) (by omega) (by rw [show c + (i - c) = i by omega]; exact h)) hP
/-- A valid table is in its order. -/
theorem VTb.same {wide : Bool} {l : List PE} (h : VTb wide l) : ∀ k, k ≤ l.length → ∃ c, ordF l wide k = (List.range c, false) ∧ 1 ≤ c ∧ c ≤ l.length ∧ ∀ i, 1 ≤ i → i < l.length → (i < c ↔ (l.getD i peD).par ≤ k) := by
  intro k
  have hne := h.ne
  induction k with
  | zero =>
    intro _
    refine ⟨1, rfl, Nat.le_refl _, by omega, fun i h1 h2 => ⟨fun h3 => by omega, fun h3 => ?_⟩⟩
    have := h.lo i h1 h2
    omega
  | succ k ih =>
    intro hk
    obtain ⟨c, e, h1, h2, h3⟩ := ih (by omega)
    have hkc : k < c := by
      rcases Nat.eq_zero_or_pos k with h0 | h0
      · omega
      · exact (h3 k h0 (by omega)).2 (h.hi k h0 (by omega))
    obtain ⟨c', a1, a2, a3⟩ := cut_at (fun i => i = 0 ∨ (l.getD i peD).par ≤ ((k + 1 : Nat) : Int)) l.length (fun i hi hp => by
      rcases Nat.eq_zero_or_pos i with h0 | h0
      · exact .inl h0
      · rcases hp with hp | hp
        · omega
        · have := h.mono (i + 1) (by omega) hi
          rw [Nat.add_sub_cancel] at this
          exact .inr (by omega)) (l.length - c) c (by omega)
    have hkids : kidsM l l.length (k + 1) = List.range' c (c' - c) := by
      refine inc_ext _ _ (kids_inc _ _ _) (List.pairwise_lt_range' (s := c) (n := c' - c)) fun i => ?_
      unfold kidsM
      rw [List.mem_filter, List.mem_range'_1, List.mem_range'_1]
      simp only [beq_iff_eq]
      constructor
      · rintro ⟨⟨b1, b2⟩, b3⟩
        have hci : c ≤ i := by
          rcases Nat.lt_or_ge i c with hlt | hge
          · have := (h3 i b1 (by omega)).1 hlt
            omega
          · exact hge
        have := (a3 i hci (by omega)).2 (.inr (by omega))
        exact ⟨hci, by omega⟩
      · rintro ⟨b1, b2⟩
        have hil : i < l.length := by omega
        have b3 := (a3 i b1 hil).1 (by omega)
        have b4 : ¬ (l.getD i peD).par ≤ (k : Int) := fun hh => by
          have := (h3 i (by omega) hil).2 hh
          omega
        refine ⟨⟨by omega, by omega⟩, ?_⟩
        rcases b3 with b3 | b3
        · omega
        · omega
    have hpar : ∀ i ∈ kidsM l l.length (k + 1), (l.getD i peD).par = ((k + 1 : Nat) : Int) ∧ 1 ≤ i ∧ i < l.length := fun i hi => by
      obtain ⟨q1, q2, q3⟩ := kids_mem hi
      exact ⟨q3, q1, q2⟩
    have hlt : (kidsM l l.length (k + 1)).Pairwise (fun x y => cfP l wide x y < 0) := by
      refine List.Pairwise.imp_of_mem (fun {x y} hx hy hxy => ?_) (kids_inc l l.length (k + 1))
      have px := hpar x hx
      have py := hpar y hy
      exact h.sib_lt y x px.2.1 hxy py.2.2 (by rw [px.1, py.1])
    have hsrt : srtI (cfP l wide) (kidsM l l.length (k + 1)) = kidsM l l.length (k + 1) :=
      (sort_is (cfP_ok l wide) (inc_nodup (kids_inc _ _ _)) (List.Perm.refl _) (hlt.imp fun hh => .inl hh)).symm
    refine ⟨c', ?_, by omega, a2, fun i b1 b2 => ?_⟩
    · have hn := ordF_next (l := l) (wide := wide) (k := k) (by rw [e]; simpa using hkc)
      rw [hn, e]
      simp only [show (List.range c).getD k 0 = k by simp [List.getD_eq_getElem?_getD, hkc], hsrt]
      rw [dupB_none _ _ hlt, hkids, List.range_eq_range', List.range_eq_range', Bool.or_false]
      congr 1
      have := List.range'_append_1 (s := 0) (m := c) (n := c' - c)
      rw [Nat.zero_add] at this
      rw [this]
      congr 1
      omega
    · rcases Nat.lt_or_ge i c with hlt2 | hge
      · have := (h3 i b1 b2).1 hlt2
        exact ⟨fun _ => by omega, fun _ => by omega⟩
      · rw [a3 i hge b2]
        constructor
        · rintro (q | q)
          · omega
          · exact q
        · exact .inr
theorem VTb.ordF_is {wide : Bool} {l : List PE} (h : VTb wide l) : ordF l wide l.length = (List.range l.length, false) := by
  obtain ⟨c, e, h1, h2, h3⟩ := h.same l.length (Nat.le_refl _)
  have : c = l.length := by
    rcases Nat.lt_or_ge c l.length with hlt | hge
    · have a := (h3 c h1 hlt).2 (by have := h.hi c h1 hlt; omega)
      omega
    · omega
  rw [e, this]
theorem VTb.fin {wide : Bool} {l : List PE} (h : VTb wide l) : OrdFin l wide := by
  refine ⟨by unfold ordO; rw [h.ordF_is]; simp, by rw [h.ordF_is], ?_⟩
  rw [List.any_eq_false]
  intro x hx
  obtain ⟨i, hi, rfl⟩ := List.getElem_of_mem hx
  have := h.blk i hi
  rw [List.getD_eq_getElem?_getD, List.getElem?_eq_getElem hi, Option.getD_some] at this
  simp [this]
/-- The order: each stands behind the one above it; the ones above ascend; what stands beside is in its order. -/
structure OrdB (l : List PE) (wide : Bool) (k : Nat) (o : List Nat) (d : Bool) : Prop where
  at0 : o.getD 0 0 = 0
  pos : ∀ p, 1 ≤ p → p < o.length → ∃ j, j < k ∧ j < p ∧ (l.getD (o.getD p 0) peD).par = ((o.getD j 0 + 1 : Nat) : Int)
  mono : ∀ p j j', 1 ≤ p → p + 1 < o.length → j < o.length → j' < o.length → (l.getD (o.getD p 0) peD).par = ((o.getD j 0 + 1 : Nat) : Int) → (l.getD (o.getD (p + 1) 0) peD).par = ((o.getD j' 0 + 1 : Nat) : Int) → j ≤ j'
  sib : ∀ p, 1 ≤ p → p + 1 < o.length → (l.getD (o.getD p 0) peD).par = (l.getD (o.getD (p + 1) 0) peD).par → d = false → cfP l wide (o.getD p 0) (o.getD (p + 1) 0) < 0
theorem getD_inj {o : List Nat} (h : o.Nodup) {i j : Nat} (hi : i < o.length) (hj : j < o.length) (e : o.getD i 0 = o.getD j 0) : i = j := by
  rw [List.getD_eq_getElem?_getD, List.getD_eq_getElem?_getD, List.getElem?_eq_getElem hi, List.getElem?_eq_getElem hj, Option.getD_some, Option.getD_some] at e
  have h9 : ∀ i j (hi : i < o.length) (hj : j < o.length), i < j → o[i] ≠ o[j] := fun i j hi hj hij => List.pairwise_iff_getElem.1 h i j hi hj hij
  rcases Nat.lt_trichotomy i j with k | k | k
  · exact absurd e (h9 i j hi hj k)
  · exact k
  · exact absurd e.symm (h9 j i hj hi k)
theorem getD_right {o g : List Nat} {j : Nat} (h : o.length ≤ j) : (o ++ g).getD j 0 = g.getD (j - o.length) 0 := by
  rw [List.getD_eq_getElem?_getD, List.getD_eq_getElem?_getD, List.getElem?_append_right h]
theorem getD_mem {g : List Nat} {j : Nat} (h : j < g.length) : g.getD j 0 ∈ g := by
  rw [List.getD_eq_getElem?_getD, List.getElem?_eq_getElem h, Option.getD_some]
  exact List.getElem_mem h
theorem dupB_at (cf : Nat → Nat → Int) : ∀ (m : List Nat) (p : Nat), dupB cf m = false → p + 1 < m.length → cf (m.getD p 0) (m.getD (p + 1) 0) ≠ 0
  | [], p, _, h => by simp at h
  | [x], p, _, h => by simp at h
  | x :: y :: m, p, hd, h => by
    rw [dupB, Bool.or_eq_false_iff] at hd
    cases p with
    | zero => exact beq_eq_false_iff_ne.1 hd.1
    | succ p => exact dupB_at cf (y :: m) p hd.2 (by simpa using h)
theorem OrdB.step {l : List PE} {wide : Bool} {k : Nat} {o g : List Nat} {d : Bool} (h : OrdB l wide k o d) (hS : OrdS l k o) (hk : k < o.length) (hg : ∀ i, i ∈ g ↔ i ∈ kidsM l l.length (o.getD k 0 + 1)) (hgs : g.Pairwise (ltI (cfP l wide))) :
    OrdB l wide (k + 1) (o ++ g) (d || dupB (cfP l wide) g) := by
  have hpg : ∀ p, o.length ≤ p → p < (o ++ g).length → (l.getD ((o ++ g).getD p 0) peD).par = ((o.getD k 0 + 1 : Nat) : Int) := fun p h1 h2 => by
    rw [List.length_append] at h2
    rw [getD_right h1]
    exact (kids_mem ((hg _).1 (getD_mem (by omega)))).2.2
  have hpo : ∀ p, 1 ≤ p → p < o.length → ∃ j, j < k ∧ j < p ∧ (l.getD ((o ++ g).getD p 0) peD).par = (((o ++ g).getD j 0 + 1 : Nat) : Int) := fun p h1 h2 => by
    obtain ⟨j, a1, a2, a3⟩ := h.pos p h1 h2
    exact ⟨j, a1, a2, by rw [getD_app h2, getD_app (by omega)]; exact a3⟩
  have hSS := ordS_step hS hk hg (hgs.imp (fun {x y} hh e => by
    subst e
    exact ltI_asymm (cfP_ok l wide) hh hh))
  have hkk : (o ++ g).getD k 0 = o.getD k 0 := getD_app hk
  have hwho : ∀ p, 1 ≤ p → p < (o ++ g).length → ∃ j, j < k + 1 ∧ j < p ∧ j < o.length ∧ (p < o.length → j < k) ∧ (o.length ≤ p → j = k) ∧ (l.getD ((o ++ g).getD p 0) peD).par = (((o ++ g).getD j 0 + 1 : Nat) : Int) := fun p h1 h2 => by
    rcases Nat.lt_or_ge p o.length with hlt | hge
    · obtain ⟨j, a1, a2, a3⟩ := hpo p h1 hlt
      exact ⟨j, by omega, a2, by omega, fun _ => a1, fun _ => by omega, a3⟩
    · exact ⟨k, by omega, by omega, hk, fun _ => by omega, fun _ => rfl, by rw [hpg p hge h2, hkk]⟩
  have huniq : ∀ p j, 1 ≤ p → p < (o ++ g).length → j < (o ++ g).length → (l.getD ((o ++ g).getD p 0) peD).par = (((o ++ g).getD j 0 + 1 : Nat) : Int) → (p < o.length → j < k) ∧ (o.length ≤ p → j = k) := fun p j h1 h2 hj e => by
    obtain ⟨j2, -, -, a3, a4, a5, a6⟩ := hwho p h1 h2
    have : j = j2 := getD_inj hSS.nd hj (by rw [List.length_append]; omega) (by omega)
    subst this
    exact ⟨a4, a5⟩
  refine ⟨?_, fun p h1 h2 => ?_, fun p j j' h1 h2 h3 h4 h5 h6 => ?_, fun p h1 h2 h3 h4 => ?_⟩
  · rw [getD_app (by omega)]
    exact h.at0
  · obtain ⟨j, a1, a2, -, -, -, a6⟩ := hwho p h1 h2
    exact ⟨j, a1, a2, a6⟩
  · have u1 := huniq p j h1 (by omega) h3 h5
    have u2 := huniq (p + 1) j' (by omega) h2 h4 h6
    rcases Nat.lt_or_ge (p + 1) o.length with hlt | hge
    · have hj := u1.1 (by omega)
      have hj' := u2.1 hlt
      rw [getD_app (by omega), getD_app (by omega)] at h5 h6
      exact h.mono p j j' h1 hlt (by omega) (by omega) h5 h6
    · have hj' := u2.2 hge
      rcases Nat.lt_or_ge p o.length with hp | hp
      · have := u1.1 hp
        omega
      · have := u1.2 hp
        omega
  · rw [Bool.or_eq_false_iff] at h4
    rcases Nat.lt_or_ge (p + 1) o.length with hlt | hge
    · rw [getD_app (by omega), getD_app hlt] at h3 ⊢
      exact h.sib p h1 hlt h3 h4.1
    · rcases Nat.lt_or_ge p o.length with hp | hp
      · exfalso
        obtain ⟨j, a1, -, a3, a4, -, a6⟩ := hwho p h1 (by omega)
        obtain ⟨j', b1, -, b3, -, b5, b6⟩ := hwho (p + 1) (by omega) h2
        have := a4 hp
        have := b5 hge
        have e : j = j' := getD_inj hSS.nd (by rw [List.length_append]; omega) (by rw [List.length_append]; omega) (by omega)
        omega
      · rw [List.length_append] at h2
        have e1 : (o ++ g).getD (p + 1) 0 = g.getD (p - o.length + 1) 0 := by
          rw [getD_right (by omega), show p + 1 - o.length = p - o.length + 1 by omega]
        rw [getD_right hp, e1]
        have hne := dupB_at _ g (p - o.length) h4.2 (by omega)
        have hlt : ltI (cfP l wide) (g.getD (p - o.length) 0) (g.getD (p - o.length + 1) 0) := by
          rw [List.getD_eq_getElem?_getD, List.getD_eq_getElem?_getD, List.getElem?_eq_getElem (by omega), List.getElem?_eq_getElem (by omega), Option.getD_some, Option.getD_some]
          exact List.pairwise_iff_getElem.1 hgs _ _ _ _ (by omega)
        rcases hlt with hh | hh
        · exact hh
        · exact absurd hh.1 hne
theorem ordB_ok (l : List PE) (wide : Bool) (h0 : 0 < l.length) : ∀ k, k ≤ (ordF l wide k).1.length → OrdB l wide k (ordF l wide k).1 (ordF l wide k).2
  | 0, _ => ⟨rfl, fun p h1 h2 => by simp [ordF] at h2; omega, fun p j j' h1 h2 => by simp [ordF] at h2, fun p h1 h2 => by simp [ordF] at h2⟩
  | k + 1, h => by
    by_cases hk : k < (ordF l wide k).1.length
    · rw [ordF_next hk]
      refine (ordB_ok l wide h0 k (by omega)).step (ordF_ok l wide h0 k (by omega)) hk (fun i => (srtI_perm _ _).mem_iff) ?_
      exact srtI_sorted (cfP_ok l wide) _ (inc_nodup (kids_inc _ _ _))
    · rw [ordF] at h
      simp only [hk, if_false] at h
      omega
end Go.Proofs.Ytnmlephjhcmbhaa
namespace Go.Proofs.Ytnmlephjhcmbhaa
set_option linter.unusedSimpArgs false
set_option linter.unusedVariables false
open Go Go.RowKit
theorem numK_get (o : List Nat) (n : Nat) (hn : o.Nodup) (hlt : ∀ i ∈ o, i < n) : ∀ k j, k ≤ o.length → j < k → (numK o n k).getD (o.getD j 0) 0 = j + 1
  | 0, j, _, h => by omega
  | k + 1, j, h1, h2 => by
    rw [numK]
    have hl := numK_len o n k
    have hk := hlt _ (getD_mem (g := o) (j := k) (by omega))
    by_cases e : j = k
    · subst e
      simp [List.getD_eq_getElem?_getD, hl, show o[j]?.getD 0 < n by rw [← List.getD_eq_getElem?_getD]; exact hk]
    · have hne : o.getD k 0 ≠ o.getD j 0 := fun h => e (getD_inj hn (by omega) (by omega) h.symm)
      have ih := numK_get o n hn hlt k j (by omega) (by omega)
      rw [List.getD_eq_getElem?_getD, List.getElem?_set_ne hne, ← List.getD_eq_getElem?_getD]
      exact ih
theorem outK_get (l : List PE) (o : List Nat) (n : Nat) : ∀ m k, k < m → (outK l o n m).getD k peD = entK l o n k
  | 0, k, h => by omega
  | m + 1, k, h => by
    rw [outK]
    have hl := outK_len l o n m
    rw [List.getD_eq_getElem?_getD]
    rcases Nat.lt_or_ge k m with hlt | hge
    · rw [List.getElem?_append_left (by omega), ← List.getD_eq_getElem?_getD]
      exact outK_get l o n m k hlt
    · obtain rfl : k = m := by omega
      rw [List.getElem?_append_right (by omega), hl, Nat.sub_self]
      rfl
/-- All is well with the entries. -/
structure OG (l : List PE) (wide : Bool) : Prop where
  fin : OrdFin l wide
  hpos : 0 < l.length
  hroot : RootP (l.getD 0 peD)
  hgood : ∀ i, 1 ≤ i → i < l.length → NamedP (l.getD i peD) ∧ 1 ≤ (l.getD i peD).par ∧ (l.getD i peD).par ≤ l.length
theorem OG.ords {l : List PE} {wide : Bool} (h : OG l wide) : OrdS l l.length (ordO l wide) :=
  ordF_ok l wide h.hpos l.length (by have := h.fin.full; unfold ordO at this; omega)
theorem OG.ordb {l : List PE} {wide : Bool} (h : OG l wide) : OrdB l wide l.length (ordO l wide) false := by
  have := ordB_ok l wide h.hpos l.length (by have := h.fin.full; unfold ordO at this; omega)
  rw [h.fin.dup] at this
  exact this
theorem OG.lt {l : List PE} {wide : Bool} (h : OG l wide) {k : Nat} (hk : k < l.length) : (ordO l wide).getD k 0 < l.length :=
  h.ords.lt _ (getD_mem (by rw [h.fin.full]; exact hk))
theorem OG.ne0 {l : List PE} {wide : Bool} (h : OG l wide) {k : Nat} (h1 : 1 ≤ k) (hk : k < l.length) : (ordO l wide).getD k 0 ≠ 0 := fun e => by
  have := getD_inj h.ords.nd (i := k) (j := 0) (by rw [h.fin.full]; exact hk) (by rw [h.fin.full]; omega) (by rw [e, h.ordb.at0])
  omega
theorem OG.num {l : List PE} {wide : Bool} (h : OG l wide) {k j : Nat} (hk : k ≤ l.length) (hj : j < k) : (numK (ordO l wide) l.length k).getD ((ordO l wide).getD j 0) 0 = j + 1 :=
  numK_get _ _ h.ords.nd h.ords.lt k j (by rw [h.fin.full]; exact hk) hj
/-- The one above. -/
theorem OG.par {l : List PE} {wide : Bool} (h : OG l wide) {k : Nat} (h1 : 1 ≤ k) (hk : k < l.length) : ∃ j, j < k ∧ (l.getD ((ordO l wide).getD k 0) peD).par = (((ordO l wide).getD j 0 + 1 : Nat) : Int) ∧ (entK l (ordO l wide) l.length k).par = ((j + 1 : Nat) : Int) := by
  obtain ⟨j, -, a2, a3⟩ := h.ordb.pos k h1 (by rw [h.fin.full]; exact hk)
  refine ⟨j, a2, a3, ?_⟩
  show (((numK (ordO l wide) l.length (k + 1)).getD ((l.getD ((ordO l wide).getD k 0) peD).par.toNat - 1) 0 : Nat) : Int) = _
  rw [a3, Int.toNat_natCast, Nat.add_sub_cancel, h.num (by omega) (by omega)]
theorem OG.ent0 {l : List PE} {wide : Bool} (h : OG l wide) : (entK l (ordO l wide) l.length 0).par = 1 ∧ (entK l (ordO l wide) l.length 0).id = (l.getD 0 peD).id ∧ (entK l (ordO l wide) l.length 0).lba = (l.getD 0 peD).lba := by
  have e := h.num (k := 1) (j := 0) (by have := h.hpos; omega) (by omega)
  rw [h.ordb.at0] at e
  refine ⟨?_, ?_, ?_⟩
  · show (((numK (ordO l wide) l.length (0 + 1)).getD ((l.getD ((ordO l wide).getD 0 0) peD).par.toNat - 1) 0 : Nat) : Int) = _
    rw [h.ordb.at0, h.hroot.2]
    show (((numK (ordO l wide) l.length 1).getD 0 0 : Nat) : Int) = _
    rw [e]
    rfl
  · show (l.getD ((ordO l wide).getD 0 0) peD).id = _
    rw [h.ordb.at0]
  · show (l.getD ((ordO l wide).getD 0 0) peD).lba = _
    rw [h.ordb.at0]
def outO (l : List PE) (wide : Bool) : List PE := outK l (ordO l wide) l.length l.length
theorem outO_len (l : List PE) (wide : Bool) : (outO l wide).length = l.length := outK_len _ _ _ _
theorem outO_get (l : List PE) (wide : Bool) {k : Nat} (hk : k < l.length) : (outO l wide).getD k peD = entK l (ordO l wide) l.length k := outK_get _ _ _ _ _ hk
theorem OG.vt {l : List PE} {wide : Bool} (h : OG l wide) (hl : l.length ≤ 1024) : VTb wide (outO l wide) := by
  have hb := h.ordb
  have hf := h.fin.full
  have hp := h.hpos
  refine ⟨by rw [outO_len]; omega, by rw [outO_len]; exact hl, fun i h1 hi => ?_, fun i h1 hi => ?_, fun i h1 hi => ?_, fun i h1 hi he => ?_, fun i h1 hi => ?_, fun i hi => ?_, ?_⟩
  · rw [outO_len] at hi
    obtain ⟨j, a1, a2, a3⟩ := h.par h1 hi
    rw [outO_get _ _ hi, a3]
    omega
  · rw [outO_len] at hi
    obtain ⟨j, a1, a2, a3⟩ := h.par h1 hi
    rw [outO_get _ _ hi, a3]
    omega
  · rw [outO_len] at hi
    obtain ⟨j, a1, a2, a3⟩ := h.par h1 hi
    rw [outO_get _ _ hi, outO_get _ _ (by omega), a3]
    rcases Nat.lt_or_ge 1 i with h2 | h2
    · obtain ⟨j', b1, b2, b3⟩ := h.par (k := i - 1) (by omega) (by omega)
      rw [b3]
      have := hb.mono (i - 1) j' j (by omega) (by omega) (by omega) (by omega) b2 (by rw [show i - 1 + 1 = i by omega]; exact a2)
      omega
    · obtain rfl : i = 1 := by omega
      rw [Nat.sub_self, h.ent0.1]
      omega
  · rw [outO_len] at hi
    obtain ⟨j, a1, a2, a3⟩ := h.par (by omega) hi
    obtain ⟨j', b1, b2, b3⟩ := h.par (k := i - 1) (by omega) (by omega)
    rw [outO_get _ _ hi, outO_get _ _ (by omega)] at he ⊢
    rw [a3, b3] at he
    obtain rfl : j = j' := by omega
    have := hb.sib (i - 1) (by omega) (by omega) (by rw [show i - 1 + 1 = i by omega, a2, b2]) rfl
    rw [show i - 1 + 1 = i by omega] at this
    exact this
  · rw [outO_len] at hi
    rw [outO_get _ _ hi]
    exact (h.hgood _ (by have := h.ne0 h1 hi; omega) (h.lt hi)).1
  · rw [outO_len] at hi
    rw [outO_get _ _ hi]
    show BlockP (l.getD ((ordO l wide).getD i 0) peD).lba
    have hlt := h.lt hi
    have hk := h.fin.blk
    rw [List.any_eq_false] at hk
    have := hk (l.getD ((ordO l wide).getD i 0) peD) (by rw [List.getD_eq_getElem?_getD, List.getElem?_eq_getElem hlt, Option.getD_some]; exact List.getElem_mem hlt)
    simpa using this
  · rw [outO_get _ _ hp]
    have e := h.ent0
    have r := h.hroot
    unfold RootP
    rw [e.2.1, e.1]
    exact ⟨r.1, rfl⟩
/-- Where an entry has gone. -/
theorem OG.at_ {l : List PE} {wide : Bool} (h : OG l wide) {i : Nat} (hi : i < l.length) : ∃ p, p < l.length ∧ (ordO l wide).getD p 0 = i ∧ (numK (ordO l wide) l.length l.length).getD i 0 = p + 1 := by
  obtain ⟨p, hp, e⟩ := List.getElem_of_mem (nodup_full _ _ h.ords.nd h.ords.lt h.fin.full i hi)
  have hpl : p < l.length := by rw [← h.fin.full]; exact hp
  have e2 : (ordO l wide).getD p 0 = i := by rw [List.getD_eq_getElem?_getD, List.getElem?_eq_getElem hp, Option.getD_some, e]
  refine ⟨p, hpl, e2, ?_⟩
  have := h.num (Nat.le_refl _) hpl
  rw [e2] at this
  exact this
/-- What it is there. -/
theorem OG.moved {l : List PE} {wide : Bool} (h : OG l wide) {i p : Nat} (hi : i < l.length) (hp : p < l.length) (he : (ordO l wide).getD p 0 = i) :
    1 ≤ (l.getD i peD).par ∧ (l.getD i peD).par ≤ l.length ∧ (outO l wide).getD p peD = ⟨(l.getD i peD).id, (l.getD i peD).lba, (((numK (ordO l wide) l.length l.length).getD ((l.getD i peD).par.toNat - 1) 0 : Nat) : Int)⟩ := by
  rw [outO_get _ _ hp]
  rcases Nat.eq_zero_or_pos p with h0 | h0
  · subst h0
    rw [h.ordb.at0] at he
    subst he
    have r := h.hroot.2
    have e0 := h.ent0
    have e1 := h.num (k := l.length) (j := 0) (Nat.le_refl _) h.hpos
    rw [h.ordb.at0] at e1
    refine ⟨by omega, by have := h.hpos; omega, ?_⟩
    rw [r]
    show _ = PE.mk _ _ (((numK (ordO l wide) l.length l.length).getD 0 0 : Nat) : Int)
    rw [e1]
    cases hx : entK l (ordO l wide) l.length 0
    rw [hx] at e0
    obtain ⟨a1, a2, a3⟩ := e0
    simp only at a1 a2 a3
    rw [a1, a2, a3]
    rfl
  · obtain ⟨j, a1, a2, a3⟩ := h.par h0 hp
    have hjl := h.lt (k := j) (by omega)
    rw [he] at a2
    refine ⟨by omega, by omega, ?_⟩
    rw [a2, Int.toNat_natCast, Nat.add_sub_cancel, h.num (Nat.le_refl _) (by omega)]
    cases hx : entK l (ordO l wide) l.length p
    rw [hx] at a3
    simp only at a3
    have b1 : (entK l (ordO l wide) l.length p).id = (l.getD i peD).id := by show (l.getD ((ordO l wide).getD p 0) peD).id = _; rw [he]
    have b2 : (entK l (ordO l wide) l.length p).lba = (l.getD i peD).lba := by show (l.getD ((ordO l wide).getD p 0) peD).lba = _; rw [he]
    rw [hx] at b1 b2
    simp only at b1 b2
    rw [a3, b1, b2]
/-- All is well with a valid table. -/
theorem VTb.og {wide : Bool} {l : List PE} (h : VTb wide l) : OG l wide :=
  ⟨h.fin, Nat.pos_of_ne_zero h.ne, h.root, fun i h1 h2 => ⟨h.nam i h1 h2, h.lo i h1 h2, by have := h.hi i h1 h2; omega⟩⟩
theorem VTb.numI {wide : Bool} {l : List PE} (h : VTb wide l) {j : Nat} (hj : j < l.length) : (numK (ordO l wide) l.length l.length).getD j 0 = j + 1 := by
  have e := h.og.num (Nat.le_refl _) hj
  unfold ordO at e ⊢
  rw [h.ordF_is] at e ⊢
  simpa [List.getD_eq_getElem?_getD, hj] using e
theorem VTb.out {wide : Bool} {l : List PE} (h : VTb wide l) : outO l wide = l := by
  have hg := h.og
  refine List.ext_getElem (outO_len _ _) fun i h1 h2 => ?_
  have e := hg.moved (i := i) (p := i) h2 h2 (by unfold ordO; rw [h.ordF_is]; simp [List.getD_eq_getElem?_getD, h2])
  obtain ⟨e1, e2, e3⟩ := e
  obtain ⟨j, hj⟩ : ∃ j : Nat, (l.getD i peD).par = ((j + 1 : Nat) : Int) := ⟨(l.getD i peD).par.toNat - 1, by omega⟩
  rw [hj, Int.toNat_natCast, Nat.add_sub_cancel, h.numI (by omega), ← hj] at e3
  rw [List.getD_eq_getElem?_getD, List.getD_eq_getElem?_getD, List.getElem?_eq_getElem h1, List.getElem?_eq_getElem h2, Option.getD_some, Option.getD_some] at e3
  exact e3
end Go.Proofs.Ytnmlephjhcmbhaa
namespace Go.Proofs.Ytnmlephjhcmbhaa
set_option linter.unusedSimpArgs false
set_option linter.unusedVariables false
open Go Go.RowKit
/-- Some steps up lead to the first entry. -/
def reachB (l : List PE) : Nat → Nat → Bool
  | 0, i => i == 0
  | f + 1, i => i == 0 || reachB l f ((l.getD i peD).par.toNat - 1)
theorem reach_zero (l : List PE) : ∀ f, reachB l f 0 = true
  | 0 => rfl
  | _ + 1 => rfl
theorem reach_mono (l : List PE) : ∀ f i, reachB l f i = true → reachB l (f + 1) i = true
  | 0, i, h => by
    obtain rfl : i = 0 := beq_iff_eq.1 h
    rfl
  | f + 1, i, h => by
    rw [reachB, Bool.or_eq_true] at h ⊢
    rcases h with h | h
    · exact .inl h
    · exact .inr (reach_mono l f _ h)
theorem reach_le (l : List PE) (i : Nat) {f g : Nat} (hfg : f ≤ g) (h : reachB l f i = true) : reachB l g i = true := by
  obtain ⟨d, rfl⟩ : ∃ d, g = f + d := ⟨g - f, by omega⟩
  clear hfg
  induction d with
  | zero => exact h
  | succ d ih => exact reach_mono l _ i ih
theorem ordF_len (l : List PE) (wide : Bool) (k : Nat) : (ordF l wide k).1.length ≤ (ordF l wide (k + 1)).1.length := by
  rw [ordF]
  by_cases hk : k < (ordF l wide k).1.length
  · simp only [hk, if_true, List.length_append]
    omega
  · simp only [hk, if_false]
    omega
theorem ordF_pre (l : List PE) (wide : Bool) (k : Nat) : ∀ d j, j < (ordF l wide k).1.length → j < (ordF l wide (k + d)).1.length ∧ (ordF l wide (k + d)).1.getD j 0 = (ordF l wide k).1.getD j 0
  | 0, j, h => ⟨h, rfl⟩
  | d + 1, j, h => by
    obtain ⟨h1, h2⟩ := ordF_pre l wide k d j h
    rw [show k + (d + 1) = k + d + 1 by omega, ordF]
    by_cases hk : k + d < (ordF l wide (k + d)).1.length
    · simp only [hk, if_true]
      rw [getD_app h1]
      exact ⟨by rw [List.length_append]; omega, h2⟩
    · simp only [hk, if_false]
      exact ⟨h1, h2⟩
theorem ordF_dup (l : List PE) (wide : Bool) (k : Nat) (h : (ordF l wide k).2 = true) : ∀ d, (ordF l wide (k + d)).2 = true
  | 0 => h
  | d + 1 => by
    have ih := ordF_dup l wide k h d
    rw [show k + (d + 1) = k + d + 1 by omega, ordF]
    by_cases hk : k + d < (ordF l wide (k + d)).1.length
    · simp only [hk, if_true, ih, Bool.true_or]
    · simp only [hk, if_false, ih]
/-- What stands in the order had its round. -/
theorem ordF_round {l : List PE} {wide : Bool} {t : Nat} (h : t < (ordO l wide).length) (hn : t < l.length) : t < (ordF l wide t).1.length ∧ (ordF l wide t).1.getD t 0 = (ordO l wide).getD t 0 := by
  have h1 : t < (ordF l wide t).1.length := by
    rcases Nat.lt_or_ge t (ordF l wide t).1.length with h2 | h2
    · exact h2
    · have := ordF_stable l wide t (by omega) (l.length - t)
      rw [show t + (l.length - t) = l.length by omega] at this
      unfold ordO at h
      rw [this] at h
      omega
  refine ⟨h1, ?_⟩
  have := (ordF_pre l wide t (l.length - t) t h1).2
  rw [show t + (l.length - t) = l.length by omega] at this
  exact this.symm
theorem ord_kids {l : List PE} {wide : Bool} {t i : Nat} (h : t < (ordO l wide).length) (hn : t < l.length) (hi : i ∈ kidsM l l.length ((ordO l wide).getD t 0 + 1)) : i ∈ ordO l wide := by
  obtain ⟨h1, h2⟩ := ordF_round h hn
  have e := ordF_next h1
  rw [h2] at e
  have hm : i ∈ (ordF l wide (t + 1)).1 := by
    rw [e]
    exact List.mem_append_right _ ((srtI_perm _ _).mem_iff.2 hi)
  obtain ⟨j, hj, rfl⟩ := List.getElem_of_mem hm
  have hp := ordF_pre l wide (t + 1) (l.length - (t + 1)) j hj
  rw [show t + 1 + (l.length - (t + 1)) = l.length by omega] at hp
  have : (ordF l wide (t + 1)).1[j] = (ordO l wide).getD j 0 := by
    unfold ordO
    rw [hp.2, List.getD_eq_getElem?_getD, List.getElem?_eq_getElem hj, Option.getD_some]
  rw [this]
  exact getD_mem hp.1
structure OGd (l : List PE) : Prop where
  hpos : 0 < l.length
  hroot : RootP (l.getD 0 peD)
  hgood : ∀ i, 1 ≤ i → i < l.length → GoodE l i
theorem OGd.par {l : List PE} (h : OGd l) {i : Nat} (hi : i < l.length) : 1 ≤ (l.getD i peD).par ∧ (l.getD i peD).par ≤ l.length := by
  rcases Nat.eq_zero_or_pos i with h0 | h0
  · subst h0
    have := h.hroot.2
    omega
  · exact (h.hgood i h0 hi).2
theorem OGd.le {l : List PE} (h : OGd l) (wide : Bool) : (ordO l wide).length ≤ l.length := by
  have hk : ∀ k, ∃ q, q ≤ k ∧ q ≤ (ordF l wide q).1.length ∧ ordF l wide k = ordF l wide q := by
    intro k
    induction k with
    | zero => exact ⟨0, Nat.le_refl _, Nat.zero_le _, rfl⟩
    | succ k ih =>
      by_cases hlt : k < (ordF l wide k).1.length
      · exact ⟨k + 1, Nat.le_refl _, by have := ordF_len l wide k; omega, rfl⟩
      · obtain ⟨q, h1, h2, h3⟩ := ih
        refine ⟨q, by omega, h2, ?_⟩
        rw [ordF]
        simp only [hlt, if_false]
        exact h3
  obtain ⟨q, -, h2, h3⟩ := hk l.length
  unfold ordO
  rw [h3]
  exact ordS_len (ordF_ok l wide h.hpos q h2)
theorem OGd.fullS {l : List PE} (h : OGd l) {wide : Bool} (hf : (ordO l wide).length = l.length) : OrdS l l.length (ordO l wide) ∧ OrdB l wide l.length (ordO l wide) (ordF l wide l.length).2 :=
  ⟨ordF_ok l wide h.hpos l.length (by unfold ordO at hf; omega), ordB_ok l wide h.hpos l.length (by unfold ordO at hf; omega)⟩
theorem OGd.reach {l : List PE} (h : OGd l) (wide : Bool) : ∀ f i, i < l.length → reachB l f i = true → i ∈ ordO l wide
  | 0, i, hi, hr => by
    obtain rfl : i = 0 := beq_iff_eq.1 hr
    have e : ∀ k, 0 < (ordF l wide k).1.length ∧ (ordF l wide k).1.getD 0 0 = 0 := fun k => by
      have := ordF_pre l wide 0 k 0 (show 0 < [0].length by decide)
      rw [Nat.zero_add] at this
      exact this
    have := e l.length
    have hm := getD_mem this.1
    rw [this.2] at hm
    exact hm
  | f + 1, i, hi, hr => by
    rw [reachB, Bool.or_eq_true] at hr
    by_cases h0 : i = 0
    · exact OGd.reach h wide 0 i hi (by rw [h0]; rfl)
    · rcases hr with hr | hr
      · exact absurd (beq_iff_eq.1 hr) h0
      · have hp := h.par hi
        have hm := OGd.reach h wide f _ (by omega) hr
        obtain ⟨t, ht, e⟩ := List.getElem_of_mem hm
        have hle := h.le wide
        refine ord_kids (t := t) ht (by omega) ?_
        rw [List.getD_eq_getElem?_getD, List.getElem?_eq_getElem ht, Option.getD_some, e]
        unfold kidsM
        rw [List.mem_filter, List.mem_range'_1]
        exact ⟨⟨by omega, by omega⟩, beq_iff_eq.2 (by omega)⟩
theorem OGd.full_iff {l : List PE} (h : OGd l) (wide : Bool) : (ordO l wide).length = l.length ↔ ∀ i, i < l.length → reachB l l.length i = true := by
  constructor
  · intro hf i hi
    obtain ⟨hS, hB⟩ := h.fullS hf
    have key : ∀ t, t < l.length → reachB l t ((ordO l wide).getD t 0) = true := by
      intro t
      induction t using Nat.strongRecOn with
      | _ t ih =>
        intro ht
        rcases Nat.eq_zero_or_pos t with h0 | h0
        · subst h0
          rw [hB.at0]
          rfl
        · obtain ⟨j, -, a2, a3⟩ := hB.pos t h0 (by omega)
          obtain ⟨t, rfl⟩ : ∃ t', t = t' + 1 := ⟨t - 1, by omega⟩
          rw [reachB, a3, Int.toNat_natCast, Nat.add_sub_cancel, reach_le l _ (by omega) (ih j a2 (by omega)), Bool.or_true]
    obtain ⟨t, ht, e⟩ := List.getElem_of_mem (nodup_full _ _ hS.nd hS.lt hf i hi)
    have := key t (by omega)
    rw [List.getD_eq_getElem?_getD, List.getElem?_eq_getElem ht, Option.getD_some, e] at this
    exact reach_le l i (by omega) this
  · intro hr
    have hle := h.le wide
    rcases Nat.lt_or_ge (ordO l wide).length l.length with hlt | hge
    · exfalso
      have := nodup_le' l.length (ordO l wide) fun i hi => h.reach wide l.length i hi (hr i hi)
      omega
    · omega
  where
  nodup_le' : ∀ (n : Nat) (o : List Nat), (∀ i, i < n → i ∈ o) → n ≤ o.length
    | 0, _, _ => Nat.zero_le _
    | n + 1, o, hh => by
      have hn := hh n (Nat.lt_succ_self n)
      have := nodup_le' n (o.erase n) fun i hi => by
        have h1 := hh i (by omega)
        exact (List.mem_erase_of_ne (by omega)).2 h1
      rw [List.length_erase_of_mem hn] at this
      have := List.length_pos_of_mem hn
      omega
theorem dupB_yes (cf : Nat → Nat → Int) : ∀ m : List Nat, dupB cf m = true → ∃ p, p + 1 < m.length ∧ cf (m.getD p 0) (m.getD (p + 1) 0) = 0
  | [], h => by simp [dupB] at h
  | [x], h => by simp [dupB] at h
  | x :: y :: m, h => by
    rw [dupB, Bool.or_eq_true] at h
    rcases h with h | h
    · exact ⟨0, by simp, beq_iff_eq.1 h⟩
    · obtain ⟨p, h1, h2⟩ := dupB_yes cf (y :: m) h
      exact ⟨p + 1, by simp at h1 ⊢; omega, h2⟩
theorem dupB_lt {cf : Nat → Nat → Int} (h : OrdI cf) : ∀ m : List Nat, m.Pairwise (ltI cf) → dupB cf m = false → m.Pairwise (fun x y => cf x y < 0)
  | [], _, _ => List.Pairwise.nil
  | [x], _, _ => by simp
  | x :: y :: m, hs, hd => by
    rw [dupB, Bool.or_eq_false_iff] at hd
    rw [List.pairwise_cons] at hs
    have ih := dupB_lt h (y :: m) hs.2 hd.2
    have hxy : cf x y < 0 := by
      rcases hs.1 y (List.mem_cons_self ..) with k | k
      · exact k
      · exact absurd k.1 (beq_eq_false_iff_ne.1 hd.1)
    rw [List.pairwise_cons] at ih
    refine List.pairwise_cons.2 ⟨fun z hz => ?_, List.pairwise_cons.2 ih⟩
    rcases List.mem_cons.1 hz with rfl | hz
    · exact hxy
    · have h1 := ih.1 z hz
      have h2 := h.trans x y z (by omega) (by omega)
      have h3 := h.swap x z
      have h4 := h.swap x y
      rcases Int.lt_or_eq_of_le h2 with k | k
      · exact k
      · have := h.trans y z x (by omega) (by omega)
        omega
theorem OGd.dup_iff {l : List PE} (h : OGd l) (wide : Bool) (hf : (ordO l wide).length = l.length) :
    (ordF l wide l.length).2 = true ↔ ∃ i k, 1 ≤ k ∧ k < i ∧ i < l.length ∧ (l.getD i peD).par = (l.getD k peD).par ∧ cfP l wide i k = 0 := by
  have hcf := cfP_ok l wide
  constructor
  · intro hd
    have key : ∀ k, (ordF l wide k).2 = true → ∃ j, dupB (cfP l wide) (srtI (cfP l wide) (kidsM l l.length j)) = true := by
      intro k
      induction k with
      | zero => intro h; cases h
      | succ k ih =>
        intro hh
        rw [ordF] at hh
        by_cases hk : k < (ordF l wide k).1.length
        · simp only [hk, if_true, Bool.or_eq_true] at hh
          rcases hh with hh | hh
          · exact ih hh
          · exact ⟨_, hh⟩
        · simp only [hk, if_false] at hh
          exact ih hh
    obtain ⟨j, hj⟩ := key _ hd
    obtain ⟨p, hp, hz⟩ := dupB_yes _ _ hj
    have hnd : (srtI (cfP l wide) (kidsM l l.length j)).Nodup := (srtI_perm _ _).nodup_iff.2 (inc_nodup (kids_inc _ _ _))
    have m1 := kids_mem ((srtI_perm (cfP l wide) (kidsM l l.length j)).mem_iff.1 (getD_mem (j := p) (by omega)))
    have m2 := kids_mem ((srtI_perm (cfP l wide) (kidsM l l.length j)).mem_iff.1 (getD_mem (j := p + 1) hp))
    have hne : (srtI (cfP l wide) (kidsM l l.length j)).getD p 0 ≠ (srtI (cfP l wide) (kidsM l l.length j)).getD (p + 1) 0 := fun e => by
      have := getD_inj hnd (by omega) hp e
      omega
    generalize (srtI (cfP l wide) (kidsM l l.length j)).getD p 0 = x at *
    generalize (srtI (cfP l wide) (kidsM l l.length j)).getD (p + 1) 0 = y at *
    have hs := hcf.swap x y
    rcases Nat.lt_or_gt_of_ne hne with k | k
    · exact ⟨y, x, m1.1, k, m2.2.1, by rw [m1.2.2, m2.2.2], by omega⟩
    · exact ⟨x, y, m2.1, k, m1.2.1, by rw [m1.2.2, m2.2.2], hz⟩
  · rintro ⟨i, k, h1, h2, h3, h4, h5⟩
    obtain ⟨hS, hB⟩ := h.fullS hf
    have hp := h.par (i := k) (by omega)
    obtain ⟨t, ht, e⟩ := List.getElem_of_mem (nodup_full _ _ hS.nd hS.lt hf ((l.getD k peD).par.toNat - 1) (by omega))
    have htn : t < l.length := by omega
    obtain ⟨r1, r2⟩ := ordF_round ht htn
    have e2 : (ordO l wide).getD t 0 = (l.getD k peD).par.toNat - 1 := by rw [List.getD_eq_getElem?_getD, List.getElem?_eq_getElem ht, Option.getD_some, e]
    have hn := ordF_next r1
    rw [r2, e2, show (l.getD k peD).par.toNat - 1 + 1 = (l.getD k peD).par.toNat by omega] at hn
    have hd : dupB (cfP l wide) (srtI (cfP l wide) (kidsM l l.length (l.getD k peD).par.toNat)) = true := by
      cases hdd : dupB (cfP l wide) (srtI (cfP l wide) (kidsM l l.length (l.getD k peD).par.toNat)) with
      | true => rfl
      | false =>
        exfalso
        have hlt := dupB_lt hcf _ (srtI_sorted hcf _ (inc_nodup (kids_inc _ _ _))) hdd
        have mk : ∀ x, 1 ≤ x → x < l.length → (l.getD x peD).par = (l.getD k peD).par → x ∈ srtI (cfP l wide) (kidsM l l.length (l.getD k peD).par.toNat) := fun x a1 a2 a3 => by
          refine (srtI_perm _ _).mem_iff.2 ?_
          unfold kidsM
          rw [List.mem_filter, List.mem_range'_1]
          exact ⟨⟨a1, by omega⟩, beq_iff_eq.2 (by omega)⟩
        obtain ⟨p, hp1, ep⟩ := List.getElem_of_mem (mk i (by omega) h3 h4)
        obtain ⟨q, hq1, eq⟩ := List.getElem_of_mem (mk k h1 (by omega) rfl)
        have hs := hcf.swap i k
        rcases Nat.lt_trichotomy p q with c | c | c
        · have := List.pairwise_iff_getElem.1 hlt p q hp1 hq1 c
          rw [ep, eq] at this
          omega
        · subst c
          rw [ep] at eq
          omega
        · have := List.pairwise_iff_getElem.1 hlt q p hq1 hp1 c
          rw [ep, eq] at this
          omega
    have := ordF_dup l wide (t + 1) (by rw [hn]; simp only [hd, Bool.or_true]) (l.length - (t + 1))
    rw [show t + 1 + (l.length - (t + 1)) = l.length by omega] at this
    exact this
/-- An element more, put where it belongs. -/
theorem ins_at {cf : Nat → Nat → Int} (h : OrdI cf) {m : List Nat} {i k : Nat} (hs : m.Pairwise (ltI cf)) (hlt : ∀ x ∈ m, x < i) (hk : k ≤ m.length) (hb : k = 0 ∨ cf (m.getD (k - 1) 0) i ≤ 0) (ha : ∀ t, k ≤ t → t < m.length → 0 < cf (m.getD t 0) i) :
    (m.take k ++ i :: m.drop k).Pairwise (ltI cf) := by
  have hsp : m = m.take k ++ m.drop k := (List.take_append_drop k m).symm
  rw [hsp, List.pairwise_append] at hs
  have hlow : ∀ x ∈ m.take k, ltI cf x i := fun x hx => by
    obtain ⟨t, ht, e⟩ := List.getElem_of_mem hx
    rw [List.length_take] at ht
    have htk : t < k := by omega
    rcases hb with h0 | hb
    · omega
    · have hkm : k - 1 < m.length := by omega
      have e1 : m.getD (k - 1) 0 = m[k - 1] := by rw [List.getD_eq_getElem?_getD, List.getElem?_eq_getElem hkm, Option.getD_some]
      have hlast : ltI cf (m[k - 1]) i := by
        rw [e1] at hb
        rcases Int.lt_or_eq_of_le hb with q | q
        · exact .inl q
        · exact .inr ⟨q, hlt _ (List.getElem_mem hkm)⟩
      rw [List.getElem_take] at e
      by_cases htl : t = k - 1
      · subst htl
        rw [← e]
        exact hlast
      · have := hs.1
        have h9 := List.pairwise_iff_getElem.1 this t (k - 1) (by rw [List.length_take]; omega) (by rw [List.length_take]; omega) (by omega)
        rw [List.getElem_take, List.getElem_take, e] at h9
        exact ltI_trans h _ _ _ h9 hlast
  have hhigh : ∀ y ∈ m.drop k, ltI cf i y := fun y hy => by
    obtain ⟨t, ht, e⟩ := List.getElem_of_mem hy
    rw [List.length_drop] at ht
    rw [List.getElem_drop] at e
    have := ha (k + t) (by omega) (by omega)
    rw [List.getD_eq_getElem?_getD, List.getElem?_eq_getElem (by omega), Option.getD_some, e] at this
    have s := h.swap i y
    exact .inl (by omega)
  rw [List.pairwise_append, List.pairwise_cons]
  refine ⟨hs.1, ⟨hhigh, hs.2.1⟩, fun x hx y hy => ?_⟩
  rcases List.mem_cons.1 hy with rfl | hy
  · exact hlow x hx
  · exact hs.2.2 x hx y hy
theorem ins_srt {cf : Nat → Nat → Int} (h : OrdI cf) {z : List Nat} {i k : Nat} (hn : z.Pairwise (· < ·)) (hlt : ∀ x ∈ z, x < i) (hk : k ≤ (srtI cf z).length) (hb : k = 0 ∨ cf ((srtI cf z).getD (k - 1) 0) i ≤ 0) (ha : ∀ t, k ≤ t → t < (srtI cf z).length → 0 < cf ((srtI cf z).getD t 0) i) :
    (srtI cf z).take k ++ i :: (srtI cf z).drop k = srtI cf (z ++ [i]) := by
  have hp := srtI_perm cf z
  refine sort_is h ?_ ?_ (ins_at h (srtI_sorted h z (inc_nodup hn)) (fun x hx => hlt x (hp.mem_iff.1 hx)) hk hb ha)
  · rw [List.nodup_append]
    refine ⟨inc_nodup hn, by simp, fun x hx y hy e => ?_⟩
    simp at hy
    have := hlt x hx
    omega
  · have e : ((srtI cf z).take k ++ i :: (srtI cf z).drop k).Perm (i :: srtI cf z) := by
      have := List.perm_middle (a := i) (l₁ := (srtI cf z).take k) (l₂ := (srtI cf z).drop k)
      rw [List.take_append_drop] at this
      exact this
    refine e.trans ?_
    refine ((hp.cons i).trans ?_)
    exact (List.perm_append_singleton i z).symm
/-- What can be refused is one thing. -/
theorem OrdBad.unique {l : List PE} {wide : Bool} {c c' : Int} (h : OrdBad l wide c) (h' : OrdBad l wide c') : c = c' := by
  rcases h with ⟨h1, h2⟩ | ⟨h1, h2, h3⟩
  · rcases h' with ⟨h4, -⟩ | ⟨h4, h5, -⟩
    · omega
    · exfalso
      rcases h2 with k | ⟨i, a, b, k⟩
      · exact k h4
      · exact k (h5 i a b)
  · rcases h' with ⟨-, h4⟩ | ⟨-, -, h4⟩
    · exfalso
      rcases h4 with k | ⟨i, a, b, k⟩
      · exact k h1
      · exact k (h2 i a b)
    · rcases h3 with ⟨rfl, a⟩ | ⟨a, ⟨rfl, b⟩ | ⟨b, rfl, d⟩⟩ <;> rcases h4 with ⟨rfl, a'⟩ | ⟨a', ⟨rfl, b'⟩ | ⟨b', rfl, d'⟩⟩ <;> first | rfl | omega | (rw [b] at b'; cases b')
theorem OrdBad.notfin {l : List PE} {wide : Bool} {c : Int} (h : OrdBad l wide c) (h1 : RootP (l.getD 0 peD)) (h2 : ∀ i, 1 ≤ i → i < l.length → GoodE l i) (h3 : OrdFin l wide) : False := by
  rcases h with ⟨-, k | ⟨i, a, b, k⟩⟩ | ⟨-, -, h⟩
  · exact k h1
  · exact k (h2 i a b)
  · have f1 := h3.full
    have f2 := h3.dup
    have f3 := h3.blk
    rcases h with ⟨-, a⟩ | ⟨-, ⟨-, a⟩ | ⟨-, -, a⟩⟩
    · omega
    · rw [f3] at a; cases a
    · rw [f2] at a; cases a
end Go.Proofs.Ytnmlephjhcmbhaa
