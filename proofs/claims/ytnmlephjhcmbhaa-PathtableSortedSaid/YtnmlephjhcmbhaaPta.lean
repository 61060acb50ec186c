/- What pathtable.Order gives, said plainly. -/
import Derived.Test.YtnmlephjhcmbhaaPpu
namespace Go.Proofs.Ytnmlephjhcmbhaa
set_option linter.unusedSimpArgs false
set_option linter.unusedVariables false
open Go Go.RowKit
theorem inc_ext : ∀ (a b : List Nat), a.Pairwise (· < ·) → b.Pairwise (· < ·) → (∀ x, x ∈ a ↔ x ∈ b) → a = b
  | [], [], _, _, _ => rfl
  | [], y :: b, _, _, h => by have := (h y).2 (List.mem_cons_self ..); cases this
  | x :: a, [], _, _, h => by have := (h x).1 (List.mem_cons_self ..); cases this
  | x :: a, y :: b, ha, hb, h => by
    rw [List.pairwise_cons] at ha hb
    have hxy : x = y := by
      rcases List.mem_cons.1 ((h x).1 (List.mem_cons_self ..)) with e | h1
      · exact e
      · rcases List.mem_cons.1 ((h y).2 (List.mem_cons_self ..)) with e | h2
        · exact e.symm
        · have := hb.1 x h1
          have := ha.1 y h2
          omega
    subst hxy
    rw [inc_ext a b ha.2 hb.2 fun z => ⟨fun hz => ?_, fun hz => ?_⟩]
    · rcases List.mem_cons.1 ((h z).1 (List.mem_cons_of_mem _ hz)) with e | h1
      · have := ha.1 z hz
        omega
      · exact h1
    · rcases List.mem_cons.1 ((h z).2 (List.mem_cons_of_mem _ hz)) with e | h1
      · have := hb.1 z hz
        omega
      · exact h1
theorem nodup_full (o : List Nat) (n : Nat) (hn : o.Nodup) (hlt : ∀ i ∈ o, i < n) (hl : o.length = n) (i : Nat) (hi : i < n) : i ∈ o := by
  refine Classical.byContradiction fun hni => ?_
  have := nodup_le n (i :: o) (List.nodup_cons.2 ⟨hni, hn⟩) fun j hj => by
    rcases List.mem_cons.1 hj with rfl | hj
    · exact hi
    · exact hlt j hj
  rw [List.length_cons] at this
  omega
/-- The entries are those of a path table. -/
structure VTb (wide : Bool) (l : List PE) : Prop where
  ne : l.length ≠ 0
  le : l.length ≤ 1024
  lo : ∀ i, 1 ≤ i → i < l.length → 1 ≤ (l.getD i peD).par
  hi : ∀ i, 1 ≤ i → i < l.length → (l.getD i peD).par ≤ i
  mono : ∀ i, 1 ≤ i → i < l.length → (l.getD (i - 1) peD).par ≤ (l.getD i peD).par
  ord : ∀ i, 1 < i → i < l.length → (l.getD i peD).par = (l.getD (i - 1) peD).par → cmpM (l.getD (i - 1) peD).id.data.toList (l.getD i peD).id.data.toList wide < 0
  nam : ∀ i, 1 ≤ i → i < l.length → NamedP (l.getD i peD)
  blk : ∀ i, i < l.length → BlockP (l.getD i peD).lba
  root : RootP (l.getD 0 peD)
theorem vt_iff {wide : Bool} {l : List PE} : pvB wide l = true ↔ VTb wide l := by
  unfold pvB
  rw [Bool.and_eq_true, decide_eq_true_eq, List.all_eq_true]
  have e : ∀ i, vatB wide l i = true ↔ VAt wide i (l.getD (i - 1) peD) (l.getD i peD) := fun i => by simp [vatB]
  constructor
  · intro h
    have h2 : ∀ i, i < l.length → VAt wide i (l.getD (i - 1) peD) (l.getD i peD) := fun i hi => (e i).1 (h.2 i (List.mem_range.2 hi))
    refine ⟨h.1.1, h.1.2.1, fun i h1 hi => ?_, fun i h1 hi => ?_, fun i h1 hi => ?_, fun i h1 hi he => ?_, fun i h1 hi => ?_, fun i hi => (h2 i hi).1, h.1.2.2⟩
    · rcases (h2 i hi).2 with k | k
      · omega
      · exact k.2.1
    · rcases (h2 i hi).2 with k | k
      · omega
      · exact k.2.2.2.1
    · rcases (h2 i hi).2 with k | k
      · omega
      · exact k.2.2.1
    · rcases (h2 i hi).2 with k | k
      · omega
      · have := k.2.2.2.2
        rcases Int.lt_or_le (cmpM (l.getD (i - 1) peD).id.data.toList (l.getD i peD).id.data.toList wide) 0 with hc | hc
        · exact hc
        · exact absurd ⟨h1, he, hc⟩ this
    · rcases (h2 i hi).2 with k | k
      · omega
      · exact k.1
  · intro h
    refine ⟨⟨h.ne, h.le, h.root⟩, fun i hi => (e i).2 ⟨h.blk i (List.mem_range.1 hi), ?_⟩⟩
    rw [List.mem_range] at hi
    rcases Nat.eq_zero_or_pos i with h0 | h0
    · exact .inl h0
    · refine .inr ⟨h.nam i h0 hi, h.lo i h0 hi, h.mono i h0 hi, h.hi i h0 hi, fun k => ?_⟩
      have := h.ord i k.1 hi k.2.1
      omega
theorem VTb.mono_le {wide : Bool} {l : List PE} (h : VTb wide l) : ∀ k j, 1 ≤ j → j ≤ k → k < l.length → (l.getD j peD).par ≤ (l.getD k peD).par := by
  intro k
  induction k with
  | zero => intro j h1 h2; omega
  | succ k ih =>
    intro j h1 h2 h3
    rcases Nat.lt_or_ge k j with hlt | hge
    · obtain rfl : j = k + 1 := by omega
      exact Int.le_refl _
    · have a := ih j h1 hge (by omega)
      have b := h.mono (k + 1) (by omega) h3
      rw [Nat.add_sub_cancel] at b
      omega
theorem VTb.sib_lt {wide : Bool} {l : List PE} (h : VTb wide l) : ∀ k j, 1 ≤ j → j < k → k < l.length → (l.getD j peD).par = (l.getD k peD).par → cfP l wide j k < 0 := by
  intro k
  induction k with
  | zero => intro j h1 h2; omega
  | succ k ih =>
    intro j h1 h2 h3 he
    have b1 := h.mono (k + 1) (by omega) h3
    have b2 := h.mono_le k j h1 (by omega) (by omega)
    rw [Nat.add_sub_cancel] at b1
    have o := h.ord (k + 1) (by omega) h3 (by rw [Nat.add_sub_cancel]; omega)
    rw [Nat.add_sub_cancel] at o
    rcases Nat.lt_or_ge j k with hlt | hge
    · exact cmpM_trans_lt _ _ _ _ (ih j h1 hlt (by omega) (by omega)) (by omega)
    · obtain rfl : j = k := by omega
      exact o
theorem dupB_none (cf : Nat → Nat → Int) : ∀ m : List Nat, m.Pairwise (fun x y => cf x y < 0) → dupB cf m = false
  | [], _ => rfl
  | [x], _ => rfl
  | x :: y :: m, h => by
    rw [List.pairwise_cons] at h
    have := h.1 y (List.mem_cons_self ..)
    rw [dupB, dupB_none cf (y :: m) h.2, Bool.or_false]
    exact beq_eq_false_iff_ne.2 (by omega)
/-- Where what holds of the first ones ends. -/
theorem cut_at (P : Nat → Prop) [DecidablePred P] (n : Nat) (hd : ∀ i, i + 1 < n → P (i + 1) → P i) : ∀ d c, c + d = n → ∃ c', c ≤ c' ∧ c' ≤ n ∧ ∀ i, c ≤ i → i < n → (i < c' ↔ P i)
  | 0, c, h => ⟨c, Nat.le_refl _, by omega, fun i h1 h2 => by omega⟩
  | d + 1, c, h => by
    by_cases hP : P c
    · obtain ⟨c', h1, h2, h3⟩ := cut_at P n hd d (c + 1) (by omega)
      refine ⟨c', by omega, h2, fun i h4 h5 => ?_⟩
      rcases Nat.lt_or_ge c i with hlt | hge
      · exact h3 i hlt h5
      · obtain rfl : i = c := by omega
        exact ⟨fun _ => hP, fun _ => by omega⟩
    · refine ⟨c, Nat.le_refl _, by omega, fun i h4 h5 => ⟨fun h => by omega, fun h => ?_⟩⟩
      have : ∀ e, c + e < n → P (c + e) → P c := by
        intro e
        induction e with
        | zero => intro _ h; exact h
        | succ e ih => intro h1 h2; exact ih (by omega) (hd _ h1 h2)
      exact absurd (this (i - c) (by omega) (by rw [show c + (i - c) = i by omega]; exact h)) hP
/-- A valid table is in its order. -/
theorem VTb.same {wide : Bool} {l : List PE} (h : VTb wide l) : ∀ k, k ≤ l.length → ∃ c, ordF l wide k = (List.range c, false) ∧ 1 ≤ c ∧ c ≤ l.length ∧ ∀ i, 1 ≤ i → i < l.length → (i < c ↔ (l.getD i peD).par ≤ k) := by
  intro k
  have hne := h.ne
  induction k with
  | zero =>
    intro _
    refine ⟨1, rfl, Nat.le_refl _, by omega, fun i h1 h2 => ⟨fun h3 => by omega, fun h3 => ?_⟩⟩
    have := h.lo i h1 h2
    omega
  | succ k ih =>
    intro hk
    obtain ⟨c, e, h1, h2, h3⟩ := ih (by omega)
    have hkc : k < c := by
      rcases Nat.eq_zero_or_pos k with h0 | h0
      · omega
      · exact (h3 k h0 (by omega)).2 (h.hi k h0 (by omega))
    obtain ⟨c', a1, a2, a3⟩ := cut_at (fun i => i = 0 ∨ (l.getD i peD).par ≤ ((k + 1 : Nat) : Int)) l.length (fun i hi hp => by
      rcases Nat.eq_zero_or_pos i with h0 | h0
      · exact .inl h0
      · rcases hp with hp | hp
        · omega
        · have := h.mono (i + 1) (by omega) hi
          rw [Nat.add_sub_cancel] at this
          exact .inr (by omega)) (l.length - c) c (by omega)
    have hkids : kidsM l l.length (k + 1) = List.range' c (c' - c) := by
      refine inc_ext _ _ (kids_inc _ _ _) (List.pairwise_lt_range' (s := c) (n := c' - c)) fun i => ?_
      unfold kidsM
      rw [List.mem_filter, List.mem_range'_1, List.mem_range'_1]
      simp only [beq_iff_eq]
      constructor
      · rintro ⟨⟨b1, b2⟩, b3⟩
        have hci : c ≤ i := by
          rcases Nat.lt_or_ge i c with hlt | hge
          · have := (h3 i b1 (by omega)).1 hlt
            omega
          · exact hge
        have := (a3 i hci (by omega)).2 (.inr (by omega))
        exact ⟨hci, by omega⟩
      · rintro ⟨b1, b2⟩
        have hil : i < l.length := by omega
        have b3 := (a3 i b1 hil).1 (by omega)
        have b4 : ¬ (l.getD i peD).par ≤ (k : Int) := fun hh => by
          have := (h3 i (by omega) hil).2 hh
          omega
        refine ⟨⟨by omega, by omega⟩, ?_⟩
        rcases b3 with b3 | b3
        · omega
        · omega
    have hpar : ∀ i ∈ kidsM l l.length (k + 1), (l.getD i peD).par = ((k + 1 : Nat) : Int) ∧ 1 ≤ i ∧ i < l.length := fun i hi => by
      obtain ⟨q1, q2, q3⟩ := kids_mem hi
      exact ⟨q3, q1, q2⟩
    have hlt : (kidsM l l.length (k + 1)).Pairwise (fun x y => cfP l wide x y < 0) := by
      refine List.Pairwise.imp_of_mem (fun {x y} hx hy hxy => ?_) (kids_inc l l.length (k + 1))
      have px := hpar x hx
      have py := hpar y hy
      exact h.sib_lt y x px.2.1 hxy py.2.2 (by rw [px.1, py.1])
    have hsrt : srtI (cfP l wide) (kidsM l l.length (k + 1)) = kidsM l l.length (k + 1) :=
      (sort_is (cfP_ok l wide) (inc_nodup (kids_inc _ _ _)) (List.Perm.refl _) (hlt.imp fun hh => .inl hh)).symm
    refine ⟨c', ?_, by omega, a2, fun i b1 b2 => ?_⟩
    · have hn := ordF_next (l := l) (wide := wide) (k := k) (by rw [e]; simpa using hkc)
      rw [hn, e]
      simp only [show (List.range c).getD k 0 = k by simp [List.getD_eq_getElem?_getD, hkc], hsrt]
      rw [dupB_none _ _ hlt, hkids, List.range_eq_range', List.range_eq_range', Bool.or_false]
      congr 1
      have := List.range'_append_1 (s := 0) (m := c) (n := c' - c)
      rw [Nat.zero_add] at this
      rw [this]
      congr 1
      omega
    · rcases Nat.lt_or_ge i c with hlt2 | hge
      · have := (h3 i b1 b2).1 hlt2
        exact ⟨fun _ => by omega, fun _ => by omega⟩
      · rw [a3 i hge b2]
        constructor
        · rintro (q | q)
          · omega
          · exact q
        · exact .inr
theorem VTb.ordF_is {wide : Bool} {l : List PE} (h : VTb wide l) : ordF l wide l.length = (List.range l.length, false) := by
  obtain ⟨c, e, h1, h2, h3⟩ := h.same l.length (Nat.le_refl _)
  have : c = l.length := by
    rcases Nat.lt_or_ge c l.length with hlt | hge
    · have a := (h3 c h1 hlt).2 (by have := h.hi c h1 hlt; omega)
      omega
    · omega
  rw [e, this]
theorem VTb.fin {wide : Bool} {l : List PE} (h : VTb wide l) : OrdFin l wide := by
  refine ⟨by unfold ordO; rw [h.ordF_is]; simp, by rw [h.ordF_is], ?_⟩
  rw [List.any_eq_false]
  intro x hx
  obtain ⟨i, hi, rfl⟩ := List.getElem_of_mem hx
  have := h.blk i hi
  rw [List.getD_eq_getElem?_getD, List.getElem?_eq_getElem hi, Option.getD_some] at this
  simp [this]
/-- The order: each stands behind the one above it; the ones above ascend; what stands beside is in its order. -/
structure OrdB (l : List PE) (wide : Bool) (k : Nat) (o : List Nat) (d : Bool) : Prop where
  at0 : o.getD 0 0 = 0
  pos : ∀ p, 1 ≤ p → p < o.length → ∃ j, j < k ∧ j < p ∧ (l.getD (o.getD p 0) peD).par = ((o.getD j 0 + 1 : Nat) : Int)
  mono : ∀ p j j', 1 ≤ p → p + 1 < o.length → j < o.length → j' < o.length → (l.getD (o.getD p 0) peD).par = ((o.getD j 0 + 1 : Nat) : Int) → (l.getD (o.getD (p + 1) 0) peD).par = ((o.getD j' 0 + 1 : Nat) : Int) → j ≤ j'
  sib : ∀ p, 1 ≤ p → p + 1 < o.length → (l.getD (o.getD p 0) peD).par = (l.getD (o.getD (p + 1) 0) peD).par → d = false → cfP l wide (o.getD p 0) (o.getD (p + 1) 0) < 0
theorem getD_inj {o : List Nat} (h : o.Nodup) {i j : Nat} (hi : i < o.length) (hj : j < o.length) (e : o.getD i 0 = o.getD j 0) : i = j := by
  rw [List.getD_eq_getElem?_getD, List.getD_eq_getElem?_getD, List.getElem?_eq_getElem hi, List.getElem?_eq_getElem hj, Option.getD_some, Option.getD_some] at e
  have h9 : ∀ i j (hi : i < o.length) (hj : j < o.length), i < j → o[i] ≠ o[j] := fun i j hi hj hij => List.pairwise_iff_getElem.1 h i j hi hj hij
  rcases Nat.lt_trichotomy i j with k | k | k
  · exact absurd e (h9 i j hi hj k)
  · exact k
  · exact absurd e.symm (h9 j i hj hi k)
theorem getD_right {o g : List Nat} {j : Nat} (h : o.length ≤ j) : (o ++ g).getD j 0 = g.getD (j - o.length) 0 := by
  rw [List.getD_eq_getElem?_getD, List.getD_eq_getElem?_getD, List.getElem?_append_right h]
theorem getD_mem {g : List Nat} {j : Nat} (h : j < g.length) : g.getD j 0 ∈ g := by
  rw [List.getD_eq_getElem?_getD, List.getElem?_eq_getElem h, Option.getD_some]
  exact List.getElem_mem h
theorem dupB_at (cf : Nat → Nat → Int) : ∀ (m : List Nat) (p : Nat), dupB cf m = false → p + 1 < m.length → cf (m.getD p 0) (m.getD (p + 1) 0) ≠ 0
  | [], p, _, h => by simp at h
  | [x], p, _, h => by simp at h
  | x :: y :: m, p, hd, h => by
    rw [dupB, Bool.or_eq_false_iff] at hd
    cases p with
    | zero => exact beq_eq_false_iff_ne.1 hd.1
    | succ p => exact dupB_at cf (y :: m) p hd.2 (by simpa using h)
theorem OrdB.step {l : List PE} {wide : Bool} {k : Nat} {o g : List Nat} {d : Bool} (h : OrdB l wide k o d) (hS : OrdS l k o) (hk : k < o.length) (hg : ∀ i, i ∈ g ↔ i ∈ kidsM l l.length (o.getD k 0 + 1)) (hgs : g.Pairwise (ltI (cfP l wide))) :
    OrdB l wide (k + 1) (o ++ g) (d || dupB (cfP l wide) g) := by
  have hpg : ∀ p, o.length ≤ p → p < (o ++ g).length → (l.getD ((o ++ g).getD p 0) peD).par = ((o.getD k 0 + 1 : Nat) : Int) := fun p h1 h2 => by
    rw [List.length_append] at h2
    rw [getD_right h1]
    exact (kids_mem ((hg _).1 (getD_mem (by omega)))).2.2
  have hpo : ∀ p, 1 ≤ p → p < o.length → ∃ j, j < k ∧ j < p ∧ (l.getD ((o ++ g).getD p 0) peD).par = (((o ++ g).getD j 0 + 1 : Nat) : Int) := fun p h1 h2 => by
    obtain ⟨j, a1, a2, a3⟩ := h.pos p h1 h2
    exact ⟨j, a1, a2, by rw [getD_app h2, getD_app (by omega)]; exact a3⟩
  have hSS := ordS_step hS hk hg (hgs.imp (fun {x y} hh e => by
    subst e
    exact ltI_asymm (cfP_ok l wide) hh hh))
  have hkk : (o ++ g).getD k 0 = o.getD k 0 := getD_app hk
  have hwho : ∀ p, 1 ≤ p → p < (o ++ g).length → ∃ j, j < k + 1 ∧ j < p ∧ j < o.length ∧ (p < o.length → j < k) ∧ (o.length ≤ p → j = k) ∧ (l.getD ((o ++ g).getD p 0) peD).par = (((o ++ g).getD j 0 + 1 : Nat) : Int) := fun p h1 h2 => by
    rcases Nat.lt_or_ge p o.length with hlt | hge
    · obtain ⟨j, a1, a2, a3⟩ := hpo p h1 hlt
      exact ⟨j, by omega, a2, by omega, fun _ => a1, fun _ => by omega, a3⟩
    · exact ⟨k, by omega, by omega, hk, fun _ => by omega, fun _ => rfl, by rw [hpg p hge h2, hkk]⟩
  have huniq : ∀ p j, 1 ≤ p → p < (o ++ g).length → j < (o ++ g).length → (l.getD ((o ++ g).getD p 0) peD).par = (((o ++ g).getD j 0 + 1 : Nat) : Int) → (p < o.length → j < k) ∧ (o.length ≤ p → j = k) := fun p j h1 h2 hj e => by
    obtain ⟨j2, -, -, a3, a4, a5, a6⟩ := hwho p h1 h2
    have : j = j2 := getD_inj hSS.nd hj (by rw [List.length_append]; omega) (by omega)
    subst this
    exact ⟨a4, a5⟩
  refine ⟨?_, fun p h1 h2 => ?_, fun p j j' h1 h2 h3 h4 h5 h6 => ?_, fun p h1 h2 h3 h4 => ?_⟩
  · rw [getD_app (by omega)]
    exact h.at0
  · obtain ⟨j, a1, a2, -, -, -, a6⟩ := hwho p h1 h2
    exact ⟨j, a1, a2, a6⟩
  · have u1 := huniq p j h1 (by omega) h3 h5
    have u2 := huniq (p + 1) j' (by omega) h2 h4 h6
    rcases Nat.lt_or_ge (p + 1) o.length with hlt | hge
    · have hj := u1.1 (by omega)
      have hj' := u2.1 hlt
      rw [getD_app (by omega), getD_app (by omega)] at h5 h6
      exact h.mono p j j' h1 hlt (by omega) (by omega) h5 h6
    · have hj' := u2.2 hge
      rcases Nat.lt_or_ge p o.length with hp | hp
      · have := u1.1 hp
        omega
      · have := u1.2 hp
        omega
  · rw [Bool.or_eq_false_iff] at h4
    rcases Nat.lt_or_ge (p + 1) o.length with hlt | hge
    · rw [getD_app (by omega), getD_app hlt] at h3 ⊢
      exact h.sib p h1 hlt h3 h4.1
    · rcases Nat.lt_or_ge p o.length with hp | hp
      · exfalso
        obtain ⟨j, a1, -, a3, a4, -, a6⟩ := hwho p h1 (by omega)
        obtain ⟨j', b1, -, b3, -, b5, b6⟩ := hwho (p + 1) (by omega) h2
        have := a4 hp
        have := b5 hge
        have e : j = j' := getD_inj hSS.nd (by rw [List.length_append]; omega) (by rw [List.length_append]; omega) (by omega)
        omega
      · rw [List.length_append] at h2
        have e1 : (o ++ g).getD (p + 1) 0 = g.getD (p - o.length + 1) 0 := by
          rw [getD_right (by omega), show p + 1 - o.length = p - o.length + 1 by omega]
        rw [getD_right hp, e1]
        have hne := dupB_at _ g (p - o.length) h4.2 (by omega)
        have hlt : ltI (cfP l wide) (g.getD (p - o.length) 0) (g.getD (p - o.length + 1) 0) := by
          rw [List.getD_eq_getElem?_getD, List.getD_eq_getElem?_getD, List.getElem?_eq_getElem (by omega), List.getElem?_eq_getElem (by omega), Option.getD_some, Option.getD_some]
          exact List.pairwise_iff_getElem.1 hgs _ _ _ _ (by omega)
        rcases hlt with hh | hh
        · exact hh
        · exact absurd hh.1 hne
theorem ordB_ok (l : List PE) (wide : Bool) (h0 : 0 < l.length) : ∀ k, k ≤ (ordF l wide k).1.length → OrdB l wide k (ordF l wide k).1 (ordF l wide k).2
  | 0, _ => ⟨rfl, fun p h1 h2 => by simp [ordF] at h2; omega, fun p j j' h1 h2 => by simp [ordF] at h2, fun p h1 h2 => by simp [ordF] at h2⟩
  | k + 1, h => by
    by_cases hk : k < (ordF l wide k).1.length
    · rw [ordF_next hk]
      refine (ordB_ok l wide h0 k (by omega)).step (ordF_ok l wide h0 k (by omega)) hk (fun i => (srtI_perm _ _).mem_iff) ?_
      exact srtI_sorted (cfP_ok l wide) _ (inc_nodup (kids_inc _ _ _))
    · rw [ordF] at h
      simp only [hk, if_false] at h
      omega
end Go.Proofs.Ytnmlephjhcmbhaa
