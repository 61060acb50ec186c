/- slices.symMergeCmpFunc of records: the whole. -/
import Derived.Test.YtnmlephjhcmbhaaGreatGkh
namespace Go.Proofs.YtnmlephjhcmbhaaGreat
set_option linter.unusedSimpArgs false
set_option linter.unusedVariables false
open Go Go.RowKit
def SymH (cf : Rec → Rec → Int) (P : Rec → Prop) (w : World) (g : Nat) (tl : List Value) (Fb cap N k : Nat) : Prop :=
  ∀ (A L R C : List TR) (a m b : Nat) (W0 : World), L.length + R.length ≤ k → 0 < L.length → 0 < R.length → a = A.length → m = a + L.length → b = m + R.length → N = (A ++ L ++ R ++ C).length → L.Pairwise (ltT cf) → R.Pairwise (ltT cf) →
    (∀ x ∈ L, ∀ y ∈ R, x.2 < y.2) → (∀ x ∈ L ++ R, P x.1) → ST w g tl (A ++ L ++ R ++ C) W0 →
    Calls Tryz.prog 92 #[.slice (some ⟨g, 0, none⟩) N cap, cN a, cN m, cN b, .func (.func 46) #[] #[.pointer (some ⟨Fb, 0, none⟩)]] W0 (SeT cf w g tl A (L ++ R) C)
theorem sym_end {cf : Rec → Rec → Int} {w : World} {g : Nat} {tl : List Value} {A L R C m1 m2 : List TR} {s t : Nat} {W : World} (h1 : m1.Perm (L.take s ++ R.take t)) (h2 : m2.Perm (L.drop s ++ R.drop t)) (s1 : m1.Pairwise (ltT cf)) (s2 : m2.Pairwise (ltT cf))
    (hx : ∀ x ∈ L.take s ++ R.take t, ∀ y ∈ L.drop s ++ R.drop t, ltT cf x y) (hS : ST w g tl (A ++ (m1 ++ m2) ++ C) W) : ∃ m, m.Perm (L ++ R) ∧ m.Pairwise (ltT cf) ∧ ST w g tl (A ++ m ++ C) W :=
  ⟨m1 ++ m2, sym_perm s t h1 h2, sym_join s1 s2 h1 h2 hx, hS⟩
theorem pw_nil_left {cf : Rec → Rec → Int} {L R : List TR} {s t : Nat} (hL : L.Pairwise (ltT cf)) (hR : R.Pairwise (ltT cf)) (h : (L.take s).length = 0 ∨ (R.take t).length = 0) : (L.take s ++ R.take t).Pairwise (ltT cf) := by
  rcases h with h | h
  · rw [List.eq_nil_of_length_eq_zero h]; exact hR.sublist (List.take_sublist _ _)
  · rw [List.eq_nil_of_length_eq_zero h, List.append_nil]; exact hL.sublist (List.take_sublist _ _)
theorem pw_nil_right {cf : Rec → Rec → Int} {L R : List TR} {s t : Nat} (hL : L.Pairwise (ltT cf)) (hR : R.Pairwise (ltT cf)) (h : (L.drop s).length = 0 ∨ (R.drop t).length = 0) : (L.drop s ++ R.drop t).Pairwise (ltT cf) := by
  rcases h with h | h
  · rw [List.eq_nil_of_length_eq_zero h]; exact hR.sublist (List.drop_sublist _ _)
  · rw [List.eq_nil_of_length_eq_zero h, List.append_nil]; exact hL.sublist (List.drop_sublist _ _)
/-- All that is known where the search has ended. -/
structure SymC (cf : Rec → Rec → Int) (P : Rec → Prop) (w : World) (g : Nat) (tl : List Value) (A L R C : List TR) (a m b mid N ki en : Nat) (W : World) (s t : Nat) : Prop where
  ha : a = A.length
  hm : m = a + L.length
  hb : b = m + R.length
  hmid : mid = a + s + t
  hki : ki = a + s
  hen : en = m + t
  hs : s ≤ L.length
  ht : t ≤ R.length
  h2 : 2 ≤ s + t
  h2' : s + t + 2 ≤ L.length + R.length
  hp : 1 < L.length
  hq : 1 < R.length
  hN : N = (A ++ L ++ R ++ C).length
  hL : L.Pairwise (ltT cf)
  hR : R.Pairwise (ltT cf)
  hx : ∀ x ∈ L, ∀ y ∈ R, x.2 < y.2
  hP : ∀ x ∈ L ++ R, P x.1
  cut : ∀ x ∈ L.take s ++ R.take t, ∀ y ∈ L.drop s ++ R.drop t, ltT cf x y
  hS : ST w g tl (A ++ L ++ R ++ C) W
theorem SymC.parts {cf : Rec → Rec → Int} {P : Rec → Prop} {w : World} {g : Nat} {tl : List Value} {A L R C : List TR} {a m b mid N ki en : Nat} {W : World} {s t : Nat} (h : SymC cf P w g tl A L R C a m b mid N ki en W s t) :
    A ++ L ++ R ++ C = (A ++ L.take s) ++ L.drop s ++ R.take t ++ (R.drop t ++ C) := by
  conv => lhs; rw [← List.take_append_drop s L, ← List.take_append_drop t R]
  simp only [List.append_assoc]
theorem SymC.lens {cf : Rec → Rec → Int} {P : Rec → Prop} {w : World} {g : Nat} {tl : List Value} {A L R C : List TR} {a m b mid N ki en : Nat} {W : World} {s t : Nat} (h : SymC cf P w g tl A L R C a m b mid N ki en W s t) :
    (L.take s).length = s ∧ (L.drop s).length = L.length - s ∧ (R.take t).length = t ∧ (R.drop t).length = R.length - t := by
  have h1 := h.hs; have h2 := h.ht
  refine ⟨?_, ?_, ?_, ?_⟩ <;> simp <;> omega
/-- Behind the exchange. -/
def SymR (w : World) (g : Nat) (tl : List Value) (A L R C : List TR) (s t : Nat) (W : World) : Prop := ST w g tl (A ++ (L.take s ++ R.take t) ++ (L.drop s ++ R.drop t) ++ C) W
theorem SymC.still {cf : Rec → Rec → Int} {P : Rec → Prop} {w : World} {g : Nat} {tl : List Value} {A L R C : List TR} {a m b mid N ki en : Nat} {W : World} {s t : Nat} (h : SymC cf P w g tl A L R C a m b mid N ki en W s t) (k : L.length ≤ s ∨ t = 0) : SymR w g tl A L R C s t W := by
  have h1 := h.hS
  rw [h.parts] at h1
  unfold SymR
  have e : (A ++ L.take s) ++ L.drop s ++ R.take t ++ (R.drop t ++ C) = A ++ (L.take s ++ R.take t) ++ (L.drop s ++ R.drop t) ++ C := by
    rcases k with k | k
    · rw [List.drop_eq_nil_of_le k]
      simp only [List.append_assoc, List.nil_append]
    · subst k
      simp only [List.append_assoc, List.take_zero, List.nil_append]
  rw [← e]
  exact h1
theorem SymC.rot {cf : Rec → Rec → Int} {P : Rec → Prop} {w : World} {g : Nat} {tl : List Value} {A L R C : List TR} {a m b mid N ki en cap : Nat} {W : World} {s t : Nat} (h : SymC cf P w g tl A L R C a m b mid N ki en W s t) (hN2 : N ≤ 2000) (k1 : s < L.length) (k2 : 0 < t) (fv : Value) :
    Calls Tryz.prog 115 #[.slice (some ⟨g, 0, none⟩) N cap, cN ki, cN m, cN en, fv] W fun e w' => e = .returned (.tuple #[]) ∧ SymR w g tl A L R C s t w' := by
  obtain ⟨l1, l2, l3, l4⟩ := h.lens
  have hS := h.hS
  rw [h.parts] at hS
  refine (rotint_ok w g tl cap fv (A ++ L.take s) (L.drop s) (R.take t) (R.drop t ++ C) ki m en N (by omega) (by omega) (by rw [List.length_append, l1, ← h.ha]; exact h.hki) (by rw [l2, h.hki, h.hm]; have := h.hs; omega) (by rw [l3]; exact h.hen) (by rw [← h.parts]; exact h.hN) hN2 W hS).mono ?_
  rintro e w' ⟨rfl, hE⟩
  refine ⟨rfl, ?_⟩
  unfold SymR
  simpa using hE
def SymM1 (cf : Rec → Rec → Int) (w : World) (g : Nat) (tl : List Value) (A L R C : List TR) (s t : Nat) (W : World) : Prop := ∃ m1, m1.Perm (L.take s ++ R.take t) ∧ m1.Pairwise (ltT cf) ∧ ST w g tl (A ++ m1 ++ (L.drop s ++ R.drop t) ++ C) W
theorem SymC.skip1 {cf : Rec → Rec → Int} {P : Rec → Prop} {w : World} {g : Nat} {tl : List Value} {A L R C : List TR} {a m b mid N ki en : Nat} {W W1 : World} {s t : Nat} (h : SymC cf P w g tl A L R C a m b mid N ki en W s t) (k : s = 0 ∨ t = 0) (hr : SymR w g tl A L R C s t W1) : SymM1 cf w g tl A L R C s t W1 := by
  obtain ⟨l1, l2, l3, l4⟩ := h.lens
  exact ⟨_, List.Perm.refl _, pw_nil_left h.hL h.hR (by omega), hr⟩
theorem SymC.call1 {cf : Rec → Rec → Int} {P : Rec → Prop} {w : World} {g : Nat} {tl : List Value} {A L R C : List TR} {a m b mid N ki en cap Fb k : Nat} {W W1 : World} {s t : Nat} (h : SymC cf P w g tl A L R C a m b mid N ki en W s t) (ih : SymH cf P w g tl Fb cap N k) (hk : L.length + R.length ≤ k + 1) (k1 : 0 < s) (k2 : 0 < t)
    (hr : SymR w g tl A L R C s t W1) : Calls Tryz.prog 92 #[.slice (some ⟨g, 0, none⟩) N cap, cN a, cN ki, cN mid, .func (.func 46) #[] #[.pointer (some ⟨Fb, 0, none⟩)]] W1 fun e w' => e = .returned (.tuple #[]) ∧ SymM1 cf w g tl A L R C s t w' := by
  obtain ⟨l1, l2, l3, l4⟩ := h.lens
  have h1 := h.h2'
  refine (ih A (L.take s) (R.take t) (L.drop s ++ R.drop t ++ C) a ki mid W1 (by omega) (by omega) (by omega) h.ha (by rw [l1]; exact h.hki) (by rw [l3, h.hki]; exact h.hmid) ?_ (h.hL.sublist (List.take_sublist _ _)) (h.hR.sublist (List.take_sublist _ _))
    (fun x hx y hy => h.hx x (List.mem_of_mem_take hx) y (List.mem_of_mem_take hy)) (fun x hx => h.hP x ?_) (by unfold SymR at hr; simpa using hr)).mono ?_
  · rw [h.hN]
    have := h.hs; have := h.ht
    simp
    omega
  · rcases List.mem_append.1 hx with hx | hx
    · exact List.mem_append_left _ (List.mem_of_mem_take hx)
    · exact List.mem_append_right _ (List.mem_of_mem_take hx)
  · rintro e w' ⟨rfl, m1, p1, q1, r1⟩
    exact ⟨rfl, m1, p1, q1, by simpa using r1⟩
theorem SymC.skip2 {cf : Rec → Rec → Int} {P : Rec → Prop} {w : World} {g : Nat} {tl : List Value} {A L R C : List TR} {a m b mid N ki en : Nat} {W W1 : World} {s t : Nat} (h : SymC cf P w g tl A L R C a m b mid N ki en W s t) (k : L.length ≤ s ∨ R.length ≤ t) (hr : SymM1 cf w g tl A L R C s t W1) : SeT cf w g tl A (L ++ R) C (.returned (.tuple #[])) W1 := by
  obtain ⟨l1, l2, l3, l4⟩ := h.lens
  obtain ⟨m1, p1, q1, r1⟩ := hr
  exact ⟨rfl, sym_end p1 (List.Perm.refl _) q1 (pw_nil_right h.hL h.hR (by omega)) h.cut (by simpa using r1)⟩
theorem SymC.call2 {cf : Rec → Rec → Int} {P : Rec → Prop} {w : World} {g : Nat} {tl : List Value} {A L R C : List TR} {a m b mid N ki en cap Fb k : Nat} {W W1 : World} {s t : Nat} (h : SymC cf P w g tl A L R C a m b mid N ki en W s t) (ih : SymH cf P w g tl Fb cap N k) (hk : L.length + R.length ≤ k + 1) (k1 : s < L.length) (k2 : t < R.length)
    (hr : SymM1 cf w g tl A L R C s t W1) : Calls Tryz.prog 92 #[.slice (some ⟨g, 0, none⟩) N cap, cN mid, cN en, cN b, .func (.func 46) #[] #[.pointer (some ⟨Fb, 0, none⟩)]] W1 (SeT cf w g tl A (L ++ R) C) := by
  obtain ⟨l1, l2, l3, l4⟩ := h.lens
  obtain ⟨m1, p1, q1, r1⟩ := hr
  have hl := p1.length_eq
  rw [List.length_append, l1, l3] at hl
  have h1 := h.h2; have h2 := h.hs; have h3 := h.ht; have h4 := h.hm; have h5 := h.hb; have h6 := h.hen; have h7 := h.hmid; have h8 := h.ha
  refine (ih (A ++ m1) (L.drop s) (R.drop t) C mid en b W1 (by omega) (by omega) (by omega) (by rw [List.length_append, hl]; omega) (by omega) (by omega) ?_ (h.hL.sublist (List.drop_sublist _ _)) (h.hR.sublist (List.drop_sublist _ _))
    (fun x hx y hy => h.hx x (List.mem_of_mem_drop hx) y (List.mem_of_mem_drop hy)) (fun x hx => h.hP x ?_) (by simpa using r1)).mono ?_
  · rw [h.hN]
    simp
    omega
  · rcases List.mem_append.1 hx with hx | hx
    · exact List.mem_append_left _ (List.mem_of_mem_drop hx)
    · exact List.mem_append_right _ (List.mem_of_mem_drop hx)
  · rintro e w' ⟨rfl, m2, p2, q2, r2⟩
    exact ⟨rfl, sym_end p1 p2 q1 q2 h.cut (by simpa using r2)⟩
end Go.Proofs.YtnmlephjhcmbhaaGreat
