/- slices.insertionSortCmpFunc of indices: plain. -/
import Derived.Test.YtnmlephjhcmbhaaPkb
namespace Go.Proofs.Ytnmlephjhcmbhaa
set_option linter.unusedSimpArgs false
set_option linter.unusedVariables false
open Go Go.RowKit
theorem insI_stop {cf : Nat → Nat → Int} (h : OrdI cf) {p1 p2 : List Nat} {x : Nat} (hs : (p1 ++ p2).Pairwise (ltI cf)) (ht : ∀ y ∈ p1 ++ p2, y < x) (h2 : ∀ y ∈ p2, cf x y < 0)
    (h1 : ∀ y, p1.getLast? = some y → ¬ cf x y < 0) : (p1 ++ x :: p2).Pairwise (ltI cf) := by
  rw [List.pairwise_append] at hs ⊢
  obtain ⟨s1, s2, s3⟩ := hs
  have hx : ∀ y ∈ p1, ltI cf y x := by
    rcases List.eq_nil_or_concat p1 with rfl | ⟨q, z, rfl⟩
    · intro y hy; cases hy
    · rw [List.concat_eq_append] at *
      have hz := h1 z (by simp)
      have hzx : ltI cf z x := (ltI_of h (ht z (by simp))).2 hz
      intro y hy
      rcases List.mem_append.1 hy with hy | hy
      · rw [List.pairwise_append] at s1
        exact ltI_trans h _ _ _ (s1.2.2 y hy z (by simp)) hzx
      · simp at hy; subst hy; exact hzx
  refine ⟨s1, List.pairwise_cons.2 ⟨fun y hy => .inl (h2 y hy), s2⟩, fun a ha b hb => ?_⟩
  rcases List.mem_cons.1 hb with rfl | hb
  · exact hx a ha
  · exact s3 a ha b hb
/-- The state of the outer loop. -/
def InsOI (cf : Nat → Nat → Int) (w : World) (g : Nat) (tl : List Value) (A M C : List Nat) (i : Nat) (W : World) : Prop :=
  ∃ M1 M2 m1, M = M1 ++ M2 ∧ i = A.length + M1.length ∧ m1.Perm M1 ∧ m1.Pairwise (ltI cf) ∧ SI w g tl (A ++ m1 ++ (M2 ++ C)) W
/-- The state of the inner loop. -/
def InsII (cf : Nat → Nat → Int) (w : World) (g : Nat) (tl : List Value) (A m1 : List Nat) (x : Nat) (D : List Nat) (j : Nat) (W : World) : Prop :=
  ∃ p1 p2, m1 = p1 ++ p2 ∧ j = A.length + p1.length ∧ (∀ y ∈ p2, cf x y < 0) ∧ SI w g tl (A ++ p1 ++ (x :: p2 ++ D)) W
theorem InsOI.next {cf : Nat → Nat → Int} (h : OrdI cf) {w : World} {g : Nat} {tl : List Value} {A M1 M2 C m1 p1 p2 : List Nat} {x : Nat} {W : World} (ht : (M1 ++ x :: M2).Pairwise (· < ·)) (hp : m1.Perm M1) (hs : m1.Pairwise (ltI cf))
    (e : m1 = p1 ++ p2) (h2 : ∀ y ∈ p2, cf x y < 0) (h1 : ∀ y, p1.getLast? = some y → ¬ cf x y < 0) (hS : SI w g tl (A ++ p1 ++ (x :: p2 ++ (M2 ++ C))) W) :
    InsOI cf w g tl A (M1 ++ x :: M2) C (A.length + M1.length + 1) W := by
  subst e
  refine ⟨M1 ++ [x], M2, p1 ++ x :: p2, by simp, by simp; omega, ?_, insI_stop h hs ?_ h2 h1, ?_⟩
  · have e1 : (p1 ++ x :: p2).Perm (x :: (p1 ++ p2)) := List.perm_middle
    have e2 : (x :: (p1 ++ p2)).Perm (x :: M1) := hp.cons x
    exact (e1.trans e2).trans (List.perm_append_comm (l₁ := [x]) (l₂ := M1))
  · intro y hy
    rw [List.pairwise_append] at ht
    exact ht.2.2 y (hp.subset hy) x (by simp)
  · have e1 : A ++ p1 ++ (x :: p2 ++ (M2 ++ C)) = A ++ (p1 ++ x :: p2) ++ (M2 ++ C) := by simp
    rw [← e1]; exact hS
theorem InsII.start {cf : Nat → Nat → Int} {w : World} {g : Nat} {tl : List Value} {A m1 M2 C : List Nat} {x : Nat} {W : World} (hS : SI w g tl (A ++ m1 ++ (x :: M2 ++ C)) W) (n : Nat) (hn : n = m1.length) :
    InsII cf w g tl A m1 x (M2 ++ C) (A.length + n) W := ⟨m1, [], by simp, by omega, by simp, by simpa using hS⟩
theorem at_mid (L M : List Nat) (x k : Nat) (hk : k = L.length) : (L ++ x :: M)[k]? = some x := by subst hk; simp
theorem set_mid (L M : List Nat) (x y k : Nat) (hk : k = L.length) : (L ++ x :: M).set k y = L ++ y :: M := by subst hk; simp
end Go.Proofs.Ytnmlephjhcmbhaa
