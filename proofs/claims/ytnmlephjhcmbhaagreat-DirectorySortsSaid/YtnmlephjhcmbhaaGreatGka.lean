/- Merging two sorted runs in their place: plain. -/
import Derived.WalkKit
namespace Go.Proofs.YtnmlephjhcmbhaaGreat
set_option linter.unusedSimpArgs false
set_option linter.unusedVariables false
section
variable {α : Type} {lt : α → α → Prop}
theorem pw_get {l : List α} (h : l.Pairwise lt) {i j : Nat} {x y : α} (hij : i < j) (hx : l[i]? = some x) (hy : l[j]? = some y) : lt x y := by
  obtain ⟨hi, rfl⟩ := List.getElem?_eq_some_iff.1 hx
  obtain ⟨hj, rfl⟩ := List.getElem?_eq_some_iff.1 hy
  exact List.pairwise_iff_getElem.1 h i j hi hj hij
/-- Up to s, what stands on the left comes before its counterpart on the right. -/
def CutLo (lt : α → α → Prop) (L R : List α) (h s0 s : Nat) : Prop := ∀ c x y, s0 ≤ c → c < s → L[c]? = some x → R[h - 1 - c]? = some y → lt x y
def CutHi (lt : α → α → Prop) (L R : List α) (h r r0 : Nat) : Prop := ∀ c x y, r ≤ c → c < r0 → L[c]? = some x → R[h - 1 - c]? = some y → lt y x
theorem cutLo_start (L R : List α) (h s0 : Nat) : CutLo lt L R h s0 s0 := fun c _ _ h1 h2 => by omega
theorem cutHi_start (L R : List α) (h r0 : Nat) : CutHi lt L R h r0 r0 := fun c _ _ h1 h2 => by omega
theorem cutLo_step (tr : ∀ x y z, lt x y → lt y z → lt x z) {L R : List α} (hL : L.Pairwise lt) (hR : R.Pairwise lt) {h s0 c : Nat} {x y : α} (hc : c < h) (hx : L[c]? = some x) (hy : R[h - 1 - c]? = some y) (hlt : lt x y) :
    CutLo lt L R h s0 (c + 1) := by
  intro g x' y' _ h2 hx' hy'
  have k1 : lt x' y := by
    rcases Nat.lt_or_ge g c with k | k
    · exact tr _ _ _ (pw_get hL k hx' hx) hlt
    · obtain rfl : g = c := by omega
      rw [hx] at hx'; cases hx'; exact hlt
  rcases Nat.lt_or_ge g c with k | k
  · exact tr _ _ _ k1 (pw_get hR (by omega) hy hy')
  · obtain rfl : g = c := by omega
    rw [hy] at hy'; cases hy'; exact k1
theorem cutHi_step (tr : ∀ x y z, lt x y → lt y z → lt x z) {L R : List α} (hL : L.Pairwise lt) (hR : R.Pairwise lt) {h r0 c : Nat} {x y : α} (hc : c < h) (hr : r0 ≤ h) (hx : L[c]? = some x) (hy : R[h - 1 - c]? = some y) (hlt : lt y x) :
    CutHi lt L R h c r0 := by
  intro g x' y' h1 h2 hx' hy'
  have k1 : lt y x' := by
    rcases Nat.lt_or_ge c g with k | k
    · exact tr _ _ _ hlt (pw_get hL k hx hx')
    · obtain rfl : g = c := by omega
      rw [hx] at hx'; cases hx'; exact hlt
  rcases Nat.lt_or_ge c g with k | k
  · exact tr _ _ _ (pw_get hR (by omega) hy' hy) k1
  · obtain rfl : g = c := by omega
    rw [hy] at hy'; cases hy'; exact k1
theorem mem_take_get {l : List α} {n : Nat} {x : α} (h : x ∈ l.take n) : ∃ i, i < n ∧ l[i]? = some x := by
  obtain ⟨i, hi, rfl⟩ := List.mem_iff_getElem.1 h
  rw [List.length_take] at hi
  refine ⟨i, by omega, ?_⟩
  rw [List.getElem_take, List.getElem?_eq_getElem (by omega)]
theorem mem_drop_get {l : List α} {n : Nat} {x : α} (h : x ∈ l.drop n) : ∃ i, n ≤ i ∧ l[i]? = some x := by
  obtain ⟨i, hi, rfl⟩ := List.mem_iff_getElem.1 h
  rw [List.length_drop] at hi
  refine ⟨n + i, by omega, ?_⟩
  rw [List.getElem_drop, List.getElem?_eq_getElem (by omega)]
theorem get_of_le {l : List α} {i j : Nat} {y : α} (h : i ≤ j) (hy : l[j]? = some y) : ∃ x, l[i]? = some x := by
  obtain ⟨hj, -⟩ := List.getElem?_eq_some_iff.1 hy
  exact ⟨l[i], List.getElem?_eq_getElem (by omega)⟩
/-- Where the search begins and ends. -/
def symS (p q : Nat) : Nat := if (p + q) / 2 < p then (p + q) / 2 - q else 0
def symR (p q : Nat) : Nat := if (p + q) / 2 < p then (p + q) / 2 else p
theorem sym_bounds (p q : Nat) : symS p q ≤ symR p q ∧ symR p q ≤ p ∧ symR p q ≤ (p + q) / 2 ∧ (p + q) / 2 ≤ symS p q + q := by
  unfold symS symR
  split <;> omega
/-- The cut parts what comes before from what comes after. -/
theorem sym_cut (tr : ∀ x y z, lt x y → lt y z → lt x z) {L R : List α} (hL : L.Pairwise lt) (hR : R.Pairwise lt) {s : Nat} (h1 : symS L.length R.length ≤ s) (h2 : s ≤ symR L.length R.length)
    (lo : CutLo lt L R ((L.length + R.length) / 2) (symS L.length R.length) s) (hi : CutHi lt L R ((L.length + R.length) / 2) s (symR L.length R.length)) :
    ∀ x ∈ L.take s ++ R.take ((L.length + R.length) / 2 - s), ∀ y ∈ L.drop s ++ R.drop ((L.length + R.length) / 2 - s), lt x y := by
  obtain ⟨b1, b2, b3, b4⟩ := sym_bounds L.length R.length
  intro x hx y hy
  rcases List.mem_append.1 hx with hx | hx <;> rcases List.mem_append.1 hy with hy | hy
  · obtain ⟨i, hi1, hi2⟩ := mem_take_get hx
    obtain ⟨j, hj1, hj2⟩ := mem_drop_get hy
    exact pw_get hL (by omega) hi2 hj2
  · obtain ⟨i, hi1, hi2⟩ := mem_take_get hx
    obtain ⟨j, hj1, hj2⟩ := mem_drop_get hy
    obtain ⟨hj3, -⟩ := List.getElem?_eq_some_iff.1 hj2
    rcases Nat.lt_or_ge (symS L.length R.length) s with k | k
    · obtain ⟨y', hy'⟩ := get_of_le (i := (L.length + R.length) / 2 - 1 - (s - 1)) (by omega) hj2
      have hx' : L[s - 1]? = some (L[s - 1]'(by omega)) := List.getElem?_eq_getElem (by omega)
      have k1 := lo (s - 1) _ _ (by omega) (by omega) hx' hy'
      have k2 : lt x y' := by
        rcases Nat.lt_or_ge i (s - 1) with m | m
        · exact tr _ _ _ (pw_get hL m hi2 hx') k1
        · obtain rfl : i = s - 1 := by omega
          rw [hx'] at hi2; cases hi2; exact k1
      rcases Nat.lt_or_ge ((L.length + R.length) / 2 - 1 - (s - 1)) j with m | m
      · exact tr _ _ _ k2 (pw_get hR m hy' hj2)
      · obtain rfl : j = (L.length + R.length) / 2 - 1 - (s - 1) := by omega
        rw [hy'] at hj2; cases hj2; exact k2
    · exfalso
      have e : s = symS L.length R.length := by omega
      unfold symS at e
      split at e <;> omega
  · obtain ⟨i, hi1, hi2⟩ := mem_take_get hx
    obtain ⟨j, hj1, hj2⟩ := mem_drop_get hy
    obtain ⟨hj3, -⟩ := List.getElem?_eq_some_iff.1 hj2
    rcases Nat.lt_or_ge s (symR L.length R.length) with k | k
    · have hxs : L[s]? = some (L[s]'(by omega)) := List.getElem?_eq_getElem (by omega)
      have hxr : R[(L.length + R.length) / 2 - 1 - s]? = some (R[(L.length + R.length) / 2 - 1 - s]'(by omega)) := List.getElem?_eq_getElem (by omega)
      have k1 := hi s _ _ (Nat.le_refl _) k hxs hxr
      have k2 : lt x (L[s]'(by omega)) := by
        rcases Nat.lt_or_ge i ((L.length + R.length) / 2 - 1 - s) with m | m
        · exact tr _ _ _ (pw_get hR m hi2 hxr) k1
        · obtain rfl : i = (L.length + R.length) / 2 - 1 - s := by omega
          rw [hxr] at hi2; cases hi2; exact k1
      rcases Nat.lt_or_ge s j with m | m
      · exact tr _ _ _ k2 (pw_get hL m hxs hj2)
      · obtain rfl : j = s := by omega
        rw [hxs] at hj2; cases hj2; exact k2
    · exfalso
      have e : s = symR L.length R.length := by omega
      unfold symR at e
      split at e <;> omega
  · obtain ⟨i, hi1, hi2⟩ := mem_take_get hx
    obtain ⟨j, hj1, hj2⟩ := mem_drop_get hy
    exact pw_get hR (by omega) hi2 hj2
theorem sym_perm {m1 m2 L R : List α} (s t : Nat) (h1 : m1.Perm (L.take s ++ R.take t)) (h2 : m2.Perm (L.drop s ++ R.drop t)) : (m1 ++ m2).Perm (L ++ R) := by
  refine (h1.append h2).trans ?_
  have e : (R.take t ++ (L.drop s ++ R.drop t)).Perm (L.drop s ++ (R.take t ++ R.drop t)) := by
    rw [← List.append_assoc, ← List.append_assoc]
    exact List.perm_append_comm.append_right _
  have e2 := e.append_left (L.take s)
  rw [List.take_append_drop, ← List.append_assoc (L.take s) (L.drop s), List.take_append_drop] at e2
  rw [List.append_assoc]
  exact e2
theorem sym_join {m1 m2 A B : List α} (s1 : m1.Pairwise lt) (s2 : m2.Pairwise lt) (h1 : m1.Perm A) (h2 : m2.Perm B) (h : ∀ x ∈ A, ∀ y ∈ B, lt x y) : (m1 ++ m2).Pairwise lt :=
  List.pairwise_append.2 ⟨s1, s2, fun x hx y hy => h x (h1.subset hx) y (h2.subset hy)⟩
/-- One element, put into its place in a sorted run. -/
def OneLo (lt : α → α → Prop) (R : List α) (x : α) (j : Nat) : Prop := ∀ c y, c < j → R[c]? = some y → lt y x
def OneHi (lt : α → α → Prop) (R : List α) (x : α) (j : Nat) : Prop := ∀ c y, j ≤ c → R[c]? = some y → lt x y
theorem oneLo_step (tr : ∀ x y z, lt x y → lt y z → lt x z) {R : List α} (hR : R.Pairwise lt) {x y : α} {c : Nat} (hy : R[c]? = some y) (h : lt y x) : OneLo lt R x (c + 1) := by
  intro g y' hg hy'
  rcases Nat.lt_or_ge g c with k | k
  · exact tr _ _ _ (pw_get hR k hy' hy) h
  · obtain rfl : g = c := by omega
    rw [hy] at hy'; cases hy'; exact h
theorem oneHi_step (tr : ∀ x y z, lt x y → lt y z → lt x z) {R : List α} (hR : R.Pairwise lt) {x y : α} {c : Nat} (hy : R[c]? = some y) (h : lt x y) : OneHi lt R x c := by
  intro g y' hg hy'
  rcases Nat.lt_or_ge c g with k | k
  · exact tr _ _ _ h (pw_get hR k hy hy')
  · obtain rfl : g = c := by omega
    rw [hy] at hy'; cases hy'; exact h
theorem one_sorted (tr : ∀ x y z, lt x y → lt y z → lt x z) {R : List α} (hR : R.Pairwise lt) {x : α} {j : Nat} (lo : OneLo lt R x j) (hi : OneHi lt R x j) : (R.take j ++ x :: R.drop j).Pairwise lt := by
  have hlo : ∀ y ∈ R.take j, lt y x := fun y hy => by
    obtain ⟨i, h1, h2⟩ := mem_take_get hy
    exact lo i y h1 h2
  have hhi : ∀ y ∈ R.drop j, lt x y := fun y hy => by
    obtain ⟨i, h1, h2⟩ := mem_drop_get hy
    exact hi i y h1 h2
  refine List.pairwise_append.2 ⟨hR.sublist (List.take_sublist _ _), List.pairwise_cons.2 ⟨hhi, hR.sublist (List.drop_sublist _ _)⟩, fun a ha b hb => ?_⟩
  rcases List.mem_cons.1 hb with rfl | hb
  · exact hlo a ha
  · exact tr _ _ _ (hlo a ha) (hhi b hb)
theorem one_perm {R : List α} {x : α} (j : Nat) : (R.take j ++ x :: R.drop j).Perm (x :: R) := by
  have := List.perm_middle (a := x) (l₁ := R.take j) (l₂ := R.drop j)
  rwa [List.take_append_drop] at this
end
end Go.Proofs.YtnmlephjhcmbhaaGreat
