/- Merging two sorted runs in their place: plain. Rows of indices that are sorted in their place. slices.insertionSortCmpFunc of indices: plain. slices.insertionSortCmpFunc of indices, walked. slices.swapRangeCmpFunc and rotateCmpFunc of indices. slices.rotateCmpFunc of indices. slices.symMergeCmpFunc of indices: one element on the left. -/
import Derived.WalkKit
import Derived.Test.YtnmlephjhcmbhaaDko
import Derived.BigRegion
namespace Go.Proofs.Ytnmlephjhcmbhaa
set_option linter.unusedSimpArgs false
set_option linter.unusedVariables false
section
variable {α : Type} {lt : α → α → Prop}
theorem pw_get {l : List α} (h : l.Pairwise lt) {i j : Nat} {x y : α} (hij : i < j) (hx : l[i]? = some x) (hy : l[j]? = some y) : lt x y := by
  obtain ⟨hi, rfl⟩ := List.getElem?_eq_some_iff.1 hx
  obtain ⟨hj, rfl⟩ := List.getElem?_eq_some_iff.1 hy
  exact List.pairwise_iff_getElem.1 h i j hi hj hij
/-- Up to s, what stands on the left comes before its counterpart on the right. -/
def CutLo (lt : α → α → Prop) (L R : List α) (h s0 s : Nat) : Prop := ∀ c x y, s0 ≤ c → c < s → L[c]? = some x → R[h - 1 - c]? = some y → lt x y
def CutHi (lt : α → α → Prop) (L R : List α) (h r r0 : Nat) : Prop := ∀ c x y, r ≤ c → c < r0 → L[c]? = some x → R[h - 1 - c]? = some y → lt y x
theorem cutLo_start (L R : List α) (h s0 : Nat) : CutLo lt L R h s0 s0 := fun c _ _ h1 h2 => by omega
theorem cutHi_start (L R : List α) (h r0 : Nat) : CutHi lt L R h r0 r0 := fun c _ _ h1 h2 => by omega
theorem cutLo_step (tr : ∀ x y z, lt x y → lt y z → lt x z) {L R : List α} (hL : L.Pairwise lt) (hR : R.Pairwise lt) {h s0 c : Nat} {x y : α} (hc : c < h) (hx : L[c]? = some x) (hy : R[h - 1 - c]? = some y) (hlt : lt x y) :
    CutLo lt L R h s0 (c + 1) := by
  intro g x' y' _ h2 hx' hy'
  have k1 : lt x' y := by
    rcases Nat.lt_or_ge g c with k | k
    · exact tr _ _ _ (pw_get hL k hx' hx) hlt
    · obtain rfl : g = c := by omega
      rw [hx] at hx'; cases hx'; exact hlt
  rcases Nat.lt_or_ge g c with k | k
  · exact tr _ _ _ k1 (pw_get hR (by omega) hy hy')
  · obtain rfl : g = c := by omega
    rw [hy] at hy'; cases hy'; exact k1
theorem cutHi_step (tr : ∀ x y z, lt x y → lt y z → lt x z) {L R : List α} (hL : L.Pairwise lt) (hR : R.Pairwise lt) {h r0 c : Nat} {x y : α} (hc : c < h) (hr : r0 ≤ h) (hx : L[c]? = some x) (hy : R[h - 1 - c]? = some y) (hlt : lt y x) :
    CutHi lt L R h c r0 := by
  intro g x' y' h1 h2 hx' hy'
  have k1 : lt y x' := by
    rcases Nat.lt_or_ge c g with k | k
    · exact tr _ _ _ hlt (pw_get hL k hx hx')
    · obtain rfl : g = c := by omega
      rw [hx] at hx'; cases hx'; exact hlt
  rcases Nat.lt_or_ge c g with k | k
  · exact tr _ _ _ (pw_get hR (by omega) hy' hy) k1
  · obtain rfl : g = c := by omega
    rw [hy] at hy'; cases hy'; exact k1
theorem mem_take_get {l : List α} {n : Nat} {x : α} (h : x ∈ l.take n) : ∃ i, i < n ∧ l[i]? = some x := by
  obtain ⟨i, hi, rfl⟩ := List.mem_iff_getElem.1 h
  rw [List.length_take] at hi
  refine ⟨i, by omega, ?_⟩
  rw [List.getElem_take, List.getElem?_eq_getElem (by omega)]
theorem mem_drop_get {l : List α} {n : Nat} {x : α} (h : x ∈ l.drop n) : ∃ i, n ≤ i ∧ l[i]? = some x := by
  obtain ⟨i, hi, rfl⟩ := List.mem_iff_getElem.1 h
  rw [List.length_drop] at hi
  refine ⟨n + i, by omega, ?_⟩
  rw [List.getElem_drop, List.getElem?_eq_getElem (by omega)]
theorem get_of_le {l : List α} {i j : Nat} {y : α} (h : i ≤ j) (hy : l[j]? = some y) : ∃ x, l[i]? = some x := by
  obtain ⟨hj, -⟩ := List.getElem?_eq_some_iff.1 hy
  exact ⟨l[i], List.getElem?_eq_getElem (by omega)⟩
/-- Where the search begins and ends. -/
def symS (p q : Nat) : Nat := if (p + q) / 2 < p then (p + q) / 2 - q else 0
def symR (p q : Nat) : Nat := if (p + q) / 2 < p then (p + q) / 2 else p
theorem sym_bounds (p q : Nat) : symS p q ≤ symR p q ∧ symR p q ≤ p ∧ symR p q ≤ (p + q) / 2 ∧ (p + q) / 2 ≤ symS p q + q := by
  unfold symS symR
  split <;> omega
/-- The cut parts what comes before from what comes after. -/
theorem sym_cut (tr : ∀ x y z, lt x y → lt y z → lt x z) {L R : List α} (hL : L.Pairwise lt) (hR : R.Pairwise lt) {s : Nat} (h1 : symS L.length R.length ≤ s) (h2 : s ≤ symR L.length R.length)
    (lo : CutLo lt L R ((L.length + R.length) / 2) (symS L.length R.length) s) (hi : CutHi lt L R ((L.length + R.length) / 2) s (symR L.length R.length)) :
    ∀ x ∈ L.take s ++ R.take ((L.length + R.length) / 2 - s), ∀ y ∈ L.drop s ++ R.drop ((L.length + R.length) / 2 - s), lt x y := by
  obtain ⟨b1, b2, b3, b4⟩ := sym_bounds L.length R.length
  intro x hx y hy
  rcases List.mem_append.1 hx with hx | hx <;> rcases List.mem_append.1 hy with hy | hy
  · obtain ⟨i, hi1, hi2⟩ := mem_take_get hx
    obtain ⟨j, hj1, hj2⟩ := mem_drop_get hy
    exact pw_get hL (by omega) hi2 hj2
  · obtain ⟨i, hi1, hi2⟩ := mem_take_get hx
    obtain ⟨j, hj1, hj2⟩ := mem_drop_get hy
    obtain ⟨hj3, -⟩ := List.getElem?_eq_some_iff.1 hj2
    rcases Nat.lt_or_ge (symS L.length R.length) s with k | k
    · obtain ⟨y', hy'⟩ := get_of_le (i := (L.length + R.length) / 2 - 1 - (s - 1)) (by omega) hj2
      have hx' : L[s - 1]? = some (L[s - 1]'(by omega)) := List.getElem?_eq_getElem (by omega)
      have k1 := lo (s - 1) _ _ (by omega) (by omega) hx' hy'
      have k2 : lt x y' := by
        rcases Nat.lt_or_ge i (s - 1) with m | m
        · exact tr _ _ _ (pw_get hL m hi2 hx') k1
        · obtain rfl : i = s - 1 := by omega
          rw [hx'] at hi2; cases hi2; exact k1
      rcases Nat.lt_or_ge ((L.length + R.length) / 2 - 1 - (s - 1)) j with m | m
      · exact tr _ _ _ k2 (pw_get hR m hy' hj2)
      · obtain rfl : j = (L.length + R.length) / 2 - 1 - (s - 1) := by omega
        rw [hy'] at hj2; cases hj2; exact k2
    · exfalso
      have e : s = symS L.length R.length := by omega
      unfold symS at e
      split at e <;> omega
  · obtain ⟨i, hi1, hi2⟩ := mem_take_get hx
    obtain ⟨j, hj1, hj2⟩ := mem_drop_get hy
    obtain ⟨hj3, -⟩ := List.getElem?_eq_some_iff.1 hj2
    rcases Nat.lt_or_ge s (symR L.length R.length) with k | k
    · have hxs : L[s]? = some (L[s]'(by omega)) := List.getElem?_eq_getElem (by omega)
      have hxr : R[(L.length + R.length) / 2 - 1 - s]? = some (R[(L.length + R.length) / 2 - 1 - s]'(by omega)) := List.getElem?_eq_getElem (by omega)
      have k1 := hi s _ _ (Nat.le_refl _) k hxs hxr
      have k2 : lt x (L[s]'(by omega)) := by
        rcases Nat.lt_or_ge i ((L.length + R.length) / 2 - 1 - s) with m | m
        · exact tr _ _ _ (pw_get hR m hi2 hxr) k1
        · obtain rfl : i = (L.length + R.length) / 2 - 1 - s := by omega
          rw [hxr] at hi2; cases hi2; exact k1
      rcases Nat.lt_or_ge s j with m | m
      · exact tr _ _ _ k2 (pw_get hL m hxs hj2)
      · obtain rfl : j = s := by omega
        rw [hxs] at hj2; cases hj2; exact k2
    · exfalso
      have e : s = symR L.length R.length := by omega
      unfold symR at e
      split at e <;> omega
  · obtain ⟨i, hi1, hi2⟩ := mem_take_get hx
    obtain ⟨j, hj1, hj2⟩ := mem_drop_get hy
    exact pw_get hR (by omega) hi2 hj2
theorem sym_perm {m1 m2 L R : List α} (s t : Nat) (h1 : m1.Perm (L.take s ++ R.take t)) (h2 : m2.Perm (L.drop s ++ R.drop t)) : (m1 ++ m2).Perm (L ++ R) := by
  refine (h1.append h2).trans ?_
  have e : (R.take t ++ (L.drop s ++ R.drop t)).Perm (L.drop s ++ (R.take t ++ R.drop t)) := by
    rw [← List.append_assoc, ← List.append_assoc]
    exact List.perm_append_comm.append_right _
  have e2 := e.append_left (L.take s)
  rw [List.take_append_drop, ← List.append_assoc (L.take s) (L.drop s), List.take_append_drop] at e2
  rw [List.append_assoc]
  exact e2
theorem sym_join {m1 m2 A B : List α} (s1 : m1.Pairwise lt) (s2 : m2.Pairwise lt) (h1 : m1.Perm A) (h2 : m2.Perm B) (h : ∀ x ∈ A, ∀ y ∈ B, lt x y) : (m1 ++ m2).Pairwise lt :=
  List.pairwise_append.2 ⟨s1, s2, fun x hx y hy => h x (h1.subset hx) y (h2.subset hy)⟩
/-- One element, put into its place in a sorted run. -/
def OneLo (lt : α → α → Prop) (R : List α) (x : α) (j : Nat) : Prop := ∀ c y, c < j → R[c]? = some y → lt y x
def OneHi (lt : α → α → Prop) (R : List α) (x : α) (j : Nat) : Prop := ∀ c y, j ≤ c → R[c]? = some y → lt x y
theorem oneLo_step (tr : ∀ x y z, lt x y → lt y z → lt x z) {R : List α} (hR : R.Pairwise lt) {x y : α} {c : Nat} (hy : R[c]? = some y) (h : lt y x) : OneLo lt R x (c + 1) := by
  intro g y' hg hy'
  rcases Nat.lt_or_ge g c with k | k
  · exact tr _ _ _ (pw_get hR k hy' hy) h
  · obtain rfl : g = c := by omega
    rw [hy] at hy'; cases hy'; exact h
theorem oneHi_step (tr : ∀ x y z, lt x y → lt y z → lt x z) {R : List α} (hR : R.Pairwise lt) {x y : α} {c : Nat} (hy : R[c]? = some y) (h : lt x y) : OneHi lt R x c := by
  intro g y' hg hy'
  rcases Nat.lt_or_ge c g with k | k
  · exact tr _ _ _ h (pw_get hR k hy hy')
  · obtain rfl : g = c := by omega
    rw [hy] at hy'; cases hy'; exact h
theorem one_sorted (tr : ∀ x y z, lt x y → lt y z → lt x z) {R : List α} (hR : R.Pairwise lt) {x : α} {j : Nat} (lo : OneLo lt R x j) (hi : OneHi lt R x j) : (R.take j ++ x :: R.drop j).Pairwise lt := by
  have hlo : ∀ y ∈ R.take j, lt y x := fun y hy => by
    obtain ⟨i, h1, h2⟩ := mem_take_get hy
    exact lo i y h1 h2
  have hhi : ∀ y ∈ R.drop j, lt x y := fun y hy => by
    obtain ⟨i, h1, h2⟩ := mem_drop_get hy
    exact hi i y h1 h2
  refine List.pairwise_append.2 ⟨hR.sublist (List.take_sublist _ _), List.pairwise_cons.2 ⟨hhi, hR.sublist (List.drop_sublist _ _)⟩, fun a ha b hb => ?_⟩
  rcases List.mem_cons.1 hb with rfl | hb
  · exact hlo a ha
  · exact tr _ _ _ (hlo a ha) (hhi b hb)
theorem one_perm {R : List α} {x : α} (j : Nat) : (R.take j ++ x :: R.drop j).Perm (x :: R) := by
  have := List.perm_middle (a := x) (l₁ := R.take j) (l₂ := R.drop j)
  rwa [List.take_append_drop] at this
end
end Go.Proofs.Ytnmlephjhcmbhaa
namespace Go.Proofs.Ytnmlephjhcmbhaa
set_option linter.unusedSimpArgs false
set_option linter.unusedVariables false
open Go Go.RowKit
/-- The row g holds the numbers d, and tl behind them; all other blocks below are as they were. -/
structure SI (w : World) (g : Nat) (tl : List Value) (d : List Nat) (W : World) : Prop where
  row : W.heap[g]? = some (.cells (ints d ++ tl).toArray 3 (0, 0))
  os : W.os = w.os
  tape : W.tape = w.tape
  output : W.output = w.output
  size : w.heap.size ≤ W.heap.size
  lt : g < w.heap.size
  block : ∀ k, k < w.heap.size → k ≠ g → W.heap[k]? = w.heap[k]?
theorem SI.below {w W W' : World} {g : Nat} {tl : List Value} {d : List Nat} (h : SI w g tl d W) (b : Below W.heap.size W W') : SI w g tl d W' :=
  ⟨(b.block _ (lt_of_block h.row)).trans h.row, b.os.trans h.os, b.tape.trans h.tape, b.output.trans h.output, Nat.le_trans h.size b.size, h.lt, fun k hk hg => (b.block k (Nat.lt_of_lt_of_le hk h.size)).trans (h.block k hk hg)⟩
theorem SI.drew {w W : World} {g : Nat} {tl : List Value} {d : List Nat} (h : SI w g tl d W) : SI w g tl d W.drew := ⟨h.row, h.os, h.tape, h.output, h.size, h.lt, h.block⟩
theorem SI.out {w W : World} {g : Nat} {tl : List Value} {d : List Nat} {B : Nat} (h : SI w g tl d W) {w0 : World} (hB : Below B w0 w) (hg : B ≤ g) : Below B w0 W :=
  hB.trans ⟨h.os, h.tape, h.output, h.size, fun k hk => h.block k (by have := h.lt; omega) (by omega)⟩
theorem ints_len (d : List Nat) : (ints d).length = d.length := by simp [ints]
theorem SI.cell {w W : World} {g : Nat} {tl : List Value} {d : List Nat} (h : SI w g tl d W) (k x : Nat) (hk : d[k]? = some x) : W.cell? ⟨g, k, none⟩ = some (cN (x : Int)) := by
  obtain ⟨hl, rfl⟩ := List.getElem?_eq_some_iff.1 hk
  rw [Lib.cell_of_heap h.row, List.getElem?_toArray, List.getElem?_append_left (by rw [ints_len]; exact hl)]
  simp [ints, hl]
theorem SI.fz {w W : World} {g : Nat} {tl : List Value} {d : List Nat} (h : SI w g tl d W) (k : Nat) : W.frozen? ⟨g, k, none⟩ = false := Lib.frozen_of_heap h.row k
theorem SI.put {w W : World} {g : Nat} {tl : List Value} {d : List Nat} (h : SI w g tl d W) (k x : Nat) (hk : k < d.length) : SI w g tl (d.set k x) (W.setCell ⟨g, k, none⟩ (cN (x : Int))) := by
  refine ⟨?_, h.os, h.tape, h.output, by simpa using h.size, h.lt, fun j hj hg => (row_otherK h hj hg k x)⟩
  rw [heap_setCell_same W g k _ 3 _ h.row]
  congr 2
  apply Array.toList_inj.1
  simp [ints, List.set_append, hk]
  where
  row_otherK {w W : World} {g : Nat} {tl : List Value} {d : List Nat} (h : SI w g tl d W) {j : Nat} (hj : j < w.heap.size) (hg : j ≠ g) (k x : Nat) : (W.setCell ⟨g, k, none⟩ (cN (x : Int))).heap[j]? = w.heap[j]? :=
    (heap_setCell_other W ⟨g, k, none⟩ j _ hg).trans (h.block j hj hg)
theorem SI.start {w : World} {g : Nat} {tl : List Value} {d : List Nat} (h : w.heap[g]? = some (.cells (ints d ++ tl).toArray 3 (0, 0))) : SI w g tl d w := ⟨h, rfl, rfl, rfl, Nat.le_refl _, lt_of_block h, fun _ _ _ => rfl⟩
/-- An order of indices. -/
structure OrdI (cf : Nat → Nat → Int) : Prop where
  swap : ∀ x y, cf y x = - cf x y
  trans : ∀ x y z, cf x y ≤ 0 → cf y z ≤ 0 → cf x z ≤ 0
def ltI (cf : Nat → Nat → Int) (x y : Nat) : Prop := cf x y < 0 ∨ (cf x y = 0 ∧ x < y)
theorem ltI_trans {cf : Nat → Nat → Int} (h : OrdI cf) (x y z : Nat) (h1 : ltI cf x y) (h2 : ltI cf y z) : ltI cf x z := by
  have a1 : cf x y ≤ 0 := by rcases h1 with h | h <;> omega
  have a2 : cf y z ≤ 0 := by rcases h2 with h | h <;> omega
  have a3 := h.trans _ _ _ a1 a2
  rcases Int.lt_or_eq_of_le a3 with h3 | h3
  · exact .inl h3
  · right
    have s1 := h.swap x y
    have s2 := h.swap y z
    have s3 := h.swap x z
    have b1 := h.trans y z x a2 (by omega)
    have b2 := h.trans z x y (by omega) a1
    refine ⟨h3, ?_⟩
    rcases h1 with h1 | h1 <;> rcases h2 with h2 | h2 <;> omega
theorem ltI_asymm {cf : Nat → Nat → Int} (h : OrdI cf) {x y : Nat} (h1 : ltI cf x y) (h2 : ltI cf y x) : False := by
  have s1 := h.swap x y
  rcases h1 with h1 | h1 <;> rcases h2 with h2 | h2 <;> omega
/-- Behind an element of the left, one of the right comes first just if it is smaller. -/
theorem ltI_of {cf : Nat → Nat → Int} (h : OrdI cf) {x y : Nat} (hxy : x < y) : (cf y x < 0 → ltI cf y x) ∧ (¬ cf y x < 0 → ltI cf x y) := by
  have s := h.swap x y
  refine ⟨fun k => .inl k, fun k => ?_⟩
  rcases Int.lt_or_eq_of_le (show cf x y ≤ 0 by omega) with m | m
  · exact .inl m
  · exact .inr ⟨m, hxy⟩
/-- The comparison, in whatever world the sort passes through. -/
def CmpI (cf : Nat → Nat → Int) (P : Nat → Prop) (w : World) (g : Nat) (tl : List Value) (F1 F2 : Nat) : Prop :=
  ∀ (W : World) (d : List Nat) (x y : Nat), SI w g tl d W → P x → P y → Calls Try.prog 75 #[cN (x : Int), cN (y : Int), .pointer (some ⟨F1, 0, none⟩), .pointer (some ⟨F2, 0, none⟩)] W fun e w' => e = .returned (cN (cf x y)) ∧ Below W.heap.size W w'
def SeI (cf : Nat → Nat → Int) (w : World) (g : Nat) (tl : List Value) (A M C : List Nat) (e : Ending) (w' : World) : Prop :=
  e = .returned (.tuple #[]) ∧ ∃ m, m.Perm M ∧ m.Pairwise (ltI cf) ∧ SI w g tl (A ++ m ++ C) w'
end Go.Proofs.Ytnmlephjhcmbhaa
namespace Go.Proofs.Ytnmlephjhcmbhaa
set_option linter.unusedSimpArgs false
set_option linter.unusedVariables false
open Go Go.RowKit
theorem insI_stop {cf : Nat → Nat → Int} (h : OrdI cf) {p1 p2 : List Nat} {x : Nat} (hs : (p1 ++ p2).Pairwise (ltI cf)) (ht : ∀ y ∈ p1 ++ p2, y < x) (h2 : ∀ y ∈ p2, cf x y < 0)
    (h1 : ∀ y, p1.getLast? = some y → ¬ cf x y < 0) : (p1 ++ x :: p2).Pairwise (ltI cf) := by
  rw [List.pairwise_append] at hs ⊢
  obtain ⟨s1, s2, s3⟩ := hs
  have hx : ∀ y ∈ p1, ltI cf y x := by
    rcases List.eq_nil_or_concat p1 with rfl | ⟨q, z, rfl⟩
    · intro y hy; cases hy
    · rw [List.concat_eq_append] at *
      have hz := h1 z (by simp)
      have hzx : ltI cf z x := (ltI_of h (ht z (by simp))).2 hz
      intro y hy
      rcases List.mem_append.1 hy with hy | hy
      · rw [List.pairwise_append] at s1
        exact ltI_trans h _ _ _ (s1.2.2 y hy z (by simp)) hzx
      · simp at hy; subst hy; exact hzx
  refine ⟨s1, List.pairwise_cons.2 ⟨fun y hy => .inl (h2 y hy), s2⟩, fun a ha b hb => ?_⟩
  rcases List.mem_cons.1 hb with rfl | hb
  · exact hx a ha
  · exact s3 a ha b hb
/-- The state of the outer loop. -/
def InsOI (cf : Nat → Nat → Int) (w : World) (g : Nat) (tl : List Value) (A M C : List Nat) (i : Nat) (W : World) : Prop :=
  ∃ M1 M2 m1, M = M1 ++ M2 ∧ i = A.length + M1.length ∧ m1.Perm M1 ∧ m1.Pairwise (ltI cf) ∧ SI w g tl (A ++ m1 ++ (M2 ++ C)) W
/-- The state of the inner loop. -/
def InsII (cf : Nat → Nat → Int) (w : World) (g : Nat) (tl : List Value) (A m1 : List Nat) (x : Nat) (D : List Nat) (j : Nat) (W : World) : Prop :=
  ∃ p1 p2, m1 = p1 ++ p2 ∧ j = A.length + p1.length ∧ (∀ y ∈ p2, cf x y < 0) ∧ SI w g tl (A ++ p1 ++ (x :: p2 ++ D)) W
theorem InsOI.next {cf : Nat → Nat → Int} (h : OrdI cf) {w : World} {g : Nat} {tl : List Value} {A M1 M2 C m1 p1 p2 : List Nat} {x : Nat} {W : World} (ht : (M1 ++ x :: M2).Pairwise (· < ·)) (hp : m1.Perm M1) (hs : m1.Pairwise (ltI cf))
    (e : m1 = p1 ++ p2) (h2 : ∀ y ∈ p2, cf x y < 0) (h1 : ∀ y, p1.getLast? = some y → ¬ cf x y < 0) (hS : SI w g tl (A ++ p1 ++ (x :: p2 ++ (M2 ++ C))) W) :
    InsOI cf w g tl A (M1 ++ x :: M2) C (A.length + M1.length + 1) W := by
  subst e
  refine ⟨M1 ++ [x], M2, p1 ++ x :: p2, by simp, by simp; omega, ?_, insI_stop h hs ?_ h2 h1, ?_⟩
  · have e1 : (p1 ++ x :: p2).Perm (x :: (p1 ++ p2)) := List.perm_middle
    have e2 : (x :: (p1 ++ p2)).Perm (x :: M1) := hp.cons x
    exact (e1.trans e2).trans (List.perm_append_comm (l₁ := [x]) (l₂ := M1))
  · intro y hy
    rw [List.pairwise_append] at ht
    exact ht.2.2 y (hp.subset hy) x (by simp)
  · have e1 : A ++ p1 ++ (x :: p2 ++ (M2 ++ C)) = A ++ (p1 ++ x :: p2) ++ (M2 ++ C) := by simp
    rw [← e1]; exact hS
theorem InsII.start {cf : Nat → Nat → Int} {w : World} {g : Nat} {tl : List Value} {A m1 M2 C : List Nat} {x : Nat} {W : World} (hS : SI w g tl (A ++ m1 ++ (x :: M2 ++ C)) W) (n : Nat) (hn : n = m1.length) :
    InsII cf w g tl A m1 x (M2 ++ C) (A.length + n) W := ⟨m1, [], by simp, by omega, by simp, by simpa using hS⟩
theorem at_mid (L M : List Nat) (x k : Nat) (hk : k = L.length) : (L ++ x :: M)[k]? = some x := by subst hk; simp
theorem set_mid (L M : List Nat) (x y k : Nat) (hk : k = L.length) : (L ++ x :: M).set k y = L ++ y :: M := by subst hk; simp
end Go.Proofs.Ytnmlephjhcmbhaa
namespace Go.Proofs.Ytnmlephjhcmbhaa
set_option linter.unusedSimpArgs false
set_option linter.unusedVariables false
open Go Go.RowKit
set_option maxRecDepth 100000 in
set_option maxHeartbeats 4000000 in
theorem insint_ok (cf : Nat → Nat → Int) (hcf : OrdI cf) (P : Nat → Prop) (w : World) (g : Nat) (tl : List Value) (F1 F2 cap : Nat) (A C : List Nat) (x0 : Nat) (M0 : List Nat) (hcmp : CmpI cf P w g tl F1 F2)
    (hP : ∀ t ∈ x0 :: M0, P t) (htag : (x0 :: M0).Pairwise (· < ·)) (a b n : Nat) (ha : a = A.length) (hb : b = a + (x0 :: M0).length) (hn : n = b + C.length) (hn2 : n ≤ 2000)
    (W0 : World) (hS : SI w g tl (A ++ (x0 :: M0) ++ C) W0) :
    Calls Try.prog 165 #[.slice (some ⟨g, 0, none⟩) n cap, cN a, cN b, .func (.func 75) #[] #[.pointer (some ⟨F1, 0, none⟩), .pointer (some ⟨F2, 0, none⟩)]] W0 (SeI cf w g tl A (x0 :: M0) C) := by
  have hab : a + 1 ≤ b := by rw [hb, List.length_cons]; omega
  have hbn : b ≤ n := by omega
  have hO : InsOI cf w g tl A (x0 :: M0) C (a + 1) W0 := ⟨[x0], M0, [x0], rfl, by simp [ha], List.Perm.refl _, by simp, by simpa using hS⟩
  have HO := Lib.hid hO
  have HC := Lib.hid hcmp
  have HP := Lib.hid hP
  have HT := Lib.hid htag
  have HA := Lib.hid ha
  have HBB := Lib.hid hb
  have HN := Lib.hid hn
  have HF := Lib.hid hcf
  clear hS hO hcmp hP htag ha hb hn hcf
  go_enter Try.func165, Try.ntmps165
  go_wp2
  go_loopw [8, 9] (fun i _ wr => ∃ k, i = cN (k : Nat) ∧ a + 1 ≤ k ∧ k ≤ b ∧ InsOI cf w g tl A (x0 :: M0) C k wr) (fun i _ _ => b - (intOf i).toNat)
  case atStart => exact ⟨a + 1, by go_num, Nat.le_refl _, hab, HO.out⟩
  case round =>
    obtain ⟨k, rfl, hk1, hk2, M1, M2, m1, hM, hki, hp, hs, hS⟩ := hrel
    have HM := Lib.hid hM
    have HKI := Lib.hid hki
    have HPM := Lib.hid hp
    have HSO := Lib.hid hs
    have HSR := Lib.hid hS
    clear hM hki hp hs hS
    cases M2 with
    | nil =>
      have hkb : k = b := by
        have e1 := HM.out; have e2 := HKI.out; have e3 := HBB.out; have e4 := HA.out
        rw [List.append_nil] at e1
        rw [e1] at e3
        omega
      have HK := Lib.hid hkb
      have g1 : ¬ (k : Int) < (b : Int) := by omega
      clear hkb
      go_wp2
      go_end0
      have e1 := HM.out
      rw [List.append_nil] at e1
      exact ⟨rfl, m1, by rw [e1]; exact HPM.out, HSO.out, by simpa using HSR.out⟩
    | cons x M2 =>
      have hkb : k < b := by
        have e1 := HM.out; have e2 := HKI.out; have e3 := HBB.out; have e4 := HA.out
        rw [e1] at e3
        simp at e3
        omega
      have g1 : (k : Int) < (b : Int) := by omega
      generalize hwo : wr = wo
      go_wp2
      go_loopw [9] (fun j wr => ∃ q, j = cN (q : Nat) ∧ a ≤ q ∧ q ≤ k ∧ InsII cf w g tl A m1 x (M2 ++ C) q wr) (fun j _ => (intOf j).toNat)
      case atStart =>
        refine ⟨k, rfl, by omega, Nat.le_refl _, ?_⟩
        have := InsII.start (cf := cf) (w := w) (g := g) (tl := tl) (A := A) (m1 := m1) (M2 := M2) (C := C) (x := x) (W := wo) (by rw [← hwo]; exact HSR.out) M1.length HPM.out.length_eq.symm
        rw [HKI.out]
        exact this
      case round =>
        obtain ⟨q, rfl, hq1, hq2, p1, p2, he, hqi, h2, hS⟩ := hrel
        have HE := Lib.hid he
        have HQI := Lib.hid hqi
        have H2 := Lib.hid h2
        have HS := Lib.hid hS
        have hlen : (A ++ p1 ++ (x :: p2 ++ (M2 ++ C))).length = n := by
          have e1 := HM.out; have e2 := HBB.out; have e3 := HA.out; have e4 := HN.out; have e5 := HPM.out.length_eq
          rw [e1] at e2
          rw [HE.out] at e5
          simp at e2 e5 ⊢
          omega
        have hqn : q < n := by omega
        have HLN := Lib.hid hlen
        have OUT : (∀ y, p1.getLast? = some y → ¬ cf x y < 0) → ∀ W, SI w g tl (A ++ p1 ++ (x :: p2 ++ (M2 ++ C))) W → InsOI cf w g tl A (x0 :: M0) C (k + 1) W := fun h1 W hW => by
          have := InsOI.next HF.out (by rw [← HM.out]; exact HT.out) HPM.out HSO.out HE.out H2.out h1 hW
          rw [← HM.out, ← HKI.out] at this
          exact this
        have HOUT := Lib.hid OUT
        clear he hqi h2 hS hlen OUT
        rcases List.eq_nil_or_concat p1 with hp1 | ⟨p1', y, hp1⟩
        · have hqa : q = a := by have := HQI.out; rw [hp1, HA.out.symm] at this; simpa using this
          subst hp1
          have g2 : decide (a < q) = false := decide_eq_false (by omega)
          have HQA := Lib.hid hqa
          clear hqa
          go_wp2
          refine region_sch (fun w' => w' = wr.drew) [(true, 0), (true, 1), (true, 2), (true, 3), (true, 4), (true, 5), (true, 6), (true, 7), (true, 8), (true, 9), (true, 10), (true, 11), (true, 12), (true, 13)] [14, 15, 16] (by kernel_rfl) (by kernel_rfl) (by rintro ⟨_, _, h⟩; cases h.1) (fun _ _ d _ _ h => by cases d <;> exact h) rfl ?_
          simp only [pickM, pickT, List.filterMap_cons, List.filterMap_nil, List.getElem?_cons_zero, List.getElem?_cons_succ, Option.map_some]
          repeat (first | (refine m_float ⟨?_, .inl ⟨?_, .inl ?_⟩, fun K' hK => ?_⟩; rotate_left; (first | rfl | (go_simp; done)); (intro w' hS; subst hS; go_simp; try rfl); (simp only [Act.put, List.setIfInBounds_toArray, List.set_cons_succ, List.set_cons_zero]; refine hK _ ?_; clear hK K')) | (refine m_float ⟨undef, .inr ⟨?_, rfl⟩, fun K' hK => ?_⟩; (first | rfl | (go_simp; done)); (simp only [Act.put, List.setIfInBounds_toArray, List.set_cons_succ, List.set_cons_zero]; refine hK _ ?_; clear hK K')))
          refine m_nil ?_
          show wpList Try.prog _ _ (List.cons _ _) _ _
          go_wp2
          go_roundw
          case rel => exact ⟨k + 1, by go_num, by omega, by omega, HOUT.out (by intro y hy; simp at hy) _ HS.out.drew⟩
          case measure => simp [intOf]; omega
        · rw [List.concat_eq_append] at hp1
          subst hp1
          obtain ⟨jp, rfl⟩ : ∃ jp, q = jp + 1 := ⟨q - 1, by have := HQI.out; simp at this; omega⟩
          have hjp : jp = (A ++ p1').length := by have := HQI.out; simp at this; simp; omega
          have hap : a ≤ jp := by rw [hjp, HA.out]; simp
          have hmem : ∀ t ∈ x0 :: M0, P t := HP.out
          have hPx : P x := hmem x (by rw [HM.out]; simp)
          have hPy : P y := hmem y (by rw [HM.out]; exact List.mem_append_left _ (HPM.out.subset (by rw [HE.out]; simp)))
          have hd1 : A ++ (p1' ++ [y]) ++ (x :: p2 ++ (M2 ++ C)) = (A ++ p1' ++ [y]) ++ x :: (p2 ++ (M2 ++ C)) := by simp
          have hd2 : A ++ (p1' ++ [y]) ++ (x :: p2 ++ (M2 ++ C)) = (A ++ p1') ++ y :: ([x] ++ (p2 ++ (M2 ++ C))) := by simp
          have cx : ∀ W, SI w g tl (A ++ (p1' ++ [y]) ++ (x :: p2 ++ (M2 ++ C))) W → W.cell? ⟨g, jp + 1, none⟩ = some (cN (x : Int)) := fun W hW => by
            refine hW.cell (jp + 1) x ?_
            rw [hd1]
            exact at_mid _ _ _ _ (by rw [List.length_append, ← hjp]; rfl)
          have cy : ∀ W, SI w g tl (A ++ (p1' ++ [y]) ++ (x :: p2 ++ (M2 ++ C))) W → W.cell? ⟨g, jp, none⟩ = some (cN (y : Int)) := fun W hW => by
            refine hW.cell jp y ?_
            rw [hd2]
            exact at_mid _ _ _ _ hjp
          have g2 : decide ((a : Int) < (jp : Int) + 1) = true := decide_eq_true (by omega)
          have jz : (jp : Int) + 1 < (n : Int) := by omega
          have jz1 : (jp : Int) < (n : Int) := by omega
          have p0 : (0 : Int) ≤ (jp : Int) + 1 := by omega
          have e0 : ((jp : Int) + 1).toNat = jp + 1 := by omega
          have hwp : IntKind.i64.wrap (jp : Int) = (jp : Int) := by rw [IntKind.wrap_i64]; omega
          have q0 := cx _ HS.out
          have r0 := cy _ HS.out
          have c1 := HC.out wr.drew _ x y HS.out.drew hPx hPy
          have HJP := Lib.hid hjp
          have HD1 := Lib.hid hd1
          have HD2 := Lib.hid hd2
          have CX := Lib.hid cx
          have CY := Lib.hid cy
          clear hjp hmem hPx hPy hd1 hd2 cx cy
          by_cases hlt : cf x y < 0
          · obtain ⟨v, hv⟩ : ∃ v, cf x y = v := ⟨_, rfl⟩
            have HV := Lib.hid hlt
            rw [hv] at hlt c1
            clear hv
            go_wp2
            refine region_sch (fun w' => w' = wr.drew) [(true, 0), (true, 1), (true, 2), (true, 3), (true, 4), (true, 5), (true, 6), (true, 7), (true, 8), (true, 9), (true, 10), (true, 11), (true, 12), (true, 13)] [14, 15, 16] (by kernel_rfl) (by kernel_rfl) (by rintro ⟨_, _, h⟩; cases h.1) (fun _ _ d _ _ h => by cases d <;> exact h) rfl ?_
            simp only [pickM, pickT, List.filterMap_cons, List.filterMap_nil, List.getElem?_cons_zero, List.getElem?_cons_succ, Option.map_some]
            repeat (first | (refine m_float ⟨?_, .inl ⟨?_, .inl ?_⟩, fun K' hK => ?_⟩; rotate_left; (first | rfl | (go_simp; done)); (intro w' hS; subst hS; go_simp; try rfl); (simp only [Act.put, List.setIfInBounds_toArray, List.set_cons_succ, List.set_cons_zero]; refine hK _ ?_; clear hK K')) | (refine m_float ⟨undef, .inr ⟨?_, rfl⟩, fun K' hK => ?_⟩; (first | rfl | (go_simp; done)); (simp only [Act.put, List.setIfInBounds_toArray, List.set_cons_succ, List.set_cons_zero]; refine hK _ ?_; clear hK K')))
            refine m_nil ?_
            show wpList Try.prog _ _ (List.cons _ _) _ _
            go_wp2_with fail
            with_reducible refine c1.mono ?_
            rintro e w1 ⟨rfl, hB1⟩
            have hS1 := HS.out.drew.below hB1
            clear q0 r0
            have q0 := CX.out _ hS1
            have r0 := CY.out _ hS1
            have fz : ∀ j, w1.frozen? ⟨g, j, none⟩ = false := fun j => hS1.fz j
            have hkey : SI w g tl (A ++ p1' ++ (x :: (y :: p2) ++ (M2 ++ C))) ((w1.setCell ⟨g, jp + 1, none⟩ (cN (y : Int))).setCell ⟨g, jp, none⟩ (cN (x : Int))) := by
              have k1 := hS1
              rw [HD1.out] at k1
              have k2 := k1.put (jp + 1) y (by simp; have := HJP.out; simp at this; omega)
              rw [set_mid _ _ _ _ _ (by rw [List.length_append, ← HJP.out]; rfl)] at k2
              have k3 := k2.put jp x (by simp; have := HJP.out; simp at this; omega)
              rw [List.append_assoc (A ++ p1') [y], List.cons_append, List.nil_append, set_mid _ _ _ _ _ HJP.out] at k3
              simpa using k3
            have hkey2 : SI w g tl (A ++ p1' ++ (x :: (y :: p2) ++ (M2 ++ C))) ((w1.setCell ⟨g, jp, none⟩ (cN (x : Int))).setCell ⟨g, jp + 1, none⟩ (cN (y : Int))) := by
              have k1 := hS1
              rw [HD2.out] at k1
              have k2 := k1.put jp x (by simp; have := HJP.out; simp at this; omega)
              rw [set_mid _ _ _ _ _ HJP.out] at k2
              have k3 := k2.put (jp + 1) y (by simp; have := HJP.out; simp at this; omega)
              rw [show A ++ p1' ++ x :: ([x] ++ (p2 ++ (M2 ++ C))) = (A ++ p1' ++ [x]) ++ x :: (p2 ++ (M2 ++ C)) by simp, set_mid _ _ _ _ _ (by rw [List.length_append, ← HJP.out]; rfl)] at k3
              simpa using k3
            have HKEY := Lib.hid hkey
            have HKEY2 := Lib.hid hkey2
            have HIN : Hid (∀ W, SI w g tl (A ++ p1' ++ (x :: (y :: p2) ++ (M2 ++ C))) W → InsII cf w g tl A m1 x (M2 ++ C) jp W) := Lib.hid fun W hW => ⟨p1', y :: p2, by rw [HE.out]; simp, by rw [HJP.out]; simp, fun z hz => by
              rcases List.mem_cons.1 hz with rfl | hz
              · exact HV.out
              · exact H2.out z hz, hW⟩
            clear hS1 hB1 hkey hkey2
            go_wp2
            go_big_region
            all_goals go_wp2
            all_goals go_roundw
            case rel => exact ⟨jp, by go_num, hap, by omega, HIN.out _ HKEY.out.drew⟩
            case measure => first | (simp [intOf]; done) | (simp [intOf]; omega)
          · obtain ⟨v, hv⟩ : ∃ v, cf x y = v := ⟨_, rfl⟩
            have HV := Lib.hid hlt
            rw [hv] at hlt c1
            have hv0 : 0 ≤ v := by omega
            clear hv
            go_wp2
            refine region_sch (fun w' => w' = wr.drew) [(true, 0), (true, 1), (true, 2), (true, 3), (true, 4), (true, 5), (true, 6), (true, 7), (true, 8), (true, 9), (true, 10), (true, 11), (true, 12), (true, 13)] [14, 15, 16] (by kernel_rfl) (by kernel_rfl) (by rintro ⟨_, _, h⟩; cases h.1) (fun _ _ d _ _ h => by cases d <;> exact h) rfl ?_
            simp only [pickM, pickT, List.filterMap_cons, List.filterMap_nil, List.getElem?_cons_zero, List.getElem?_cons_succ, Option.map_some]
            repeat (first | (refine m_float ⟨?_, .inl ⟨?_, .inl ?_⟩, fun K' hK => ?_⟩; rotate_left; (first | rfl | (go_simp; done)); (intro w' hS; subst hS; go_simp; try rfl); (simp only [Act.put, List.setIfInBounds_toArray, List.set_cons_succ, List.set_cons_zero]; refine hK _ ?_; clear hK K')) | (refine m_float ⟨undef, .inr ⟨?_, rfl⟩, fun K' hK => ?_⟩; (first | rfl | (go_simp; done)); (simp only [Act.put, List.setIfInBounds_toArray, List.set_cons_succ, List.set_cons_zero]; refine hK _ ?_; clear hK K')))
            refine m_nil ?_
            show wpList Try.prog _ _ (List.cons _ _) _ _
            go_wp2_with fail
            with_reducible refine c1.mono ?_
            rintro e w1 ⟨rfl, hB1⟩
            have HS1 := Lib.hid (HS.out.drew.below hB1)
            clear q0 r0 hB1
            go_wp2
            go_roundw
            case rel => exact ⟨k + 1, by go_num, by omega, by omega, HOUT.out (by intro z hz; simp at hz; subst hz; exact HV.out) _ HS1.out⟩
            case measure => simp [intOf]; omega
end Go.Proofs.Ytnmlephjhcmbhaa
namespace Go.Proofs.Ytnmlephjhcmbhaa
set_option linter.unusedSimpArgs false
set_option linter.unusedVariables false
open Go Go.RowKit
def SwE (w : World) (g : Nat) (tl : List Value) (D : List Nat) (e : Ending) (w' : World) : Prop := e = .returned (.tuple #[]) ∧ SI w g tl D w'
theorem cons_of_lt {l : List Nat} (h : 0 < l.length) : ∃ x l', l = x :: l' := by
  cases l with
  | nil => simp at h
  | cons x l => exact ⟨x, l, rfl⟩
set_option maxRecDepth 100000 in
set_option maxHeartbeats 4000000 in
theorem swpint_ok (w : World) (g : Nat) (tl : List Value) (cap : Nat) (fv : Value) (P X M Y S : List Nat) (a b n N : Nat) (hX : X.length = n) (hY : Y.length = n) (ha : a = P.length) (hb : b = P.length + n + M.length) (hN : N = (P ++ X ++ M ++ Y ++ S).length) (hN2 : N ≤ 2000)
    (W0 : World) (hS : SI w g tl (P ++ X ++ M ++ Y ++ S) W0) :
    Calls Try.prog 195 #[.slice (some ⟨g, 0, none⟩) N cap, cN a, cN b, cN n, fv] W0 (SwE w g tl (P ++ Y ++ M ++ X ++ S)) := by
  have HS0 := Lib.hid hS
  have HX := Lib.hid hX
  have HY := Lib.hid hY
  have HA := Lib.hid ha
  have HBB := Lib.hid hb
  have HN := Lib.hid hN
  have hbn : b + n ≤ N := by rw [hN, hb]; simp; omega
  have han : a + n ≤ b := by omega
  clear hS hX hY ha hb hN
  go_enter Try.func195, Try.ntmps195
  go_wp2
  go_loopw [10] (fun i wr => ∃ k X1 X2 Y1 Y2, i = cN (k : Nat) ∧ k ≤ n ∧ X = X1 ++ X2 ∧ Y = Y1 ++ Y2 ∧ X1.length = k ∧ Y1.length = k ∧ SI w g tl (P ++ (Y1 ++ X2) ++ M ++ (X1 ++ Y2) ++ S) wr) (fun i _ => n - (intOf i).toNat)
  case atStart => exact ⟨0, [], X, [], Y, rfl, Nat.zero_le _, rfl, rfl, rfl, rfl, by simpa using HS0.out⟩
  case round =>
    obtain ⟨k, X1, X2, Y1, Y2, rfl, hk, hx, hy, hx1, hy1, hS⟩ := hrel
    have HXE := Lib.hid hx
    have HYE := Lib.hid hy
    have HX1 := Lib.hid hx1
    have HY1 := Lib.hid hy1
    have HS := Lib.hid hS
    clear hx hy hx1 hy1 hS
    by_cases hlt : (k : Int) < (n : Int)
    · have hkn : k < n := by omega
      obtain ⟨x, X2, rfl⟩ : ∃ x l, X2 = x :: l := cons_of_lt (by have := HX.out; have := HX1.out; rw [HXE.out] at *; simp at *; omega)
      obtain ⟨y, Y2, rfl⟩ : ∃ x l, Y2 = x :: l := cons_of_lt (by have := HY.out; have := HY1.out; rw [HYE.out] at *; simp at *; omega)
      have hx2 : X1.length + (X2.length + 1) = n := by have := HX.out; rw [HXE.out] at this; simpa using this
      have hlx := HX1.out
      have hly := HY1.out
      have d1 : P ++ (Y1 ++ x :: X2) ++ M ++ (X1 ++ y :: Y2) ++ S = (P ++ Y1) ++ x :: (X2 ++ M ++ (X1 ++ y :: Y2) ++ S) := by simp
      have d2 : P ++ (Y1 ++ x :: X2) ++ M ++ (X1 ++ y :: Y2) ++ S = (P ++ (Y1 ++ x :: X2) ++ M ++ X1) ++ y :: (Y2 ++ S) := by simp
      have la : a + k = (P ++ Y1).length := by rw [HA.out, List.length_append, hly]
      have lb : b + k = (P ++ (Y1 ++ x :: X2) ++ M ++ X1).length := by rw [HBB.out]; simp; omega
      have hsa := HS.out
      have cx : wr.cell? ⟨g, a + k, none⟩ = some (cN (x : Int)) := hsa.cell _ x (by rw [d1]; exact at_mid _ _ _ _ la)
      have cy : wr.cell? ⟨g, b + k, none⟩ = some (cN (y : Int)) := hsa.cell _ y (by rw [d2]; exact at_mid _ _ _ _ lb)
      have hkey : SI w g tl (P ++ (Y1 ++ [y] ++ X2) ++ M ++ (X1 ++ [x] ++ Y2) ++ S) ((wr.setCell ⟨g, a + k, none⟩ (cN (y : Int))).setCell ⟨g, b + k, none⟩ (cN (x : Int))) := by
        have k1 := hsa
        rw [d1] at k1
        have k2 := k1.put (a + k) y (by rw [la]; simp)
        rw [set_mid _ _ _ _ _ la] at k2
        rw [show (P ++ Y1) ++ y :: (X2 ++ M ++ (X1 ++ y :: Y2) ++ S) = (P ++ (Y1 ++ y :: X2) ++ M ++ X1) ++ y :: (Y2 ++ S) by simp] at k2
        have lb' : b + k = (P ++ (Y1 ++ y :: X2) ++ M ++ X1).length := by rw [lb]; simp
        have k3 := k2.put (b + k) x (by rw [lb']; simp)
        rw [set_mid _ _ _ _ _ lb'] at k3
        simpa using k3
      have fz : ∀ j, wr.frozen? ⟨g, j, none⟩ = false := fun j => hsa.fz j
      have HKEY := Lib.hid hkey
      have p0 : (a : Int) + (k : Int) < (N : Int) := by omega
      have p1 : (b : Int) + (k : Int) < (N : Int) := by omega
      have p2 : (0 : Int) ≤ (a : Int) + (k : Int) := by omega
      have p3 : (0 : Int) ≤ (b : Int) + (k : Int) := by omega
      have e0 : ((a : Int) + (k : Int)).toNat = a + k := by omega
      have e1 : ((b : Int) + (k : Int)).toNat = b + k := by omega
      have ne : a + k ≠ b + k := by omega
      clear hsa hkey d1 d2 la lb hlx hly hx2
      go_wp2
      go_big_region
      all_goals go_wp2
      all_goals go_roundw
      case rel => exact ⟨k + 1, X1 ++ [x], X2, Y1 ++ [y], Y2, by go_num, by omega, by rw [HXE.out]; simp, by rw [HYE.out]; simp, by simp [HX1.out], by simp [HY1.out], HKEY.out.drew⟩
      case measure => first | (simp [intOf]; done) | (simp [intOf]; omega)
    · obtain rfl : k = n := by omega
      have hx2 : X2 = [] := by have := HX.out; rw [HXE.out] at this; have := HX1.out; simp at *; apply List.eq_nil_of_length_eq_zero; omega
      have hy2 : Y2 = [] := by have := HY.out; rw [HYE.out] at this; have := HY1.out; simp at *; apply List.eq_nil_of_length_eq_zero; omega
      have hfin : SI w g tl (P ++ Y ++ M ++ X ++ S) wr := by
        have := HS.out
        rw [hx2, hy2] at this
        rw [HXE.out, HYE.out, hx2, hy2]
        simpa using this
      have HF := Lib.hid hfin
      clear hx2 hy2 hfin
      go_wp2
      go_end0
      exact ⟨rfl, by simpa using HF.out⟩
end Go.Proofs.Ytnmlephjhcmbhaa
namespace Go.Proofs.Ytnmlephjhcmbhaa
set_option linter.unusedSimpArgs false
set_option linter.unusedVariables false
open Go Go.RowKit
set_option maxRecDepth 100000 in
set_option maxHeartbeats 4000000 in
theorem rotint_ok (w : World) (g : Nat) (tl : List Value) (cap : Nat) (fv : Value) (P X Y S : List Nat) (a m b N : Nat) (hX : 0 < X.length) (hY : 0 < Y.length) (ha : a = P.length) (hm : m = a + X.length) (hb : b = m + Y.length) (hN : N = (P ++ X ++ Y ++ S).length) (hN2 : N ≤ 2000)
    (W0 : World) (hS : SI w g tl (P ++ X ++ Y ++ S) W0) :
    Calls Try.prog 186 #[.slice (some ⟨g, 0, none⟩) N cap, cN a, cN m, cN b, fv] W0 (SwE w g tl (P ++ Y ++ X ++ S)) := by
  obtain ⟨T, hT⟩ : ∃ T, T = P ++ Y ++ X ++ S := ⟨_, rfl⟩
  rw [← hT]
  have e1 : (m : Int) - (a : Int) = ((X.length : Nat) : Int) := by omega
  have e2 : (b : Int) - (m : Int) = ((Y.length : Nat) : Int) := by omega
  have hST : ∃ P1 X1 Y1 S1, X.length = X1.length ∧ Y.length = Y1.length ∧ P1.length + X.length = m ∧ SI w g tl (P1 ++ X1 ++ Y1 ++ S1) W0 ∧ T = P1 ++ Y1 ++ X1 ++ S1 ∧ N = (P1 ++ X1 ++ Y1 ++ S1).length := ⟨P, X, Y, S, rfl, rfl, by omega, hS, hT, hN⟩
  have hmN : b ≤ N := by rw [hN, hb, hm, ha]; simp; omega
  have HST := Lib.hid hST
  have hma : a ≤ m := by omega
  have hmb : m ≤ b := by omega
  have hX1 : X.length ≤ 2000 := by omega
  have hY1 : Y.length ≤ 2000 := by omega
  clear hS hT hN hST ha hm hb
  generalize X.length = i0 at *
  generalize Y.length = j0 at *
  go_enter Try.func186, Try.ntmps186
  go_wp2
  go_loopw [10, 11] (fun i j wr => ∃ (ki kj : Nat) (P1 X1 Y1 S1 : List Nat), i = cN ki ∧ j = cN kj ∧ 0 < ki ∧ 0 < kj ∧ ki = X1.length ∧ kj = Y1.length ∧ P1.length + ki = m ∧ SI w g tl (P1 ++ X1 ++ Y1 ++ S1) wr ∧ T = P1 ++ Y1 ++ X1 ++ S1 ∧ N = (P1 ++ X1 ++ Y1 ++ S1).length) (fun i j _ => (intOf i).toNat + (intOf j).toNat)
  case atStart =>
    obtain ⟨P1, X1, Y1, S1, h1, h2, h3, h4, h5, h6⟩ := HST.out
    exact ⟨i0, j0, P1, X1, Y1, S1, rfl, rfl, hX, hY, h1, h2, h3, h4, h5, h6⟩
  case round =>
    obtain ⟨ki, kj, P1, X1, Y1, S1, rfl, rfl, hi, hj, hx, hy, hm, hS, hT, hN⟩ := hrel
    have HT := Lib.hid hT
    have HX := Lib.hid hx
    have HY := Lib.hid hy
    have HS := Lib.hid hS
    have HN := Lib.hid hN
    have HM := Lib.hid hm
    have hkN : m + kj ≤ N := by rw [hN, ← hm, hx, hy]; simp; omega
    have hki : ki ≤ m := by omega
    clear hT hx hy hS hN hm
    by_cases hne : ki = kj
    · subst hne
      have g1 : ((ki : Int) != (ki : Int)) = false := by simp
      have c1 := swpint_ok w g tl cap fv P1 X1 [] Y1 S1 (m - ki) m ki N HX.out.symm HY.out.symm (by have := HM.out; omega) (by have := HM.out; simp; omega) (by rw [HN.out]; simp) hN2 wr (by simpa using HS.out)
      have e3 : (m : Int) - (ki : Int) = ((m - ki : Nat) : Int) := by omega
      clear hi hj
      go_wp2_with fail
      with_reducible refine c1.mono ?_
      rintro e w1 ⟨rfl, hE⟩
      have HE := Lib.hid hE
      clear hE
      go_wp2
      go_end0
      refine ⟨rfl, ?_⟩
      rw [HT.out]
      simpa using HE.out
    · have g1 : ((ki : Int) != (kj : Int)) = true := by simp; omega
      by_cases hgt : kj < ki
      · have g2 : (kj : Int) < (ki : Int) := by omega
        obtain ⟨XA, XB, rfl, hxa⟩ : ∃ XA XB, X1 = XA ++ XB ∧ XA.length = kj := ⟨X1.take kj, X1.drop kj, (List.take_append_drop _ _).symm, by rw [List.length_take, ← HX.out]; omega⟩
        have hxb : kj + XB.length = ki := by have := HX.out; simp at this; omega
        have c1 := swpint_ok w g tl cap fv P1 XA XB Y1 S1 (m - ki) m kj N hxa HY.out.symm (by have := HM.out; omega) (by have := HM.out; omega) (by rw [HN.out]; simp) hN2 wr (by simpa using HS.out)
        have e3 : (m : Int) - (ki : Int) = ((m - ki : Nat) : Int) := by omega
        have HXA := Lib.hid hxa
        have HXB := Lib.hid hxb
        clear hne hgt hxa hxb
        go_wp2_with fail
        with_reducible refine c1.mono ?_
        rintro e w1 ⟨rfl, hE⟩
        have HE := Lib.hid hE
        clear hE
        go_wp2
        go_roundw
        case rel => exact ⟨ki - kj, kj, P1 ++ Y1, XB, XA, S1, num_eq (by omega), rfl, by omega, by omega, by have := HXB.out; omega, HXA.out.symm, by have := HY.out; have := HM.out; simp; omega, by simpa using HE.out, by rw [HT.out]; simp, by rw [HN.out]; simp; omega⟩
        case measure => simp [intOf]; omega
      · have g2 : ¬ (kj : Int) < (ki : Int) := by omega
        have hlt2 : ki < kj := by omega
        obtain ⟨YA, YB, rfl, hya⟩ : ∃ YA YB, Y1 = YA ++ YB ∧ YA.length = kj - ki := ⟨Y1.take (kj - ki), Y1.drop (kj - ki), (List.take_append_drop _ _).symm, by rw [List.length_take, ← HY.out]; omega⟩
        have hyb : YB.length = ki := by have := HY.out; simp at this; omega
        have c1 := swpint_ok w g tl cap fv P1 X1 YA YB S1 (m - ki) (m + (kj - ki)) ki N HX.out.symm hyb (by have := HM.out; omega) (by have := HM.out; omega) (by rw [HN.out]; simp) hN2 wr (by simpa using HS.out)
        have e3 : (m : Int) - (ki : Int) = ((m - ki : Nat) : Int) := by omega
        have e4 : (m : Int) + (kj : Int) - (ki : Int) = (m : Int) + ((kj - ki : Nat) : Int) := by omega
        rw [show ((m + (kj - ki) : Nat) : Int) = (m : Int) + ((kj - ki : Nat) : Int) by omega] at c1
        have HYA := Lib.hid hya
        have HYB := Lib.hid hyb
        clear hne hgt hya hyb
        go_wp2_with fail
        with_reducible refine c1.mono ?_
        rintro e w1 ⟨rfl, hE⟩
        have HE := Lib.hid hE
        clear hE
        go_wp2
        go_roundw
        case rel => exact ⟨ki, kj - ki, P1, YB, YA, X1 ++ S1, rfl, num_eq (by omega), by omega, by omega, HYB.out.symm, HYA.out.symm, HM.out, by simpa using HE.out, by rw [HT.out]; simp, by rw [HN.out]; simp; omega⟩
        case measure => simp [intOf]; omega
end Go.Proofs.Ytnmlephjhcmbhaa
namespace Go.Proofs.Ytnmlephjhcmbhaa
set_option linter.unusedSimpArgs false
set_option linter.unusedVariables false
open Go Go.RowKit
theorem half_of (x y : Nat) : ((x : Int) + (y : Int)) / 2 = (((x + y) / 2 : Nat) : Int) := by omega
set_option maxRecDepth 100000 in
set_option maxHeartbeats 4000000 in
theorem sym_left (cf : Nat → Nat → Int) (hcf : OrdI cf) (P : Nat → Prop) (w : World) (g : Nat) (tl : List Value) (F1 F2 cap : Nat) (hcmp : CmpI cf P w g tl F1 F2) (N : Nat) (hN2 : N ≤ 2000) (A R C : List Nat) (x : Nat) (a m b : Nat) (W0 : World)
    (ha : a = A.length) (hm : m = a + 1) (hb : b = m + R.length) (hN : N = (A ++ [x] ++ R ++ C).length) (hR : R.Pairwise (ltI cf)) (hx : ∀ y ∈ R, x < y) (hP : ∀ y ∈ x :: R, P y) (hS : SI w g tl (A ++ [x] ++ R ++ C) W0) :
    Calls Try.prog 166 #[.slice (some ⟨g, 0, none⟩) N cap, cN a, cN m, cN b, .func (.func 75) #[] #[.pointer (some ⟨F1, 0, none⟩), .pointer (some ⟨F2, 0, none⟩)]] W0 (SeI cf w g tl A ([x] ++ R) C) := by
  have g1 : ((m : Int) - (a : Int) == 1) = true := by simp; omega
  have hq : b ≤ N := by rw [hN, hb, hm, ha]; simp; omega
  have ham : a < m := by omega
  have hmb : m ≤ b := by omega
  have HS0 := Lib.hid hS
  have HA := Lib.hid ha
  have HM := Lib.hid hm
  have HBB := Lib.hid hb
  have HN := Lib.hid hN
  have HR := Lib.hid hR
  have HX := Lib.hid hx
  have HP := Lib.hid hP
  have HC := Lib.hid hcmp
  have HF := Lib.hid hcf
  clear hS ha hm hb hN hR hx hP hcmp hcf
  go_enter Try.func166, Try.ntmps166
  go_wp2
  go_loopw [10, 11, 12] (fun i j _ wr => ∃ ki kj : Nat, i = cN ki ∧ j = cN kj ∧ m ≤ ki ∧ ki ≤ kj ∧ kj ≤ b ∧ OneLo (ltI cf) R x (ki - m) ∧ OneHi (ltI cf) R x (kj - m) ∧ SI w g tl (A ++ [x] ++ R ++ C) wr) (fun i j _ _ => (intOf j).toNat - (intOf i).toNat)
  case atStart => exact ⟨m, b, rfl, rfl, Nat.le_refl _, hmb, Nat.le_refl _, fun c y h => by omega, fun c y h hy => by obtain ⟨h1, -⟩ := List.getElem?_eq_some_iff.1 hy; have := HBB.out; omega, HS0.out⟩
  case round =>
    obtain ⟨ki, kj, rfl, rfl, hmi, hij, hj, hlo, hhi, hS⟩ := hrel
    have HLO := Lib.hid hlo
    have HHI := Lib.hid hhi
    have HS := Lib.hid hS
    clear hlo hhi hS
    by_cases hlt : ki < kj
    · have g2 : (ki : Int) < (kj : Int) := by omega
      have e1 := half_of ki kj
      obtain ⟨c, hc⟩ : ∃ c, c = (ki + kj) / 2 := ⟨_, rfl⟩
      rw [← hc] at e1
      have hc1 : ki ≤ c := by omega
      have hc2 : c < kj := by omega
      have hcb : c < b := by omega
      have hcN : (c : Int) < (N : Int) := by omega
      have haN : (a : Int) < (N : Int) := by omega
      obtain ⟨y, hy⟩ : ∃ y, R[c - m]? = some y := ⟨R[c - m]'(by have := HBB.out; omega), List.getElem?_eq_getElem _⟩
      have hyR : y ∈ R := List.mem_of_getElem? hy
      have cy : ∀ W, SI w g tl (A ++ [x] ++ R ++ C) W → W.cell? ⟨g, c, none⟩ = some (cN (y : Int)) := fun W hW => hW.cell c y (by
        rw [List.append_assoc, List.getElem?_append_right (by have := HA.out; have := HM.out; simp; omega), List.getElem?_append_left (by have := HA.out; have := HM.out; have := HBB.out; simp; omega)]
        rw [← hy]; congr 1; have := HA.out; have := HM.out; simp; omega)
      have cx : ∀ W, SI w g tl (A ++ [x] ++ R ++ C) W → W.cell? ⟨g, a, none⟩ = some (cN (x : Int)) := fun W hW => hW.cell a x (by
        rw [show A ++ [x] ++ R ++ C = A ++ x :: (R ++ C) by simp]; exact at_mid _ _ _ _ HA.out)
      have c1 := HC.out wr.drew _ y x HS.out.drew (HP.out y (List.mem_cons_of_mem _ hyR)) (HP.out x (List.mem_cons_self ..))
      have hord := ltI_of HF.out (HX.out y hyR)
      have q0 := cy _ HS.out
      have r0 := cx _ HS.out
      have HY := Lib.hid hy
      have HCC := Lib.hid hc
      obtain ⟨v, hv⟩ : ∃ v, cf y x = v := ⟨_, rfl⟩
      rw [hv] at c1 hord
      have HORD := Lib.hid hord
      clear hc hy hyR cy cx hv hord hij hlt
      by_cases hneg : v < 0
      · have HV := Lib.hid hneg
        go_wp2
        refine region_sch (fun w' => w' = wr.drew) [(true, 0), (true, 1), (true, 2), (true, 3), (true, 4), (true, 5), (true, 6), (true, 7), (true, 8)] [9, 10] (by kernel_rfl) (by kernel_rfl) (by rintro ⟨_, _, h⟩; cases h.1) (fun _ _ d _ _ h => by cases d <;> exact h) rfl ?_
        simp only [pickM, pickT, List.filterMap_cons, List.filterMap_nil, List.getElem?_cons_zero, List.getElem?_cons_succ, Option.map_some]
        repeat (first | (refine m_float ⟨?_, .inl ⟨?_, .inl ?_⟩, fun K' hK => ?_⟩; rotate_left; (first | rfl | (go_simp; done)); (intro w' hS; subst hS; go_simp; try rfl); (simp only [Act.put, List.setIfInBounds_toArray, List.set_cons_succ, List.set_cons_zero]; refine hK _ ?_; clear hK K')) | (refine m_float ⟨undef, .inr ⟨?_, rfl⟩, fun K' hK => ?_⟩; (first | rfl | (go_simp; done)); (simp only [Act.put, List.setIfInBounds_toArray, List.set_cons_succ, List.set_cons_zero]; refine hK _ ?_; clear hK K')))
        refine m_nil ?_
        show wpList Try.prog _ _ (List.cons _ _) _ _
        go_wp2_with fail
        with_reducible refine c1.mono ?_
        rintro e w1 ⟨rfl, hB1⟩
        have HS1 := Lib.hid (HS.out.drew.below hB1)
        clear hB1 q0 r0
        go_wp2
        go_roundw
        case rel => exact ⟨c + 1, kj, by go_num, rfl, by omega, by omega, hj, by
          have := oneLo_step (ltI_trans HF.out) HR.out HY.out (HORD.out.1 HV.out)
          rwa [show c - m + 1 = c + 1 - m by omega] at this, HHI.out, HS1.out⟩
        case measure => simp [intOf]; omega
      · have hneg2 : 0 ≤ v := by omega
        have HV := Lib.hid hneg
        go_wp2
        refine region_sch (fun w' => w' = wr.drew) [(true, 0), (true, 1), (true, 2), (true, 3), (true, 4), (true, 5), (true, 6), (true, 7), (true, 8)] [9, 10] (by kernel_rfl) (by kernel_rfl) (by rintro ⟨_, _, h⟩; cases h.1) (fun _ _ d _ _ h => by cases d <;> exact h) rfl ?_
        simp only [pickM, pickT, List.filterMap_cons, List.filterMap_nil, List.getElem?_cons_zero, List.getElem?_cons_succ, Option.map_some]
        repeat (first | (refine m_float ⟨?_, .inl ⟨?_, .inl ?_⟩, fun K' hK => ?_⟩; rotate_left; (first | rfl | (go_simp; done)); (intro w' hS; subst hS; go_simp; try rfl); (simp only [Act.put, List.setIfInBounds_toArray, List.set_cons_succ, List.set_cons_zero]; refine hK _ ?_; clear hK K')) | (refine m_float ⟨undef, .inr ⟨?_, rfl⟩, fun K' hK => ?_⟩; (first | rfl | (go_simp; done)); (simp only [Act.put, List.setIfInBounds_toArray, List.set_cons_succ, List.set_cons_zero]; refine hK _ ?_; clear hK K')))
        refine m_nil ?_
        show wpList Try.prog _ _ (List.cons _ _) _ _
        go_wp2_with fail
        with_reducible refine c1.mono ?_
        rintro e w1 ⟨rfl, hB1⟩
        have HS1 := Lib.hid (HS.out.drew.below hB1)
        clear hB1 q0 r0
        go_wp2
        go_roundw
        case rel => exact ⟨ki, c, rfl, rfl, hmi, hc1, by omega, HLO.out, oneHi_step (ltI_trans HF.out) HR.out HY.out (HORD.out.2 HV.out), HS1.out⟩
        case measure => simp [intOf]; omega
    · have hkk : ki = kj := by omega
      subst hkk
      obtain ⟨j, hj⟩ : ∃ j, j = ki - m := ⟨_, rfl⟩
      rw [← hj] at HLO HHI
      have hki : ki = m + j := by omega
      have hjR : j ≤ R.length := by have := HBB.out; omega
      have g2 : ¬ (ki : Int) < (ki : Int) := by omega
      have hjb : ki ≤ N := by omega
      have HKI := Lib.hid hki
      have HJ := Lib.hid hj
      clear hj hki hij hlt
      go_wp2
      go_loopw [13] (fun k wr => ∃ t R1 R2, k = cN ((a + t : Nat) : Int) ∧ t ≤ j ∧ R = R1 ++ R2 ∧ R1.length = t ∧ SI w g tl (A ++ R1 ++ x :: R2 ++ C) wr) (fun k _ => a + j - (intOf k).toNat)
      case atStart => exact ⟨0, [], R, by simp, Nat.zero_le _, rfl, rfl, by simpa using HS.out⟩
      case round =>
        obtain ⟨t, R1, R2, hcc, ht, hr, hr1, hS2⟩ := hrel
        obtain ⟨k, hk⟩ : ∃ k, k = a + t := ⟨_, rfl⟩
        rw [← hk] at hcc
        subst hcc
        have HRR := Lib.hid hr
        have HR1 := Lib.hid hr1
        have HS2 := Lib.hid hS2
        have HK := Lib.hid hk
        clear hr hr1 hS2
        by_cases htj : t < j
        · have g3 : (k : Int) < (ki : Int) - 1 := by have := HKI.out; have := HM.out; omega
          obtain ⟨y, R2, rfl⟩ : ∃ x l, R2 = x :: l := cons_of_lt (by have := HR1.out; rw [HRR.out] at hjR; simp at hjR; omega)
          have hka : k = (A ++ R1).length := by rw [List.length_append, HR1.out, ← HA.out]; exact HK.out
          have hkN : k + 1 < N := by
            have h1 := HK.out; have h2 := HR1.out; have h3 := HN.out; have h4 := HA.out
            rw [HRR.out] at h3
            simp at h3
            omega
          have d1 : A ++ R1 ++ x :: y :: R2 ++ C = (A ++ R1) ++ x :: (y :: R2 ++ C) := by simp
          have d2 : A ++ R1 ++ x :: y :: R2 ++ C = (A ++ R1 ++ [x]) ++ y :: (R2 ++ C) := by simp
          have hsa := HS2.out
          have q0 : wr.cell? ⟨g, k, none⟩ = some (cN (x : Int)) := hsa.cell _ x (by rw [d1]; exact at_mid _ _ _ _ hka)
          have r0 : wr.cell? ⟨g, k + 1, none⟩ = some (cN (y : Int)) := hsa.cell _ y (by rw [d2]; exact at_mid _ _ _ _ (by rw [List.length_append, ← hka]; rfl))
          have hkey : SI w g tl (A ++ (R1 ++ [y]) ++ x :: R2 ++ C) ((wr.setCell ⟨g, k, none⟩ (cN (y : Int))).setCell ⟨g, k + 1, none⟩ (cN (x : Int))) := by
            have k1 := hsa
            rw [d1] at k1
            have k2 := k1.put k y (by rw [hka]; simp)
            rw [set_mid _ _ _ _ _ hka] at k2
            rw [show (A ++ R1) ++ y :: (y :: R2 ++ C) = (A ++ R1 ++ [y]) ++ y :: (R2 ++ C) by simp] at k2
            have lb : k + 1 = (A ++ R1 ++ [y]).length := by rw [List.length_append, ← hka]; rfl
            have k3 := k2.put (k + 1) x (by rw [lb]; simp)
            rw [set_mid _ _ _ _ _ lb] at k3
            simpa using k3
          have fz : ∀ j, wr.frozen? ⟨g, j, none⟩ = false := fun j => hsa.fz j
          have HKEY := Lib.hid hkey
          have p0 : (k : Int) < (N : Int) := by omega
          have p1 : (k : Int) + 1 < (N : Int) := by omega
          have p2 : (0 : Int) ≤ (k : Int) + 1 := by omega
          have e0 : ((k : Int) + 1).toNat = k + 1 := by omega
          clear hsa hkey d1 d2 hka hk hjR
          go_wp2
          go_big_region
          all_goals go_wp2
          all_goals go_roundw
          case rel => exact ⟨t + 1, R1 ++ [y], R2, num_eq (by have := HK.out; omega), by omega, by rw [HRR.out]; simp, by simp [HR1.out], HKEY.out.drew⟩
          case measure => have := HK.out; first | (simp [intOf]; done) | (simp [intOf]; omega)
        · have htj2 : t = j := by omega
          have g3 : ¬ (k : Int) < (ki : Int) - 1 := by have := HKI.out; have := HM.out; omega
          have HT := Lib.hid htj2
          clear hk htj htj2 hjR
          go_wp2
          go_end0
          have hlen : R1.length = j := by rw [HR1.out, HT.out]
          have e1 : R.take j = R1 := by rw [HRR.out, ← hlen]; simp
          have e2 : R.drop j = R2 := by rw [HRR.out, ← hlen]; simp
          refine ⟨rfl, R.take j ++ x :: R.drop j, one_perm j, one_sorted (ltI_trans HF.out) HR.out HLO.out HHI.out, ?_⟩
          rw [e1, e2]
          simpa using HS2.out
end Go.Proofs.Ytnmlephjhcmbhaa
