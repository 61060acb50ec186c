/- Rows of indices that are sorted in their place. -/
import Derived.Test.YtnmlephjhcmbhaaPka
import Derived.Test.YtnmlephjhcmbhaaDko
namespace Go.Proofs.Ytnmlephjhcmbhaa
set_option linter.unusedSimpArgs false
set_option linter.unusedVariables false
open Go Go.RowKit
/-- The row g holds the numbers d, and tl behind them; all other blocks below are as they were. -/
structure SI (w : World) (g : Nat) (tl : List Value) (d : List Nat) (W : World) : Prop where
  row : W.heap[g]? = some (.cells (ints d ++ tl).toArray 3 (0, 0))
  os : W.os = w.os
  tape : W.tape = w.tape
  output : W.output = w.output
  size : w.heap.size ≤ W.heap.size
  lt : g < w.heap.size
  block : ∀ k, k < w.heap.size → k ≠ g → W.heap[k]? = w.heap[k]?
theorem SI.below {w W W' : World} {g : Nat} {tl : List Value} {d : List Nat} (h : SI w g tl d W) (b : Below W.heap.size W W') : SI w g tl d W' :=
  ⟨(b.block _ (lt_of_block h.row)).trans h.row, b.os.trans h.os, b.tape.trans h.tape, b.output.trans h.output, Nat.le_trans h.size b.size, h.lt, fun k hk hg => (b.block k (Nat.lt_of_lt_of_le hk h.size)).trans (h.block k hk hg)⟩
theorem SI.drew {w W : World} {g : Nat} {tl : List Value} {d : List Nat} (h : SI w g tl d W) : SI w g tl d W.drew := ⟨h.row, h.os, h.tape, h.output, h.size, h.lt, h.block⟩
theorem SI.out {w W : World} {g : Nat} {tl : List Value} {d : List Nat} {B : Nat} (h : SI w g tl d W) {w0 : World} (hB : Below B w0 w) (hg : B ≤ g) : Below B w0 W :=
  hB.trans ⟨h.os, h.tape, h.output, h.size, fun k hk => h.block k (by have := h.lt; omega) (by omega)⟩
theorem ints_len (d : List Nat) : (ints d).length = d.length := by simp [ints]
theorem SI.cell {w W : World} {g : Nat} {tl : List Value} {d : List Nat} (h : SI w g tl d W) (k x : Nat) (hk : d[k]? = some x) : W.cell? ⟨g, k, none⟩ = some (cN (x : Int)) := by
  obtain ⟨hl, rfl⟩ := List.getElem?_eq_some_iff.1 hk
  rw [Lib.cell_of_heap h.row, List.getElem?_toArray, List.getElem?_append_left (by rw [ints_len]; exact hl)]
  simp [ints, hl]
theorem SI.fz {w W : World} {g : Nat} {tl : List Value} {d : List Nat} (h : SI w g tl d W) (k : Nat) : W.frozen? ⟨g, k, none⟩ = false := Lib.frozen_of_heap h.row k
theorem SI.put {w W : World} {g : Nat} {tl : List Value} {d : List Nat} (h : SI w g tl d W) (k x : Nat) (hk : k < d.length) : SI w g tl (d.set k x) (W.setCell ⟨g, k, none⟩ (cN (x : Int))) := by
  refine ⟨?_, h.os, h.tape, h.output, by simpa using h.size, h.lt, fun j hj hg => (row_otherK h hj hg k x)⟩
  rw [heap_setCell_same W g k _ 3 _ h.row]
  congr 2
  apply Array.toList_inj.1
  simp [ints, List.set_append, hk]
  where
  row_otherK {w W : World} {g : Nat} {tl : List Value} {d : List Nat} (h : SI w g tl d W) {j : Nat} (hj : j < w.heap.size) (hg : j ≠ g) (k x : Nat) : (W.setCell ⟨g, k, none⟩ (cN (x : Int))).heap[j]? = w.heap[j]? :=
    (heap_setCell_other W ⟨g, k, none⟩ j _ hg).trans (h.block j hj hg)
theorem SI.start {w : World} {g : Nat} {tl : List Value} {d : List Nat} (h : w.heap[g]? = some (.cells (ints d ++ tl).toArray 3 (0, 0))) : SI w g tl d w := ⟨h, rfl, rfl, rfl, Nat.le_refl _, lt_of_block h, fun _ _ _ => rfl⟩
/-- An order of indices. -/
structure OrdI (cf : Nat → Nat → Int) : Prop where
  swap : ∀ x y, cf y x = - cf x y
  trans : ∀ x y z, cf x y ≤ 0 → cf y z ≤ 0 → cf x z ≤ 0
def ltI (cf : Nat → Nat → Int) (x y : Nat) : Prop := cf x y < 0 ∨ (cf x y = 0 ∧ x < y)
theorem ltI_trans {cf : Nat → Nat → Int} (h : OrdI cf) (x y z : Nat) (h1 : ltI cf x y) (h2 : ltI cf y z) : ltI cf x z := by
  have a1 : cf x y ≤ 0 := by rcases h1 with h | h <;> omega
  have a2 : cf y z ≤ 0 := by rcases h2 with h | h <;> omega
  have a3 := h.trans _ _ _ a1 a2
  rcases Int.lt_or_eq_of_le a3 with h3 | h3
  · exact .inl h3
  · right
    have s1 := h.swap x y
    have s2 := h.swap y z
    have s3 := h.swap x z
    have b1 := h.trans y z x a2 (by omega)
    have b2 := h.trans z x y (by omega) a1
    refine ⟨h3, ?_⟩
    rcases h1 with h1 | h1 <;> rcases h2 with h2 | h2 <;> omega
theorem ltI_asymm {cf : Nat → Nat → Int} (h : OrdI cf) {x y : Nat} (h1 : ltI cf x y) (h2 : ltI cf y x) : False := by
  have s1 := h.swap x y
  rcases h1 with h1 | h1 <;> rcases h2 with h2 | h2 <;> omega
/-- Behind an element of the left, one of the right comes first just if it is smaller. -/
theorem ltI_of {cf : Nat → Nat → Int} (h : OrdI cf) {x y : Nat} (hxy : x < y) : (cf y x < 0 → ltI cf y x) ∧ (¬ cf y x < 0 → ltI cf x y) := by
  have s := h.swap x y
  refine ⟨fun k => .inl k, fun k => ?_⟩
  rcases Int.lt_or_eq_of_le (show cf x y ≤ 0 by omega) with m | m
  · exact .inl m
  · exact .inr ⟨m, hxy⟩
/-- The comparison, in whatever world the sort passes through. -/
def CmpI (cf : Nat → Nat → Int) (P : Nat → Prop) (w : World) (g : Nat) (tl : List Value) (F1 F2 : Nat) : Prop :=
  ∀ (W : World) (d : List Nat) (x y : Nat), SI w g tl d W → P x → P y → Calls Try.prog 75 #[cN (x : Int), cN (y : Int), .pointer (some ⟨F1, 0, none⟩), .pointer (some ⟨F2, 0, none⟩)] W fun e w' => e = .returned (cN (cf x y)) ∧ Below W.heap.size W w'
def SeI (cf : Nat → Nat → Int) (w : World) (g : Nat) (tl : List Value) (A M C : List Nat) (e : Ending) (w' : World) : Prop :=
  e = .returned (.tuple #[]) ∧ ∃ m, m.Perm M ∧ m.Pairwise (ltI cf) ∧ SI w g tl (A ++ m ++ C) w'
end Go.Proofs.Ytnmlephjhcmbhaa
