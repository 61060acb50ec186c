/- slices.insertionSortCmpFunc of records. -/
import Derived.Test.YtnmlephjhcmbhaaGreatDko
import Derived.Deep.MidRow
namespace Go.Proofs.YtnmlephjhcmbhaaGreat
set_option linter.unusedSimpArgs false
set_option linter.unusedVariables false
open Go Go.RowKit
/-- The row g holds the records d, and tl behind them; all other blocks below are as they were. -/
structure SR (w : World) (g : Nat) (tl : List Value) (d : List Rec) (W : World) : Prop where
  row : W.heap[g]? = some (.cells (flatR d ++ tl).toArray 45 (0, 0))
  os : W.os = w.os
  tape : W.tape = w.tape
  output : W.output = w.output
  size : w.heap.size ≤ W.heap.size
  lt : g < w.heap.size
  block : ∀ k, k < w.heap.size → k ≠ g → W.heap[k]? = w.heap[k]?
theorem SR.below {w W W' : World} {g : Nat} {tl : List Value} {d : List Rec} (h : SR w g tl d W) (b : Below W.heap.size W W') : SR w g tl d W' :=
  ⟨(b.block _ (lt_of_block h.row)).trans h.row, b.os.trans h.os, b.tape.trans h.tape, b.output.trans h.output, Nat.le_trans h.size b.size, h.lt, fun k hk hg => (b.block k (Nat.lt_of_lt_of_le hk h.size)).trans (h.block k hk hg)⟩
theorem SR.drew {w W : World} {g : Nat} {tl : List Value} {d : List Rec} (h : SR w g tl d W) : SR w g tl d W.drew := ⟨h.row, h.os, h.tape, h.output, h.size, h.lt, h.block⟩
theorem SR.setRow {w W : World} {g : Nat} {tl : List Value} {d d' : List Rec} {cs : Array Value} (h : SR w g tl d W) (hc : cs = (flatR d' ++ tl).toArray) : SR w g tl d' (W.setRow g cs) := by
  subst hc
  exact ⟨setRow_heap W g _ _ 45 (0, 0) h.row, h.os, h.tape, h.output, by simpa [World.setRow] using h.size, h.lt, fun k hk hg => (setRow_other W g k _ hg).trans (h.block k hk hg)⟩
theorem SR.out {w W : World} {g : Nat} {tl : List Value} {d : List Rec} {B : Nat} (h : SR w g tl d W) {w0 : World} (hB : Below B w0 w) (hg : B ≤ g) : Below B w0 W :=
  hB.trans ⟨h.os, h.tape, h.output, h.size, fun k hk => h.block k (by have := h.lt; omega) (by omega)⟩
theorem SR.cells {w W : World} {g : Nat} {tl : List Value} {d : List Rec} (h : SR w g tl d W) (k : Nat) (hk : k < d.length) : CellsR W g (k * 8) (d.getD k recD) :=
  CellsR_of fun i hi => by
    rw [Lib.cell_of_heap h.row, List.getElem?_toArray, List.getElem?_append_left (by rw [flatR_len]; omega), flatR_get d k i hk hi]
/-- The 8 cells of a record, stored. -/
theorem SR.store {w W : World} {g : Nat} {tl : List Value} {L M : List Rec} {x y : Rec} (h : SR w g tl (L ++ y :: M) W) (o : Nat) (ho : o = L.length * 8) :
    ∃ W', (storeCells ⟨g, o, none⟩ (recA x).toList 0).run Tryz.prog W = .ok () W' ∧ SR w g tl (L ++ x :: M) W' := by
  subst ho
  have hlen : (flatR (L ++ y :: M)).length = (L.length + (M.length + 1)) * 8 := by rw [flatR_len]; simp
  have hr := run_storeCells_at Tryz.prog g (L.length * 8) 45 (recA x).toList 0 _ W h.row (by simp [hlen]; omega) (by
    intro v hv
    simp at hv
    rcases hv with rfl | rfl | rfl | rfl | rfl | rfl | rfl | rfl <;> rfl)
  refine ⟨_, hr, h.setRow ?_⟩
  congr 1
  have e1 : flatR (L ++ y :: M) = flatR L ++ ((recA y).toList ++ flatR M) := by rw [flatR_append]; rfl
  have e2 : flatR (L ++ x :: M) = flatR L ++ ((recA x).toList ++ flatR M) := by rw [flatR_append]; rfl
  have hl := flatR_len L
  rw [List.toList_toArray, e1, e2, Nat.add_zero, ← hl]
  simp
def recsT (d : List TR) : List Rec := d.map Prod.fst
theorem recsT_app (a b : List TR) : recsT (a ++ b) = recsT a ++ recsT b := by simp [recsT]
def InsEnd (cf : Rec → Rec → Int) (w : World) (g : Nat) (tl : List Value) (A M C : List TR) (e : Ending) (w' : World) : Prop :=
  e = .returned (.tuple #[]) ∧ ∃ m, m.Perm M ∧ m.Pairwise (ltT cf) ∧ SR w g tl (recsT (A ++ m ++ C)) w'
/-- The comparison, in whatever world the sort passes through. -/
def CmpC (cf : Rec → Rec → Int) (P : Rec → Prop) (w : World) (g : Nat) (tl : List Value) (Fb : Nat) : Prop :=
  ∀ (W : World) (d : List Rec) (x y : Rec), SR w g tl d W → P x → P y → Calls Tryz.prog 46 #[.agg (recA x), .agg (recA y), .pointer (some ⟨Fb, 0, none⟩)] W fun e w' => e = .returned (cN (cf x y)) ∧ Below W.heap.size W w'
/-- The state of the outer loop. -/
def InsO (cf : Rec → Rec → Int) (w : World) (g : Nat) (tl : List Value) (A M C : List TR) (i : Nat) (W : World) : Prop :=
  ∃ M1 M2 m1, M = M1 ++ M2 ∧ i = A.length + M1.length ∧ m1.Perm M1 ∧ m1.Pairwise (ltT cf) ∧ SR w g tl (recsT (A ++ m1 ++ (M2 ++ C))) W
/-- The state of the inner loop. -/
def InsI (cf : Rec → Rec → Int) (w : World) (g : Nat) (tl : List Value) (A m1 : List TR) (x : TR) (D : List TR) (j : Nat) (W : World) : Prop :=
  ∃ p1 p2, m1 = p1 ++ p2 ∧ j = A.length + p1.length ∧ (∀ y ∈ p2, cf x.1 y.1 < 0) ∧ SR w g tl (recsT (A ++ p1 ++ (x :: p2 ++ D))) W
theorem InsO.next {cf : Rec → Rec → Int} (h : CmpOk cf) {w : World} {g : Nat} {tl : List Value} {A M1 M2 C m1 p1 p2 : List TR} {x : TR} {W : World} (ht : (M1 ++ x :: M2).Pairwise (fun a b => a.2 < b.2)) (hp : m1.Perm M1) (hs : m1.Pairwise (ltT cf))
    (e : m1 = p1 ++ p2) (h2 : ∀ y ∈ p2, cf x.1 y.1 < 0) (h1 : ∀ y, p1.getLast? = some y → ¬ cf x.1 y.1 < 0) (hS : SR w g tl (recsT (A ++ p1 ++ (x :: p2 ++ (M2 ++ C)))) W) :
    InsO cf w g tl A (M1 ++ x :: M2) C (A.length + M1.length + 1) W := by
  subst e
  refine ⟨M1 ++ [x], M2, p1 ++ x :: p2, by simp, by simp; omega, ?_, ins_stop h hs ?_ h2 h1, ?_⟩
  · have e1 : (p1 ++ x :: p2).Perm (x :: (p1 ++ p2)) := List.perm_middle
    have e2 : (x :: (p1 ++ p2)).Perm (x :: M1) := hp.cons x
    exact (e1.trans e2).trans (List.perm_append_comm (l₁ := [x]) (l₂ := M1))
  · intro y hy
    rw [List.pairwise_append] at ht
    exact ht.2.2 y (hp.subset hy) x (by simp)
  · have e1 : A ++ p1 ++ (x :: p2 ++ (M2 ++ C)) = A ++ (p1 ++ x :: p2) ++ (M2 ++ C) := by simp
    rw [← e1]; exact hS
theorem InsI.start {cf : Rec → Rec → Int} {w : World} {g : Nat} {tl : List Value} {A m1 M2 C : List TR} {x : TR} {W : World} (hS : SR w g tl (recsT (A ++ m1 ++ (x :: M2 ++ C))) W) (n : Nat) (hn : n = m1.length) :
    InsI cf w g tl A m1 x (M2 ++ C) (A.length + n) W := ⟨m1, [], by simp, by omega, by simp, by simpa using hS⟩
theorem recA_one (x : Rec) : ∀ v ∈ (recA x).toList, v.oneCell' = true := by
  intro v hv
  simp at hv
  rcases hv with rfl | rfl | rfl | rfl | rfl | rfl | rfl | rfl <;> rfl
theorem SR.there {w W : World} {g : Nat} {tl : List Value} {d : List Rec} (h : SR w g tl d W) (k : Nat) (hk : k < d.length) : W.there g (k * 8) 8 := fun j hj => by
  refine ⟨?_, Lib.frozen_of_heap h.row _⟩
  rw [Lib.cell_of_heap h.row, List.getElem?_toArray, List.getElem?_append_left (by rw [flatR_len]; omega), List.getElem?_eq_getElem (by rw [flatR_len]; omega)]
  rfl
theorem SR.put {w W : World} {g : Nat} {tl : List Value} {L M : List Rec} {x y : Rec} (h : SR w g tl (L ++ y :: M) W) (k : Nat) (hk : k = L.length) : SR w g tl (L ++ x :: M) (W.setCells g (k * 8) (recA x).toList) := by
  obtain ⟨W', h1, h2⟩ := h.store (x := x) (k * 8) (by omega)
  have ht := h.there k (by simp; omega)
  have h3 := run_storeCells_cells (P := Tryz.prog) g (k * 8) (recA x).toList 0 W (fun j hj => by simpa using (ht j (by simpa using hj)).1) (fun j hj => by simpa using (ht j (by simpa using hj)).2) (recA_one x)
  rw [h1] at h3
  simp only [Result.ok.injEq, Nat.add_zero, true_and] at h3
  rw [← h3]
  exact h2
theorem recSize : (Tryz.prog.info? 45).map (·.size) = some 8 := by kernel_rfl
theorem recOne (x : Rec) : (recA x).all (·.oneCell') = true := Array.all_eq_true_iff_forall_mem.2 (fun v hv => recA_one x v (by simpa using hv))
theorem recsT_get (L M : List TR) (x : TR) (k : Nat) (hk : k = L.length) : (recsT (L ++ x :: M)).getD k recD = x.1 := by
  subst hk
  simp [recsT, List.getD_eq_getElem?_getD]
theorem recsT_len (L : List TR) : (recsT L).length = L.length := by simp [recsT]
end Go.Proofs.YtnmlephjhcmbhaaGreat
