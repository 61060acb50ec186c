/- pathtable.Order: what comes out. -/
import Derived.Test.YtnmlephjhcmbhaaPps
namespace Go.Proofs.Ytnmlephjhcmbhaa
set_option linter.unusedSimpArgs false
set_option linter.unusedVariables false
open Go Go.RowKit
/-- The numbers, where k of the order are written; the entries. -/
def numK (o : List Nat) (n : Nat) : Nat → List Nat
  | 0 => List.replicate n 0
  | k + 1 => (numK o n k).set (o.getD k 0) (k + 1)
def entK (l : List PE) (o : List Nat) (n k : Nat) : PE :=
  ⟨(l.getD (o.getD k 0) peD).id, (l.getD (o.getD k 0) peD).lba, (((numK o n (k + 1)).getD ((l.getD (o.getD k 0) peD).par.toNat - 1) 0 : Nat) : Int)⟩
def outK (l : List PE) (o : List Nat) (n : Nat) : Nat → List PE
  | 0 => []
  | k + 1 => outK l o n k ++ [entK l o n k]
theorem numK_len (o : List Nat) (n : Nat) : ∀ k, (numK o n k).length = n
  | 0 => by simp [numK]
  | k + 1 => by rw [numK, List.length_set, numK_len o n k]
theorem outK_len (l : List PE) (o : List Nat) (n : Nat) : ∀ k, (outK l o n k).length = k
  | 0 => rfl
  | k + 1 => by rw [outK, List.length_append, outK_len l o n k]; rfl
theorem ordF_stable (l : List PE) (wide : Bool) (q : Nat) (h : ¬ q < (ordF l wide q).1.length) : ∀ d, ordF l wide (q + d) = ordF l wide q
  | 0 => rfl
  | d + 1 => by
    have ih := ordF_stable l wide q h d
    rw [show q + (d + 1) = q + d + 1 by omega, ordF, ih]
    simp only [show ¬ q + d < (ordF l wide q).1.length by omega, if_false]
theorem own_other {W W' : World} {B e s n : Nat} {v : Value} {xs : List Value} (h : W.ownsRow B e s v n xs) (hb : ∀ q cs, v.ownBlock = some q → W.heap[q]? = some (.cells cs e (0, 0)) → W'.heap[q]? = some (.cells cs e (0, 0))) : W'.ownsRow B e s v n xs := by
  refine ⟨h.1, ?_⟩
  rcases h.2 with hn | ⟨q, cap, cur, rfl, hbq, hgg, rest⟩
  · exact .inl hn
  · exact .inr ⟨q, cap, cur, rfl, hbq, hb q cur rfl hgg, rest⟩
theorem half_zero (n : Nat) (v : Int) : half n 0 v = ints (List.replicate n 0) := by simp [half, ints]
theorem ints_set (l : List Nat) (i x : Nat) : (ints l).toArray.setIfInBounds i (cN (x : Int)) = (ints (l.set i x)).toArray := by
  apply Array.toList_inj.1
  simp [ints, List.map_set]
/-- The state of the last loop. -/
structure FSt (w w1 : World) (l : List PE) (o : List Nat) (G gO : Nat) (curO : Array Value) (k : Nat) (v : Value) (W : World) : Prop where
  num : W.heap[G]? = some (.cells (ints (numK o l.length k)).toArray 3 (0, 0))
  ord : W.heap[gO]? = some (.cells curO 3 (0, 0))
  out : W.ownsRow w.heap.size 63 3 v k (flatE (outK l o l.length k))
  bel : Below w1.heap.size w1 W
  vge : ∀ q, v.ownBlock = some q → w1.heap.size ≤ q
theorem FSt.cellO {w w1 : World} {l : List PE} {o : List Nat} {G gO k : Nat} {curO : Array Value} {v : Value} {W : World} (h : FSt w w1 l o G gO curO k v W) (ht : curO.toList.take o.length = ints o) (j : Nat) (hj : j < o.length) : W.cell? ⟨gO, j, none⟩ = some (cN ((o.getD j 0 : Nat) : Int)) := by
  rw [Lib.cell_of_heap h.ord]
  have h1 : (curO.toList.take o.length)[j]? = curO[j]? := by rw [List.getElem?_take_of_lt hj, Array.getElem?_toList]
  rw [← h1, ht]
  simp [ints, List.getD_eq_getElem?_getD, hj]
/-- A number written. -/
theorem FSt.set1 {w w1 : World} {l : List PE} {o : List Nat} {G gO k : Nat} {curO : Array Value} {v : Value} {W : World} (h : FSt w w1 l o G gO curO k v W) (hG : w1.heap.size ≤ G) (hne : gO ≠ G) (i : Nat) (hi : o.getD k 0 = i) :
    (W.setCell ⟨G, i, none⟩ (cN ((k : Int) + 1))).heap[G]? = some (.cells (ints (numK o l.length (k + 1))).toArray 3 (0, 0)) ∧ (W.setCell ⟨G, i, none⟩ (cN ((k : Int) + 1))).heap[gO]? = some (.cells curO 3 (0, 0)) ∧
      (W.setCell ⟨G, i, none⟩ (cN ((k : Int) + 1))).ownsRow w.heap.size 63 3 v k (flatE (outK l o l.length k)) ∧ Below w1.heap.size w1 (W.setCell ⟨G, i, none⟩ (cN ((k : Int) + 1))) := by
  refine ⟨?_, ?_, ?_, h.bel.setCell (p := ⟨G, i, none⟩) hG _⟩
  · have := row_set i (cN ((k : Int) + 1)) h.num
    rw [show cN ((k : Int) + 1) = cN ((k + 1 : Nat) : Int) from rfl, ints_set, ← hi] at this
    rw [← hi]
    exact this
  · rw [row_far _ _ _ _ hne]; exact h.ord
  · refine own_other h.out fun q cs e hq => ?_
    have hqG : q ≠ G := fun e2 => by
      subst e2
      rw [h.num] at hq
      simp at hq
    rw [row_far _ _ _ _ hqG]
    exact hq
theorem numK_cell {W : World} {o : List Nat} {G n k : Nat} (h : W.heap[G]? = some (.cells (ints (numK o n k)).toArray 3 (0, 0))) (j : Nat) (hj : j < n) : W.cell? ⟨G, j, none⟩ = some (cN (((numK o n k).getD j 0 : Nat) : Int)) := by
  rw [Lib.cell_of_heap h]
  have := numK_len o n k
  simp [ints, List.getD_eq_getElem?_getD, show j < (numK o n k).length by omega]
theorem ne_type {W : World} {B e sz n q t : Nat} {v : Value} {xs : List Value} {cs : Array Value} (h : W.ownsRow B e sz v n xs) (hx : W.heap[q]? = some (.cells cs t (0, 0))) (ht : e ≠ t) : some q ≠ v.ownBlock := fun k => by
  rcases h.2 with ⟨rfl, -⟩ | ⟨g, cap, cur, rfl, hbg, hgg, -⟩
  · simp [Value.ownBlock] at k
  · simp [Value.ownBlock] at k
    subst k
    rw [hgg] at hx
    simp only [Option.some.injEq, Obj.cells.injEq] at hx
    exact ht hx.2.1
theorem FSt.next {w w1 : World} {l : List PE} {o : List Nat} {G gO k : Nat} {curO : Array Value} {v v' : Value} {W1 W2 : World} {o1 o2 : Obj} {x : PE} {nv : Nat} (hent : entK l o l.length k = ⟨x.id, x.lba, (nv : Int)⟩)
    (h : W1.heap[G]? = some (.cells (ints (numK o l.length (k + 1))).toArray 3 (0, 0)) ∧ W1.heap[gO]? = some (.cells curO 3 (0, 0)) ∧ W1.ownsRow w.heap.size 63 3 v k (flatE (outK l o l.length k)) ∧ Below w1.heap.size w1 W1) (hw : w.heap.size ≤ w1.heap.size)
    (ho : W2.ownsRow w.heap.size 63 3 v' (k + 1) (flatE (outK l o l.length k) ++ [.string x.id, cN x.lba, cN (nv : Int)])) (hg : ((W1.alloc o1).alloc o2).grownBy W2 v.ownBlock) (hvb : ∀ q, v.ownBlock = some q → w1.heap.size ≤ q) (hvb' : ∀ q, v'.ownBlock = some q → w1.heap.size ≤ q) : FSt w w1 l o G gO curO (k + 1) v' W2 := by
  obtain ⟨n1, r1, u1, b1⟩ := h
  have keep : ∀ (q : Nat) (cs : Array Value) (t : TypeId), W1.heap[q]? = some (.cells cs t (0, 0)) → 63 ≠ t → W2.heap[q]? = some (.cells cs t (0, 0)) := fun q cs t hq ht => by
    have hl := lt_of_block hq
    exact (hg.block q (by simp; omega) (ne_type u1 hq ht)).trans ((Lib.alloc_old _ _ _ (by simp; omega)).trans ((Lib.alloc_old _ _ _ hl).trans hq))
  refine ⟨keep _ _ _ n1 (show (63 : Nat) ≠ 3 by decide), keep _ _ _ r1 (show (63 : Nat) ≠ 3 by decide), ?_, ?_, ?_⟩
  · rw [outK, flatE_append, flatE_one, hent]
    exact ho
  · exact (bald (bald b1 o1) o2).grown hg (by have := b1.size; simp; omega) hvb
  · exact hvb'
theorem FSt.nums {w w1 : World} {l : List PE} {o : List Nat} {G gO : Nat} {curO : Array Value} {v : Value} {W : World} (h : FSt w w1 l o G gO curO l.length v W) (hG : w.heap.size ≤ G) (hl : l.length ≤ 2000) : W.ownsRow w.heap.size 3 1 (.slice (some ⟨G, 0, none⟩) l.length l.length) l.length (ints (numK o l.length l.length)) := by
  have hn := numK_len o l.length l.length
  refine ⟨by rw [ints_len, hn, Nat.mul_one], .inr ⟨G, l.length, _, rfl, hG, h.num, Nat.le_refl _, by unfold maxLen; omega, by simp [ints, hn], ?_⟩⟩
  rw [List.toList_toArray]
  exact List.take_of_length_le (by rw [ints_len, hn]; omega)
def ordO (l : List PE) (wide : Bool) : List Nat := (ordF l wide l.length).1
def OrdEnd (w : World) (l : List PE) (wide : Bool) (e : Ending) (w' : World) : Prop := ∃ v u, e = .returned (.tuple #[v, u, cN 0]) ∧ w'.ownsRow w.heap.size 63 3 v l.length (flatE (outK l (ordO l wide) l.length l.length)) ∧
  w'.ownsRow w.heap.size 3 1 u l.length (ints (numK (ordO l wide) l.length l.length)) ∧ Below w.heap.size w w'
structure OrdFin (l : List PE) (wide : Bool) : Prop where
  full : (ordO l wide).length = l.length
  dup : (ordF l wide l.length).2 = false
  blk : l.any (fun x => !decide (BlockP x.lba)) = false
end Go.Proofs.Ytnmlephjhcmbhaa
