/- pathtable.Order: the state of the second loop. -/
import Derived.Test.YtnmlephjhcmbhaaPpr
namespace Go.Proofs.Ytnmlephjhcmbhaa
set_option linter.unusedSimpArgs false
set_option linter.unusedVariables false
open Go Go.RowKit
theorem append_zero (g n cap ty : Nat) (a : Option Addr) (c : Nat) (hn : n ≤ cap) (W : World) : (Builtin.append_ #[33, 33] ty #[.slice (some ⟨g, 0, none⟩) n cap, .slice a 0 c]).run Try.prog W = .ok (.slice (some ⟨g, 0, none⟩) n cap) W := by
  obtain ⟨i0, hi, hz0, hz1, hz2⟩ := info_parts i64Info
  cases a with
  | none =>
    simp [Builtin.append_, run_underlying Try.underlying33, sizeOf, typeInfo, hi, Builtin.lenOf, Builtin.firstCells, loadCells, loadCellsFrom, hn]
    rfl
  | some x =>
    simp [Builtin.append_, run_underlying Try.underlying33, sizeOf, typeInfo, hi, Builtin.lenOf, Builtin.firstCells, loadCells, loadCellsFrom, hn]
    rfl
/-- Two neighbours of one place, among the first i. -/
def dupN (cf : Nat → Nat → Int) (m : List Nat) (i : Nat) : Bool := (List.range' 1 (i - 1)).any fun t => cf (m.getD (t - 1) 0) (m.getD t 0) == 0
theorem dupN_one (cf : Nat → Nat → Int) (m : List Nat) : dupN cf m 1 = false := rfl
theorem dupN_snoc (cf : Nat → Nat → Int) (m : List Nat) (i : Nat) (h : 1 ≤ i) : dupN cf m (i + 1) = (dupN cf m i || (cf (m.getD (i - 1) 0) (m.getD i 0) == 0)) := by
  unfold dupN
  rw [show i + 1 - 1 = i - 1 + 1 by omega, List.range'_1_concat, List.any_append, show 1 + (i - 1) = i by omega]
  simp
theorem dupN_cons (cf : Nat → Nat → Int) (x : Nat) (m : List Nat) : ∀ i, dupN cf (x :: m) (i + 1 + 1) = ((cf x (m.getD 0 0) == 0) || dupN cf m (i + 1))
  | 0 => by rw [dupN_snoc _ _ _ (by omega), dupN_one, dupN_one]; simp
  | i + 1 => by rw [dupN_snoc _ _ _ (by omega), dupN_cons cf x m i, dupN_snoc cf m (i + 1) (by omega), Bool.or_assoc]; congr 2
theorem dupB_N (cf : Nat → Nat → Int) : ∀ m : List Nat, dupB cf m = dupN cf m m.length
  | [] => rfl
  | [x] => rfl
  | x :: y :: l => by
    rw [dupB, dupB_N cf (y :: l)]
    show ((cf x y == 0) || dupN cf (y :: l) (l.length + 1)) = dupN cf (x :: y :: l) (l.length + 1 + 1)
    rw [dupN_cons]
    rfl
structure OSt (w1 : World) (l : List PE) (wide : Bool) (bm : Nat) (D : DataW Value) (vs : Nat → Value) (n k : Nat) (vO : Value) (W : World) : Prop where
  own : W.ownsMap Try.prog 3 RVm bm n D
  ord : W.ownsRow (bm + 1) 3 1 vO (ordF l wide k).1.length (ints (ordF l wide k).1)
  row : ∀ j, j ≤ l.length → (∀ i, i < k → (ordF l wide k).1.getD i 0 + 1 ≠ j) → W.ownsRow (bm + 1) 3 1 (vs j) (kidsM l l.length j).length (ints (kidsM l l.length j))
  apO : ∀ j, j ≤ l.length → (∀ i, i < k → (ordF l wide k).1.getD i 0 + 1 ≠ j) → (vs j).ownBlock = none ∨ (vs j).ownBlock ≠ vO.ownBlock
  bel : Below w1.heap.size w1 W
  ge : w1.heap.size ≤ bm
theorem OSt.start {w1 : World} {l : List PE} {wide : Bool} {b n k : Nat} {D : DataW Value} {vs : Nat → Value} {W : World} (h : KS w1 l b D vs n k W) (hk : k + 1 = l.length) : OSt w1 l wide b D vs n 0 (.slice (some ⟨W.heap.size, 0, none⟩) 1 1) (W.alloc (.cells #[cN 0] 3)) := by
  have hlt := h.own.lt
  refine ⟨h.own.alloc _, ⟨rfl, .inr ⟨W.heap.size, 1, _, rfl, hlt, World.alloc_heap_new _ _, Nat.le_refl _, by unfold maxLen; omega, rfl, rfl⟩⟩, fun j hj _ => ?_, fun j hj _ => ?_, bald h.bel _, h.ge⟩
  · have := (h.row j hj).alloc (.cells #[cN 0] 3)
    rw [hk] at this
    exact this
  · cases hv : (vs j).ownBlock with
    | none => exact .inl rfl
    | some q =>
      right
      have := ((h.row j hj).lt q hv).2
      simp [Value.ownBlock]
      omega
theorem ordF_next {l : List PE} {wide : Bool} {k : Nat} (h : k < (ordF l wide k).1.length) : ordF l wide (k + 1) = ((ordF l wide k).1 ++ srtI (cfP l wide) (kidsM l l.length ((ordF l wide k).1.getD k 0 + 1)), (ordF l wide k).2 || dupB (cfP l wide) (srtI (cfP l wide) (kidsM l l.length ((ordF l wide k).1.getD k 0 + 1)))) := by
  rw [ordF]
  simp only [h, if_true]
theorem OSt.skip {w1 : World} {l : List PE} {wide : Bool} {bm n k : Nat} {D : DataW Value} {vs : Nat → Value} {vO : Value} {W : World} (h : OSt w1 l wide bm D vs n k vO W) (hk : k < (ordF l wide k).1.length) (hz : kidsM l l.length ((ordF l wide k).1.getD k 0 + 1) = []) :
    OSt w1 l wide bm D vs n (k + 1) vO W ∧ (ordF l wide (k + 1)).2 = (ordF l wide k).2 ∧ k + 1 ≤ (ordF l wide (k + 1)).1.length := by
  have e := ordF_next hk
  rw [hz] at e
  have e1 : (ordF l wide (k + 1)).1 = (ordF l wide k).1 := by rw [e]; simp [srtI]
  have e2 : (ordF l wide (k + 1)).2 = (ordF l wide k).2 := by rw [e]; simp [srtI, dupB]
  refine ⟨⟨h.own, by rw [e1]; exact h.ord, fun j hj hn => ?_, fun j hj hn => ?_, h.bel, h.ge⟩, e2, by rw [e1]; omega⟩
  · rw [e1] at hn
    exact h.row j hj fun i hi => hn i (by omega)
  · rw [e1] at hn
    exact h.apO j hj fun i hi => hn i (by omega)
/-- The row of those below, found. -/
theorem OSt.fresh {l : List PE} {wide : Bool} {k : Nat} (hO : OrdS l k (ordF l wide k).1) (hk : k < (ordF l wide k).1.length) : ∀ i, i < k → (ordF l wide k).1.getD i 0 + 1 ≠ (ordF l wide k).1.getD k 0 + 1 := fun i hi e => by
  have h9 : ∀ i j (hi : i < (ordF l wide k).1.length) (hj : j < (ordF l wide k).1.length), i < j → (ordF l wide k).1[i] ≠ (ordF l wide k).1[j] := fun i j hi hj hij => List.pairwise_iff_getElem.1 hO.nd i j hi hj hij
  refine h9 i k (by omega) hk hi ?_
  rw [List.getD_eq_getElem?_getD, List.getD_eq_getElem?_getD, List.getElem?_eq_getElem (by omega), List.getElem?_eq_getElem hk, Option.getD_some, Option.getD_some] at e
  omega
theorem OSt.ordAt {w1 : World} {l : List PE} {wide : Bool} {bm n k : Nat} {D : DataW Value} {vs : Nat → Value} {vO : Value} {W W2 W3 : World} {g : Nat} {tl : List Value} {m : List Nat} (h : OSt w1 l wide bm D vs n k vO W) (hne : vO.ownBlock ≠ some g) (hS : SI W g tl m W2) (hB3 : Below W2.heap.size W2 W3) :
    W3.ownsRow (bm + 1) 3 1 vO (ordF l wide k).1.length (ints (ordF l wide k).1) := by
  refine own_keep ⟨h.ord.1, ?_⟩ hB3
  rcases h.ord.2 with hn | ⟨q, cap, cur, rfl, hb, hgg, rest⟩
  · exact .inl hn
  · exact .inr ⟨q, cap, cur, rfl, hb, (hS.block q (lt_of_block hgg) (fun e => hne (by rw [e]; rfl))).trans hgg, rest⟩
/-- Behind the sort of a row, and its append to the order. -/
theorem OSt.next {w1 : World} {l : List PE} {wide : Bool} {bm n k : Nat} {D : DataW Value} {vs : Nat → Value} {vO v' : Value} {W W2 W3 W4 : World} {g : Nat} {tl : List Value} {m : List Nat} (h : OSt w1 l wide bm D vs n k vO W)
    (hap : ∀ i j, i ≤ l.length → j ≤ l.length → i ≠ j → (vs i).ownBlock = none ∨ (vs i).ownBlock ≠ (vs j).ownBlock)
    (hO : OrdS l k (ordF l wide k).1) (hk : k < (ordF l wide k).1.length) (hm : m = srtI (cfP l wide) (kidsM l l.length ((ordF l wide k).1.getD k 0 + 1))) (hg : (vs ((ordF l wide k).1.getD k 0 + 1)).ownBlock = some g) (hgb : bm + 1 ≤ g) (hjl : (ordF l wide k).1.getD k 0 + 1 ≤ l.length)
    (hS : SI W g tl m W2) (hB3 : Below W2.heap.size W2 W3) (ho : W4.ownsRow (bm + 1) 3 1 v' ((ordF l wide k).1.length + m.length) (ints (ordF l wide k).1 ++ ints m)) (hg4 : W3.grownBy W4 vO.ownBlock) (hloc : v'.ownBlock = vO.ownBlock ∨ v'.ownBlock = some W3.heap.size) :
    OSt w1 l wide bm D vs n (k + 1) v' W4 := by
  have e := ordF_next hk
  rw [← hm] at e
  have e1 : (ordF l wide (k + 1)).1 = (ordF l wide k).1 ++ m := by rw [e]
  have hkeep : ∀ (v : Value) (c : Nat) (xs : List Value), v.ownBlock ≠ some g → W.ownsRow (bm + 1) 3 1 v c xs → W3.ownsRow (bm + 1) 3 1 v c xs := fun v c xs hne hr => by
    refine own_keep ⟨hr.1, ?_⟩ hB3
    rcases hr.2 with hn | ⟨q, cap, cur, rfl, hb, hgg, rest⟩
    · exact .inl hn
    · exact .inr ⟨q, cap, cur, rfl, hb, (hS.block q (lt_of_block hgg) (fun e => hne (by rw [e]; rfl))).trans hgg, rest⟩
  have hsz : W.heap.size ≤ W3.heap.size := Nat.le_trans hS.size hB3.size
  have hvO : vO.ownBlock ≠ some bm := ne_of_base h.ord (Nat.lt_succ_self _)
  have hnot : ∀ j, j ≤ l.length → (∀ i, i < k + 1 → (ordF l wide (k + 1)).1.getD i 0 + 1 ≠ j) → j ≠ (ordF l wide k).1.getD k 0 + 1 ∧ ∀ i, i < k → (ordF l wide k).1.getD i 0 + 1 ≠ j := fun j hj hn => by
    refine ⟨fun e2 => ?_, fun i hi => ?_⟩
    · have := hn k (by omega)
      rw [e1, getD_app hk] at this
      exact this e2.symm
    · have := hn i (by omega)
      rw [e1, getD_app (by omega)] at this
      exact this
  have hrow : ∀ j, j ≤ l.length → (∀ i, i < k + 1 → (ordF l wide (k + 1)).1.getD i 0 + 1 ≠ j) → W3.ownsRow (bm + 1) 3 1 (vs j) (kidsM l l.length j).length (ints (kidsM l l.length j)) := fun j hj hn => by
    obtain ⟨h1, h2⟩ := hnot j hj hn
    refine hkeep _ _ _ ?_ (h.row j hj h2)
    rcases hap j _ hj hjl h1 with k | k
    · rw [k]; simp
    · rw [hg] at k; exact k
  refine ⟨?_, ?_, fun j hj hn => ?_, fun j hj hn => ?_, ?_, h.ge⟩
  · obtain ⟨es, clock, hb, rest⟩ := h.own
    have hbm := lt_of_block hb
    have k2 : W2.heap[bm]? = some (.map es clock) := (hS.block bm hbm (by omega)).trans hb
    have k3 := (hB3.block bm (lt_of_block k2)).trans k2
    exact ⟨es, clock, (hg4.block bm (lt_of_block k3) (fun e => hvO e.symm)).trans k3, rest⟩
  · rw [e1, List.length_append, show ints ((ordF l wide k).1 ++ m) = ints (ordF l wide k).1 ++ ints m by simp [ints]]
    exact ho
  · refine (hrow j hj hn).kept hg4 ?_
    exact h.apO j hj (hnot j hj hn).2
  · rcases hloc with e2 | e2
    · rw [e2]; exact h.apO j hj (hnot j hj hn).2
    · cases hv : (vs j).ownBlock with
      | none => exact .inl rfl
      | some q =>
        right
        rw [e2]
        intro k2
        simp only [Option.some.injEq] at k2
        have := ((hrow j hj hn).lt q hv).2
        omega
  · have hb2 : Below w1.heap.size w1 W2 := hS.out h.bel (by have := h.ge; omega)
    have hb3 : Below w1.heap.size w1 W3 := hb2.trans (hB3.mono hb2.size)
    refine hb3.grown hg4 hb3.size fun q e => ?_
    have := (h.ord.lt q e).1
    have := h.ge
    omega
end Go.Proofs.Ytnmlephjhcmbhaa
