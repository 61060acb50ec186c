/- Sparing tables: slices.DeleteFunc at the entries of a packet, on a row of the call's own. -/
import Derived.Test.YtocncjimepnlcaaGreatDoorSpe
namespace Go.Proofs.YtocncjimepnlcaaGreatDoor
set_option linter.unusedSimpArgs false
set_option linter.unusedVariables false
open Go Go.RowKit
theorem flat_set : ∀ (l : List Sp) (tl : List Value) (i : Nat) (x : Sp), i < l.length → (((flat l ++ tl).set (i * 2) (cN x.1)).set (i * 2 + 1) (cN x.2)) = flat (l.set i x) ++ tl
  | [], _, _, _, h => by simp at h
  | y :: l, tl, 0, x, _ => rfl
  | y :: l, tl, i + 1, x, h => by
    have := flat_set l tl i x (by simpa using h)
    have e1 : (i + 1) * 2 = i * 2 + 1 + 1 := by omega
    have e2 : (i + 1) * 2 + 1 = i * 2 + 1 + 1 + 1 := by omega
    rw [e2, e1]
    show cN y.1 :: cN y.2 :: (((flat l ++ tl).set (i * 2) (cN x.1)).set (i * 2 + 1) (cN x.2)) = _
    rw [this]
    rfl
/-- A row of the call's own, told cell by cell: its first entries are c. -/
def Own (W : World) (g cap : Nat) (c : List Sp) : Prop := ∃ cur : Array Value, W.heap[g]? = some (.cells cur 54 (0, 0)) ∧ cur.size = cap * 2 ∧ c.length ≤ cap ∧ cur.toList.take (c.length * 2) = flat c
theorem Own.row {W : World} {g cap : Nat} {c : List Sp} (h : Own W g cap c) : Row W g 0 c := by
  obtain ⟨cur, hg, hcs, hnc, htake⟩ := h
  intro i hi
  have hf := flat_get c i hi
  rw [← htake] at hf
  rw [List.getElem?_take_of_lt (by omega), List.getElem?_take_of_lt (by omega)] at hf
  rw [Lib.cell_of_heap hg, Lib.cell_of_heap hg, Nat.zero_add]
  rw [Array.getElem?_toList, Array.getElem?_toList] at hf
  exact hf
theorem Own.lt {W : World} {g cap : Nat} {c : List Sp} (h : Own W g cap c) : g < W.heap.size := by
  obtain ⟨cur, hg, -⟩ := h
  exact lt_of_block hg
theorem Own.keep {W W' : World} {g cap : Nat} {c : List Sp} (h : Own W g cap c) (k : Below W.heap.size W W') : Own W' g cap c := by
  obtain ⟨cur, hg, rest⟩ := h
  exact ⟨cur, (k.block _ (lt_of_block hg)).trans hg, rest⟩
theorem Own.frozen {W : World} {g cap : Nat} {c : List Sp} (h : Own W g cap c) (i : Nat) : W.frozen? ⟨g, i, none⟩ = false := by
  obtain ⟨cur, hg, -⟩ := h
  exact Lib.frozen_of_heap hg i
theorem take_set_ge (l : List Value) (p i : Nat) (v : Value) (h : p ≤ i) : (l.set i v).take p = l.take p := by
  apply List.ext_getElem?
  intro k
  by_cases hk : k < p
  · rw [List.getElem?_take_of_lt hk, List.getElem?_take_of_lt hk, List.getElem?_set_ne (by omega)]
  · rw [List.getElem?_eq_none (by rw [List.length_take]; omega), List.getElem?_eq_none (by rw [List.length_take]; omega)]
/-- Two stores: an entry. -/
theorem Own.set {W : World} {g cap : Nat} {c : List Sp} (h : Own W g cap c) (i : Nat) (x : Sp) (hi : i < c.length) :
    Own ((W.setCell ⟨g, i * 2, none⟩ (cN x.1)).setCell ⟨g, i * 2 + 1, none⟩ (cN x.2)) g cap (c.set i x) ∧ Fr W ((W.setCell ⟨g, i * 2, none⟩ (cN x.1)).setCell ⟨g, i * 2 + 1, none⟩ (cN x.2)) := by
  obtain ⟨cur, hg, hcs, hnc, htake⟩ := h
  have h1 := row_set (i * 2) (cN x.1) hg
  have h2 := row_set (i * 2 + 1) (cN x.2) h1
  refine ⟨⟨_, h2, by simp only [Array.size_setIfInBounds]; exact hcs, by rw [List.length_set]; exact hnc, ?_⟩, (Fr.set hg).trans (Fr.set h1)⟩
  rw [Array.toList_setIfInBounds, Array.toList_setIfInBounds, List.length_set]
  have hsp : cur.toList = flat c ++ cur.toList.drop (c.length * 2) := by
    rw [← htake, List.take_append_drop]
  rw [hsp, flat_set c _ i x hi, List.take_left']
  rw [flat_len, List.length_set]
theorem Own.take {W : World} {g cap : Nat} {c : List Sp} (h : Own W g cap c) (i : Nat) (hi : i ≤ c.length) : Own W g cap (c.take i) := by
  obtain ⟨cur, hg, hcs, hnc, htake⟩ := h
  refine ⟨cur, hg, hcs, by rw [List.length_take]; omega, ?_⟩
  rw [List.length_take, Nat.min_eq_left hi]
  have : (cur.toList.take (c.length * 2)).take (i * 2) = (flat c).take (i * 2) := by rw [htake]
  rw [List.take_take, Nat.min_eq_left (by omega)] at this
  rw [this]
  have e : flat c = flat (c.take i) ++ flat (c.drop i) := by rw [← flat_append, List.take_append_drop]
  rw [e, List.take_left']
  rw [flat_len, List.length_take, Nat.min_eq_left hi]
theorem cutGo {g cap : Nat} {c : List Sp} : ∀ {W : World} (_ : Own W g cap c) (vs : List Value) (o : Nat), c.length * 2 ≤ o → Own (W.setCells g o vs) g cap c ∧ Fr W (W.setCells g o vs) ∧ ∀ B, B ≤ g → Below B W (W.setCells g o vs)
  | W, h, [], o, ho => ⟨h, Fr.refl _, fun B hB => Below.refl _ _⟩
  | W, h, v :: vs, o, ho => by
    have h' : Own (W.setCell ⟨g, o, none⟩ v) g cap c ∧ Fr W (W.setCell ⟨g, o, none⟩ v) := by
      obtain ⟨cur, hg, hcs, hnc, htake⟩ := h
      refine ⟨⟨_, row_set o v hg, by simp only [Array.size_setIfInBounds]; exact hcs, hnc, ?_⟩, Fr.set hg⟩
      rw [Array.toList_setIfInBounds, take_set_ge _ _ _ _ ho]
      exact htake
    have h2 := cutGo h'.1 vs (o + 1) (by omega)
    exact ⟨h2.1, h'.2.trans h2.2.1, fun B hB => ((Below.refl B W).setCell (p := ⟨g, o, none⟩) hB v).trans (h2.2.2 B hB)⟩
/-- Stores behind an entry leave what stands in front of it. -/
theorem Own.cut {W : World} {g cap : Nat} {c : List Sp} (h : Own W g cap c) (i : Nat) (hi : i ≤ c.length) : ∀ (vs : List Value) (o : Nat), i * 2 ≤ o → Own (W.setCells g o vs) g cap (c.take i) ∧ Fr W (W.setCells g o vs) ∧ ∀ B, B ≤ g → Below B W (W.setCells g o vs)
  | vs, o, ho => cutGo (h.take i hi) vs o (by rw [List.length_take]; omega)
theorem zeroCells2 (z : Array Value) (n : Nat) : ((Builtin.zeroCells z n).toList).length = n * z.size := by simp [Builtin.zeroCells]
/-- clear, at a row of entries of the call's own. -/
theorem run_clear2 (W : World) (ty : TypeId) {g cap : Nat} {c : List Sp} (h : Own W g cap c) (i n k : Nat) (hn : 0 < n) (hi : i + n = c.length) (hv : ∀ w, (zeroValue 54).run Tryz.prog w = .ok (.agg #[cN 0, cN 0]) w) :
    ∃ vs : List Value, (Builtin.clear_ #[22] ty #[.slice (some ⟨g, i * 2, none⟩) n k]).run Tryz.prog W = .ok (.tuple #[]) (W.setCells g (i * 2) vs) := by
  obtain ⟨m, rfl⟩ : ∃ m, n = m + 1 := ⟨n - 1, by omega⟩
  have hrow := h.row
  have hfz := h.frozen
  have hlen := zeroCells2 #[cN 0, cN 0] (m + 1)
  have hone : ∀ v ∈ (Builtin.zeroCells #[cN 0, cN 0] (m + 1)).toList, v.oneCell' = true := by
    intro v hv
    simp only [Builtin.zeroCells, Array.toList_map, List.mem_map] at hv
    obtain ⟨a, -, rfl⟩ := hv
    rcases Nat.mod_two_eq_zero_or_one a with h | h
    · have : #[cN 0, cN 0][a % #[cN 0, cN 0].size]! = cN 0 := by
        show #[cN 0, cN 0][a % 2]! = cN 0
        rw [h]
        rfl
      rw [this]
      rfl
    · have : #[cN 0, cN 0][a % #[cN 0, cN 0].size]! = cN 0 := by
        show #[cN 0, cN 0][a % 2]! = cN 0
        rw [h]
        rfl
      rw [this]
      rfl
  refine ⟨(Builtin.zeroCells #[cN 0, cN 0] (m + 1)).toList, ?_⟩
  have hst := run_storeCells_cells (P := Tryz.prog) g (i * 2) (Builtin.zeroCells #[cN 0, cN 0] (m + 1)).toList 0 W (by
    intro j hj
    rw [hlen] at hj
    have hj' : j < (m + 1) * 2 := hj
    rw [Nat.add_zero]
    have hr := hrow (i + j / 2) (by omega)
    rw [Nat.zero_add] at hr
    rcases Nat.mod_two_eq_zero_or_one j with h | h
    · rw [show i * 2 + j = (i + j / 2) * 2 by omega, hr.1]
      rfl
    · rw [show i * 2 + j = (i + j / 2) * 2 + 1 by omega, hr.2]
      rfl) (fun j _ => hfz _) hone
  simp only [Nat.add_zero] at hst
  have hz : (Value.agg #[cN 0, cN 0]).cells = #[cN 0, cN 0] := rfl
  simp [Builtin.clear_, run_underlying Tryz.underlying22, hv, hz, hst]
end Go.Proofs.YtocncjimepnlcaaGreatDoor
