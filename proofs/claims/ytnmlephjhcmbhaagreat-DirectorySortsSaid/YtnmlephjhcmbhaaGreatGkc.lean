/- Rows of records that are sorted in their place. -/
import Derived.Test.YtnmlephjhcmbhaaGreatGka
import Derived.Test.YtnmlephjhcmbhaaGreatDkr
namespace Go.Proofs.YtnmlephjhcmbhaaGreat
set_option linter.unusedSimpArgs false
set_option linter.unusedVariables false
open Go Go.RowKit
def ST (w : World) (g : Nat) (tl : List Value) (D : List TR) (W : World) : Prop := SR w g tl (recsT D) W
def SeT (cf : Rec → Rec → Int) (w : World) (g : Nat) (tl : List Value) (A M C : List TR) (e : Ending) (w' : World) : Prop :=
  e = .returned (.tuple #[]) ∧ ∃ m, m.Perm M ∧ m.Pairwise (ltT cf) ∧ ST w g tl (A ++ m ++ C) w'
theorem ST.below {w W W' : World} {g : Nat} {tl : List Value} {d : List TR} (h : ST w g tl d W) (b : Below W.heap.size W W') : ST w g tl d W' := SR.below h b
theorem ST.drew {w W : World} {g : Nat} {tl : List Value} {d : List TR} (h : ST w g tl d W) : ST w g tl d W.drew := SR.drew h
theorem ST.fz {w W : World} {g : Nat} {tl : List Value} {d : List TR} (h : ST w g tl d W) (k : Nat) : W.frozen? ⟨g, k, none⟩ = false := Lib.frozen_of_heap (SR.row h) k
theorem ST.cellR {w W : World} {g : Nat} {tl : List Value} {d : List TR} (h : ST w g tl d W) (k : Nat) (x : TR) (hk : d[k]? = some x) : CellsR W g (k * 8) x.1 := by
  obtain ⟨hl, rfl⟩ := List.getElem?_eq_some_iff.1 hk
  have := SR.cells h k (by rw [recsT_len]; exact hl)
  have e : (recsT d).getD k recD = d[k].1 := by simp [recsT, List.getD_eq_getElem?_getD, hl]
  rw [e] at this
  exact this
theorem ST.put {w W : World} {g : Nat} {tl : List Value} {d : List TR} (h : ST w g tl d W) (k : Nat) (x : TR) (hk : k < d.length) : ST w g tl (d.set k x) (W.setCells g (k * 8) (recA x.1).toList) := by
  have e1 : recsT d = recsT (d.take k) ++ d[k].1 :: recsT (d.drop (k + 1)) := by
    conv => lhs; rw [← List.take_append_drop k d, List.drop_eq_getElem_cons hk]
    rw [recsT_app]
    rfl
  have e2 : recsT (d.set k x) = recsT (d.take k) ++ x.1 :: recsT (d.drop (k + 1)) := by
    rw [List.set_eq_take_append_cons_drop, if_pos hk, recsT_app]
    rfl
  unfold ST at h ⊢
  rw [e1] at h
  rw [e2]
  exact SR.put h k (by rw [recsT_len, List.length_take]; omega)
theorem ltX_trans {cf : Rec → Rec → Int} (h : CmpOk cf) (x y z : TR) (h1 : ltT cf x y) (h2 : ltT cf y z) : ltT cf x z := ltT_trans h h1 h2
/-- Behind an element of the left, one of the right comes first just if it is smaller. -/
theorem ltX_of {cf : Rec → Rec → Int} (h : CmpOk cf) {x y : TR} (hxy : x.2 < y.2) : (cf y.1 x.1 < 0 → ltT cf y x) ∧ (¬ cf y.1 x.1 < 0 → ltT cf x y) := by
  have s := h.swap x.1 y.1
  refine ⟨fun k => .inl k, fun k => ?_⟩
  rcases Int.lt_or_eq_of_le (show cf x.1 y.1 ≤ 0 by omega) with m | m
  · exact .inl m
  · exact .inr ⟨m, hxy⟩
theorem at_mid {α : Type} (L M : List α) (x : α) (k : Nat) (hk : k = L.length) : (L ++ x :: M)[k]? = some x := by subst hk; simp
theorem set_mid {α : Type} (L M : List α) (x y : α) (k : Nat) (hk : k = L.length) : (L ++ x :: M).set k y = L ++ y :: M := by subst hk; simp
end Go.Proofs.YtnmlephjhcmbhaaGreat
