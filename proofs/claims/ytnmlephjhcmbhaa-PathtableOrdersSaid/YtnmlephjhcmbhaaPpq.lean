/- pathtable.Order: one entry more in the map. -/
import Derived.Test.YtnmlephjhcmbhaaPpp
namespace Go.Proofs.Ytnmlephjhcmbhaa
set_option linter.unusedSimpArgs false
set_option linter.unusedVariables false
open Go Go.RowKit
theorem ne_of_base {W : World} {B e s n : Nat} {v : Value} {xs : List Value} {b : Nat} (h : W.ownsRow B e s v n xs) (hb : b < B) : v.ownBlock ≠ some b := fun k => by
  have := (h.lt b k).1
  omega
theorem KS.map1 {w : World} {l : List PE} {b n k : Nat} {D : DataW Value} {vs : Nat → Value} {W W1 : World} (h : KS w l b D vs n k W) {j0 : Nat} (hj : j0 ≤ l.length) {o : Obj} (hg : (W.alloc o).grownBy W1 (vs j0).ownBlock) : W1.ownsMap Try.prog 3 RVm b n D :=
  (h.own.alloc o).kept hg fun e => ne_of_base (h.row j0 hj) (Nat.lt_succ_self b) e.symm
theorem KS.step {w : World} {l : List PE} {b n k : Nat} {D : DataW Value} {vs : Nat → Value} {W W1 W2 : World} (h : KS w l b D vs n k W) {j0 : Nat} (hj : j0 ≤ l.length) (hp : (l.getD (k + 1) peD).par = (j0 : Int)) {v' : Value}
    (ho : W1.ownsRow (b + 1) 3 1 v' ((kidsM l (k + 1) j0).length + 1) (ints (kidsM l (k + 1) j0) ++ [cN ((k : Int) + 1)])) (hg : (W.alloc (.cells #[cN ((k : Int) + 1)] 3)).grownBy W1 (vs j0).ownBlock)
    (hloc : v'.ownBlock = (vs j0).ownBlock ∨ v'.ownBlock = some (W.alloc (.cells #[cN ((k : Int) + 1)] 3)).heap.size) (hm : W2.ownsMap Try.prog 3 RVm b (n + 1) (D.put (.int .i64 (j0 : Int)) (.held v'))) (hg2 : W1.grownBy W2 (some b)) :
    KS w l b (D.put (.int .i64 (j0 : Int)) (.held v')) (fun j => if j = j0 then v' else vs j) (n + 1) (k + 1) W2 := by
  have hkid : ∀ j, kidsM l (k + 1 + 1) j = kidsM l (k + 1) j ++ if j = j0 then [k + 1] else [] := fun j => by
    rw [kids_snoc l (k + 1) j (by omega), hp]
    by_cases e : j = j0
    · subst e; simp
    · rw [if_neg e, if_neg (by simp; omega)]
  have hb1 : ∀ j, j ≤ l.length → (vs j).ownBlock ≠ some b := fun j hj => ne_of_base (h.row j hj) (Nat.lt_succ_self b)
  have hb2 : v'.ownBlock ≠ some b := ne_of_base ho (Nat.lt_succ_self b)
  refine ⟨hm, ?_, ?_, ?_, ?_, h.ge⟩
  · intro j hjl
    by_cases e : j = j0
    · subst e
      rw [if_pos rfl, Maps.atKey_put_same h.own.isMap (show WideAt.IsKeyLit (.int .i64 (j : Int)) from trivial)]
    · rw [if_neg e, Maps.atKey_put_other (by intro k; simp only [Lit.int.injEq, true_and] at k; omega)]
      exact h.at_ j hjl
  · intro j hjl
    rw [hkid j]
    by_cases e : j = j0
    · subst e
      simp only [if_true]
      rw [List.length_append, show ints (kidsM l (k + 1) j ++ [k + 1]) = ints (kidsM l (k + 1) j) ++ [cN ((k : Int) + 1)] by simp [ints]]
      exact ho.kept hg2 (.inr hb2)
    · simp only [if_neg e, List.append_nil]
      exact ((h.row j hjl).alloc _ |>.kept hg (h.apart j j0 hjl hj e)).kept hg2 (.inr (hb1 j hjl))
  · intro i j hi hjl hne
    have hnew : ∀ i, i ≤ l.length → i ≠ j0 → (vs i).ownBlock = none ∨ (vs i).ownBlock ≠ v'.ownBlock := fun i hi hn => by
      rcases hloc with e | e
      · rw [e]; exact h.apart i j0 hi hj hn
      · cases hv : (vs i).ownBlock with
        | none => exact .inl rfl
        | some q =>
          right
          rw [e]
          intro k
          simp only [Option.some.injEq, World.size_alloc] at k
          have := ((h.row i hi).lt q hv).2
          omega
    by_cases e1 : i = j0
    · by_cases e2 : j = j0
      · omega
      · simp only [e1, if_true, if_neg e2]
        rcases hnew j hjl e2 with k | k
        · cases hv : v'.ownBlock with
          | none => exact .inl rfl
          | some q => right; rw [k]; simp
        · exact .inr fun q => k q.symm
    · by_cases e2 : j = j0
      · simp only [e2, if_true, if_neg e1]
        exact hnew i hi e1
      · simp only [if_neg e1, if_neg e2]
        exact h.apart i j hi hjl hne
  · exact ((bald h.bel _).grown hg (by have := h.bel.size; simp; omega) (fun q e => by have := ((h.row j0 hj).lt q e).1; have := h.ge; omega)).grown hg2 (Nat.le_trans (by have := h.bel.size; simp; omega) hg.size) (fun q e => by have := h.ge; simp only [Option.some.injEq] at e; omega)
end Go.Proofs.Ytnmlephjhcmbhaa
