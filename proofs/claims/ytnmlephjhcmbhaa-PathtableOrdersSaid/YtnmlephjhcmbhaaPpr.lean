/- pathtable.Order: where all is well. -/
import Derived.Test.YtnmlephjhcmbhaaPpq
import Derived.Test.YtnmlephjhcmbhaaPph
namespace Go.Proofs.Ytnmlephjhcmbhaa
set_option linter.unusedSimpArgs false
set_option linter.unusedVariables false
open Go Go.RowKit
theorem map_look {l : List PE} {b n : Nat} {D : DataW Value} {vs : Nat → Value} {W : World} (hown : W.ownsMap Try.prog 3 RVm b n D) (hat : ∀ j, j ≤ l.length → D.atKey (.int .i64 (j : Int)) (.held (.slice none 0 0)) = .held (vs j)) (j : Nat) (hj : j ≤ l.length) (hl : l.length ≤ 2000) :
    (Instr.lookup 93 (.map (some b)) (.int .i64 (j : Int)) false).run Try.prog W = .ok (vs j) W := by
  obtain ⟨v, ps, hrun, hv⟩ := hown.lookup keyLaw Try.underlying93 (zeroInts W) (zd := .held (.slice none 0 0)) (zp := []) rfl (keyI j (by omega))
  rw [hat j hj] at hv
  simp only [RVm, Option.some.injEq, Prod.mk.injEq, DataW.held.injEq] at hv
  rw [hrun, hv.1]
theorem map_below {b n : Nat} {D : DataW Value} {W W' : World} (hown : W.ownsMap Try.prog 3 RVm b n D) (B : Below W.heap.size W W') : W'.ownsMap Try.prog 3 RVm b n D := by
  obtain ⟨es, clock, hb, rest⟩ := hown
  exact ⟨es, clock, (B.block _ (lt_of_block hb)).trans hb, rest⟩
theorem KS.start {w W : World} (l : List PE) (h : Below w.heap.size w W) : KS w l W.heap.size (.map []) (fun _ => .slice none 0 0) 0 0 (W.alloc (.map #[] 0)) := by
  have hk : ∀ j, kidsM l 1 j = [] := fun j => rfl
  refine ⟨World.ownsMap_made _ _ _ _, fun j _ => rfl, fun j _ => ?_, fun _ _ _ _ _ => .inl rfl, bald h _, h.size⟩
  rw [hk j]
  exact ⟨rfl, .inl ⟨rfl, rfl⟩⟩
/-- An entry that can stand. -/
def GoodE (l : List PE) (k : Nat) : Prop := NamedP (l.getD k peD) ∧ 1 ≤ (l.getD k peD).par ∧ (l.getD k peD).par ≤ l.length
structure OrdHyp (w : World) (b off c : Nat) (l : List PE) (wide : Bool) : Prop where
  hl : l.length ≤ 40
  hpos : 0 < l.length
  hc : l.length ≤ c
  h1c : 1 < c
  hsz : ∀ e ∈ l, e.id.size < 2 ^ 31
  hrow : RowP w (some ⟨b, off, none⟩) l
  hroot : RootP (l.getD 0 peD)
  hgood : ∀ k, 1 ≤ k → k < l.length → GoodE l k
theorem xb_ne {W : World} {B n q : Nat} {v : Value} {xs : List Value} {cs : Array Value} (h : W.ownsRow B 3 1 v n xs) (hx : W.heap[q]? = some (.cells cs 63 (0, 0))) : some q ≠ v.ownBlock := fun e => by
  rcases h.2 with ⟨rfl, -⟩ | ⟨g, cap, cur, rfl, hbg, hgg, -⟩
  · simp [Value.ownBlock] at e
  · simp [Value.ownBlock] at e
    subst e
    rw [hgg] at hx
    simp at hx
end Go.Proofs.Ytnmlephjhcmbhaa
