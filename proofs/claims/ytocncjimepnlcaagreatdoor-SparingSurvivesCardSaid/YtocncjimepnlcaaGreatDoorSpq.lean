/- Sparing tables: a table that comes in as an argument, by value, taken apart. -/
import Derived.Test.YtocncjimepnlcaaGreatDoorRows
import Derived.Test.YtocncjimepnlcaaGreatDoorSpa
import Derived.Deep.SlicePairs
import Derived.WalkKit
import Derived.ProofKit
import Derived.OpenShut
import Derived.Lib.SmallJoins
namespace Go.Proofs.YtocncjimepnlcaaGreatDoor
set_option linter.unusedSimpArgs false
set_option linter.unusedVariables false
open Go Go.ChangeShapes Go.WideShapes Go.RowKit
theorem array2 {α : Type} {cs : Array α} (h : cs.size = 2) : ∃ c0 c1, cs = #[c0, c1] := by
  obtain ⟨l⟩ := cs
  match l, h with
  | [c0, c1], _ => exact ⟨c0, c1, rfl⟩
theorem cells29 : Tryz.prog.cellsOf 24 = 2 := by kernel_rfl
theorem cells23 : Tryz.prog.cellsOf 50 = 2 := by kernel_rfl
theorem cells42 : Tryz.prog.cellsOf 54 = 2 := by kernel_rfl
theorem cells27 : Tryz.prog.cellsOf 22 = 1 := by kernel_rfl
theorem cells3 : Tryz.prog.cellsOf 3 = 1 := by kernel_rfl
section
variable {H : Type} {enc : TypeId × Value → H} {w : World} {base : Nat} {spare : Nat → Bool} {held : Bool}
theorem fields2 {t : TypeId} {f0 f1 : Field} {fuel : Nat} {c0 c1 : Value} {x : DataW H × List MemPlace} (hu : Tryz.prog.underlying t = some (.struct #[f0, f1])) (o0 : f0.offset = 0) (o1 : f1.offset = 1) (k0 : Tryz.prog.cellsOf f0.type = 1) (k1 : Tryz.prog.cellsOf f1.type = 1)
    (h : DataW.trod enc Tryz.prog w base spare held fuel t [c0, c1] = some x) :
    ∃ n y0 y1, DataW.trod enc Tryz.prog w base spare held n f0.type [c0] = some y0 ∧ DataW.trod enc Tryz.prog w base spare held n f1.type [c1] = some y1 := by
  obtain ⟨xs, n, rfl, -, -, hl, hf⟩ := DataW.trod_struct hu h
  have hl2 : xs.length = 2 := hl
  obtain ⟨y0, hy0⟩ : ∃ y, xs[0]? = some y := ⟨_, List.getElem?_eq_getElem (by omega)⟩
  obtain ⟨y1, hy1⟩ : ∃ y, xs[1]? = some y := ⟨_, List.getElem?_eq_getElem (by omega)⟩
  have g0 := hf 0 f0 rfl
  have g1 := hf 1 f1 rfl
  simp only [o0, o1, k0, k1, hy0, hy1, List.drop_succ_cons, List.drop_zero, List.take_succ_cons, List.take_zero] at g0 g1
  exact ⟨n, y0, y1, g0, g1⟩
set_option maxRecDepth 100000 in
theorem open_span {r : Reach} {b0 : Nat} {v : Value} {d : DataW H} {p : List MemPlace} (hv : Value.okWide Tryz.prog w r b0 50 v) (h : DataW.Trod enc Tryz.prog w base spare held 50 v d p) :
    ∃ a b : Int, v = .agg #[cN a, cN b] := by
  obtain ⟨cs, rfl, hsz⟩ := okWide_struct Tryz.underlying50 hv
  obtain ⟨c0, c1, rfl⟩ := array2 (hsz.trans cells23)
  obtain ⟨fuel, hf⟩ := h
  obtain ⟨n, y0, y1, g0, g1⟩ := fields2 Tryz.underlying50 rfl rfl cells3 cells3 hf
  obtain ⟨n0, e0, -, -⟩ := DataW.trod_int Tryz.underlying3 g0
  obtain ⟨n1, e1, -, -⟩ := DataW.trod_int Tryz.underlying3 g1
  simp only [List.cons.injEq, and_true] at e0 e1
  exact ⟨n0, n1, by rw [e0, e1]⟩
theorem choose_sp : ∀ (n : Nat) (V : Nat → Value × Value) (_ : ∀ i, i < n → ∃ a b : Int, V i = (cN a, cN b)), ∃ l : List Sp, l.length = n ∧ ∀ i, i < n → V i = (cN (at_ l i).1, cN (at_ l i).2)
  | 0, _, _ => ⟨[], rfl, fun i hi => absurd hi (Nat.not_lt_zero _)⟩
  | n + 1, V, h => by
    obtain ⟨a, b, e⟩ := h 0 (by omega)
    obtain ⟨l, hl, hg⟩ := choose_sp n (fun i => V (i + 1)) (fun i hi => h (i + 1) (by omega))
    refine ⟨(a, b) :: l, by simp [hl], fun i hi => ?_⟩
    cases i with
    | zero => exact e
    | succ i => exact hg i (by omega)
set_option maxRecDepth 100000 in
theorem open_entries {fuel : Nat} {c : Value} {x : DataW H × List MemPlace} (h : DataW.trod enc Tryz.prog w base spare held fuel 22 [c] = some x) : ∃ l, SL w c l := by
  rcases Go.Deep.open_slice_pairs Tryz.underlying22 Tryz.underlying54 cells42 rfl rfl cells3 cells3 h with ⟨e, -⟩ | ⟨a, len, cap, m, n, V0, V1, D0, D1, P0, P1, e, hb, hl, hcm, hm, rfl, hx⟩
  · simp only [List.cons.injEq, and_true] at e
    exact ⟨[], .inl ⟨rfl, none, 0, e⟩⟩
  · simp only [List.cons.injEq, and_true] at e
    have hlm : len ≤ m := by rw [hm]; split <;> omega
    by_cases h0 : len = 0
    · subst h0
      exact ⟨[], .inl ⟨rfl, some a, cap, e⟩⟩
    obtain ⟨b, off, spot⟩ := a
    have hs : spot = none := by
      have := World.cell?_spot (hx 0 (by omega)).1
      simpa [Addr.add] using this
    subst hs
    obtain ⟨l, hll, hg⟩ := choose_sp len (fun i => (V0 i, V1 i)) (fun i hi => by
      obtain ⟨-, -, g0, g1⟩ := hx i (by omega)
      obtain ⟨n0, e0, -, -⟩ := DataW.trod_int Tryz.underlying3 g0
      obtain ⟨n1, e1, -, -⟩ := DataW.trod_int Tryz.underlying3 g1
      simp only [List.cons.injEq, and_true] at e0 e1
      exact ⟨n0, n1, by rw [e0, e1]⟩)
    have hbl : b < w.heap.size := World.block_lt_of_cell? w _ (hx 0 (by omega)).1
    refine ⟨l, .inr ⟨b, off, cap, by rw [hll]; exact e, by omega, ?_, fun i hi => ?_⟩⟩
    · first | exact hbl | simpa [Addr.add] using hbl
    · have hv := hg i (by omega)
      simp only [Prod.mk.injEq] at hv
      obtain ⟨q0, q1, -, -⟩ := hx i (by omega)
      have e0 : (⟨b, off, none⟩ : Addr).add (i * 2) = ⟨b, off + i * 2, none⟩ := by unfold Addr.add; split <;> simp_all
      have e1 : (⟨b, off, none⟩ : Addr).add (i * 2 + 1) = ⟨b, off + i * 2 + 1, none⟩ := by unfold Addr.add; split <;> simp_all [Nat.add_assoc]
      rw [e0, hv.1] at q0
      rw [e1, hv.2] at q1
      exact ⟨q0, q1⟩
set_option maxRecDepth 100000 in
theorem open_table {r : Reach} {b0 : Nat} {v : Value} {d : DataW H} {p : List MemPlace} (hv : Value.okWide Tryz.prog w r b0 24 v) (h : DataW.Trod enc Tryz.prog w base spare held 24 v d p) :
    ∃ (s : Int) (c : Value) (l : List Sp), v = .agg #[cN s, c] ∧ SL w c l := by
  obtain ⟨cs, rfl, hsz⟩ := okWide_struct Tryz.underlying24 hv
  obtain ⟨c0, c1, rfl⟩ := array2 (hsz.trans cells29)
  obtain ⟨fuel, hf⟩ := h
  obtain ⟨n, y0, y1, g0, g1⟩ := fields2 Tryz.underlying24 rfl rfl cells3 cells27 hf
  obtain ⟨n0, e0, -, -⟩ := DataW.trod_int Tryz.underlying3 g0
  simp only [List.cons.injEq, and_true] at e0
  obtain ⟨l, hl⟩ := open_entries g1
  exact ⟨n0, c1, l, by rw [e0], hl⟩
end
end Go.Proofs.YtocncjimepnlcaaGreatDoor
