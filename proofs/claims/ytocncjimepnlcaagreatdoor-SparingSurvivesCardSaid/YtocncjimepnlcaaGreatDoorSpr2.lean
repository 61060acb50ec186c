/- An argument of type [2]uint16, taken apart. -/
import Derived.Test.YtocncjimepnlcaaGreatDoorSpq
namespace Go.Proofs.YtocncjimepnlcaaGreatDoor
set_option linter.unusedSimpArgs false
set_option linter.unusedVariables false
open Go Go.ChangeShapes Go.WideShapes Go.RowKit
theorem cells36 : Tryz.prog.cellsOf 36 = 2 := by kernel_rfl
theorem cells35 : Tryz.prog.cellsOf 35 = 1 := by kernel_rfl
section
variable {H : Type} {enc : TypeId × Value → H} {w : World} {base : Nat} {spare : Nat → Bool} {held : Bool}
theorem u16_range {n : Int} (h : (Lit.int .u16 n).wf = true) : 0 ≤ n ∧ n < 65536 := by
  have e1 : IntKind.u16.min = 0 := rfl
  have e2 : IntKind.u16.max = 65535 := rfl
  rw [Lit.wf, e1, e2, Bool.and_eq_true, decide_eq_true_eq, decide_eq_true_eq] at h
  omega
set_option maxRecDepth 100000 in
theorem open_pair {r : Reach} {b0 : Nat} {v : Value} {d : DataW H} {p : List MemPlace} (hv : Value.okWide Tryz.prog w r b0 36 v) (h : DataW.Trod enc Tryz.prog w base spare held 36 v d p) :
    ∃ a b : Int, v = .agg #[.int .u16 a, .int .u16 b] ∧ (0 ≤ a ∧ a < 65536) ∧ (0 ≤ b ∧ b < 65536) := by
  obtain ⟨cs, rfl, hsz⟩ : ∃ cs, v = .agg cs ∧ cs.size = Tryz.prog.cellsOf 36 := by
    simp only [Value.okWide, Tryz.underlying36] at hv
    obtain ⟨cs, h1, h2, _⟩ := hv
    exact ⟨cs, h1, h2⟩
  obtain ⟨c0, c1, rfl⟩ := array2 (hsz.trans cells36)
  obtain ⟨fuel, hf⟩ := h
  obtain ⟨xs, m, -, -, -, hl, hel⟩ := DataW.trod_array Tryz.underlying36 (show DataW.trod enc Tryz.prog w base spare held fuel 36 [c0, c1] = some _ from hf)
  obtain ⟨y0, hy0⟩ : ∃ y, xs[0]? = some y := ⟨_, List.getElem?_eq_getElem (by omega)⟩
  obtain ⟨y1, hy1⟩ : ∃ y, xs[1]? = some y := ⟨_, List.getElem?_eq_getElem (by omega)⟩
  have g0 := hel 0 (by decide)
  have g1 := hel 1 (by decide)
  rw [cells35] at g0 g1
  rw [hy0] at g0
  rw [hy1] at g1
  obtain ⟨n0, e0, -, w0⟩ := DataW.trod_int Tryz.underlying35 (show DataW.trod enc Tryz.prog w base spare held m 35 [c0] = some y0 from g0)
  obtain ⟨n1, e1, -, w1⟩ := DataW.trod_int Tryz.underlying35 (show DataW.trod enc Tryz.prog w base spare held m 35 [c1] = some y1 from g1)
  simp only [List.cons.injEq, and_true] at e0 e1
  exact ⟨n0, n1, by rw [e0, e1], u16_range w0, u16_range w1⟩
end
end Go.Proofs.YtocncjimepnlcaaGreatDoor
