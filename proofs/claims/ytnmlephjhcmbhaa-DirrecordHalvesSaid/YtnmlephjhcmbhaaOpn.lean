/- A directory record that comes in as an argument, by value, taken apart. -/
import Derived.Test.YtnmlephjhcmbhaaRows
import Derived.Test.YtnmlephjhcmbhaaDrb
import Derived.WalkKit
import Derived.ProofKit
import Derived.OpenShut
import Derived.Lib.SmallJoins
namespace Go.Proofs.Ytnmlephjhcmbhaa
set_option linter.unusedSimpArgs false
set_option linter.unusedVariables false
open Go Go.ChangeShapes Go.WideShapes Go.RowKit
open Go.ChangeMaps (open_string shut_string)
theorem array8 {α : Type} {cs : Array α} (h : cs.size = 8) : ∃ c0 c1 c2 c3 c4 c5 c6 c7, cs = #[c0, c1, c2, c3, c4, c5, c6, c7] := by
  obtain ⟨l⟩ := cs
  match l, h with
  | [c0, c1, c2, c3, c4, c5, c6, c7], _ => exact ⟨c0, c1, c2, c3, c4, c5, c6, c7, rfl⟩
theorem recCells : Try.prog.cellsOf 23 = 8 := by kernel_rfl
theorem cells9 : Try.prog.cellsOf 9 = 1 := by kernel_rfl
theorem cells3 : Try.prog.cellsOf 3 = 1 := by kernel_rfl
section
variable {H : Type} {enc : TypeId × Value → H} {w : World} {base : Nat} {spare : Nat → Bool} {held : Bool}
set_option maxRecDepth 100000 in
theorem rec_cells {fuel : Nat} {c0 c1 c2 c3 c4 c5 c6 c7 : Value} {x : DataW H × List MemPlace} (h : DataW.trod enc Try.prog w base spare held fuel 23 [c0, c1, c2, c3, c4, c5, c6, c7] = some x) :
    ∃ r : Rec, [c0, c1, c2, c3, c4, c5, c6, c7] = (recA r).toList ∧ r.id.size ≤ maxLen ∧ r.use.size ≤ maxLen := by
  obtain ⟨xs, n, rfl, -, -, hl, hf⟩ := DataW.trod_struct Try.underlying23 h
  have hl8 : xs.length = 8 := hl
  obtain ⟨y0, hy0⟩ : ∃ y, xs[0]? = some y := ⟨_, List.getElem?_eq_getElem (by omega)⟩
  obtain ⟨y1, hy1⟩ : ∃ y, xs[1]? = some y := ⟨_, List.getElem?_eq_getElem (by omega)⟩
  obtain ⟨y2, hy2⟩ : ∃ y, xs[2]? = some y := ⟨_, List.getElem?_eq_getElem (by omega)⟩
  obtain ⟨y3, hy3⟩ : ∃ y, xs[3]? = some y := ⟨_, List.getElem?_eq_getElem (by omega)⟩
  obtain ⟨y4, hy4⟩ : ∃ y, xs[4]? = some y := ⟨_, List.getElem?_eq_getElem (by omega)⟩
  obtain ⟨y5, hy5⟩ : ∃ y, xs[5]? = some y := ⟨_, List.getElem?_eq_getElem (by omega)⟩
  obtain ⟨y6, hy6⟩ : ∃ y, xs[6]? = some y := ⟨_, List.getElem?_eq_getElem (by omega)⟩
  obtain ⟨y7, hy7⟩ : ∃ y, xs[7]? = some y := ⟨_, List.getElem?_eq_getElem (by omega)⟩
  have k0 := hf 0 { name := "ID", type := 9, offset := 0, embedded := false, tag := "", pkgPath := "", byteOffset := 0 } rfl
  have k1 := hf 1 { name := "LBA", type := 3, offset := 1, embedded := false, tag := "", pkgPath := "", byteOffset := 16 } rfl
  have k2 := hf 2 { name := "Length", type := 3, offset := 2, embedded := false, tag := "", pkgPath := "", byteOffset := 24 } rfl
  have k3 := hf 3 { name := "Time", type := 3, offset := 3, embedded := false, tag := "", pkgPath := "", byteOffset := 32 } rfl
  have k4 := hf 4 { name := "Zone", type := 3, offset := 4, embedded := false, tag := "", pkgPath := "", byteOffset := 40 } rfl
  have k5 := hf 5 { name := "Flags", type := 3, offset := 5, embedded := false, tag := "", pkgPath := "", byteOffset := 48 } rfl
  have k6 := hf 6 { name := "Sequence", type := 3, offset := 6, embedded := false, tag := "", pkgPath := "", byteOffset := 56 } rfl
  have k7 := hf 7 { name := "Use", type := 9, offset := 7, embedded := false, tag := "", pkgPath := "", byteOffset := 64 } rfl
  simp only [cells9, cells3, hy0, hy1, hy2, hy3, hy4, hy5, hy6, hy7, List.drop_succ_cons, List.drop_zero, List.take_succ_cons, List.take_zero] at k0 k1 k2 k3 k4 k5 k6 k7
  obtain ⟨s0, e0, -, b0⟩ := DataW.trod_string Try.underlying9 k0
  obtain ⟨n1, e1, -, -⟩ := DataW.trod_int Try.underlying3 k1
  obtain ⟨n2, e2, -, -⟩ := DataW.trod_int Try.underlying3 k2
  obtain ⟨n3, e3, -, -⟩ := DataW.trod_int Try.underlying3 k3
  obtain ⟨n4, e4, -, -⟩ := DataW.trod_int Try.underlying3 k4
  obtain ⟨n5, e5, -, -⟩ := DataW.trod_int Try.underlying3 k5
  obtain ⟨n6, e6, -, -⟩ := DataW.trod_int Try.underlying3 k6
  obtain ⟨s7, e7, -, b7⟩ := DataW.trod_string Try.underlying9 k7
  simp only [List.cons.injEq, and_true] at e0 e1 e2 e3 e4 e5 e6 e7
  exact ⟨⟨s0, n1, n2, n3, n4, n5, n6, s7⟩, by rw [e0, e1, e2, e3, e4, e5, e6, e7], b0, b7⟩
set_option maxRecDepth 100000 in
theorem open_rec {r : Reach} {b0 : Nat} {v : Value} {d : DataW H} {p : List MemPlace} (hv : Value.okWide Try.prog w r b0 23 v) (h : DataW.Trod enc Try.prog w base spare held 23 v d p) :
    ∃ r : Rec, v = .agg (recA r) ∧ r.id.size ≤ maxLen ∧ r.use.size ≤ maxLen := by
  obtain ⟨cs, rfl, hsz⟩ := okWide_struct Try.underlying23 hv
  obtain ⟨c0, c1, c2, c3, c4, c5, c6, c7, rfl⟩ := array8 (hsz.trans recCells)
  obtain ⟨fuel, hf⟩ := h
  obtain ⟨r, hr, h1, h2⟩ := rec_cells hf
  exact ⟨r, by rw [show (#[c0, c1, c2, c3, c4, c5, c6, c7] : Array Value) = recA r from Array.toList_inj.1 hr], h1, h2⟩
end
end Go.Proofs.Ytnmlephjhcmbhaa
