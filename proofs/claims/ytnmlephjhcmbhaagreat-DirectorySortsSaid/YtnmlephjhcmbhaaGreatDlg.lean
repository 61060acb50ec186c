/- A slice of directory records that comes in as an argument, taken apart. -/
import Derived.Test.YtnmlephjhcmbhaaGreatRows
import Derived.Test.YtnmlephjhcmbhaaGreatDki
import Derived.ChangeSlices
import Derived.WalkKit
import Derived.ProofKit
import Derived.OpenShut
namespace Go.Proofs.YtnmlephjhcmbhaaGreat
set_option linter.unusedSimpArgs false
set_option linter.unusedVariables false
open Go Go.ChangeShapes Go.WideShapes Go.RowKit
theorem array8 {α : Type} {cs : Array α} (h : cs.size = 8) : ∃ c0 c1 c2 c3 c4 c5 c6 c7, cs = #[c0, c1, c2, c3, c4, c5, c6, c7] := by
  obtain ⟨l⟩ := cs
  match l, h with
  | [c0, c1, c2, c3, c4, c5, c6, c7], _ => exact ⟨c0, c1, c2, c3, c4, c5, c6, c7, rfl⟩
theorem recCells : Tryz.prog.cellsOf 45 = 8 := by kernel_rfl
theorem cells9 : Tryz.prog.cellsOf 9 = 1 := by kernel_rfl
theorem cells3 : Tryz.prog.cellsOf 3 = 1 := by kernel_rfl
section
variable {H : Type} {enc : TypeId × Value → H} {w : World} {base : Nat} {spare : Nat → Bool} {held : Bool}
set_option maxRecDepth 100000 in
theorem rec_cells {fuel : Nat} {c0 c1 c2 c3 c4 c5 c6 c7 : Value} {x : DataW H × List MemPlace} (h : DataW.trod enc Tryz.prog w base spare held fuel 45 [c0, c1, c2, c3, c4, c5, c6, c7] = some x) :
    ∃ r : Rec, [c0, c1, c2, c3, c4, c5, c6, c7] = (recA r).toList ∧ r.id.size ≤ maxLen ∧ r.use.size ≤ maxLen := by
  obtain ⟨xs, n, rfl, -, -, hl, hf⟩ := DataW.trod_struct Tryz.underlying45 h
  have hl8 : xs.length = 8 := hl
  obtain ⟨y0, hy0⟩ : ∃ y, xs[0]? = some y := ⟨_, List.getElem?_eq_getElem (by omega)⟩
  obtain ⟨y1, hy1⟩ : ∃ y, xs[1]? = some y := ⟨_, List.getElem?_eq_getElem (by omega)⟩
  obtain ⟨y2, hy2⟩ : ∃ y, xs[2]? = some y := ⟨_, List.getElem?_eq_getElem (by omega)⟩
  obtain ⟨y3, hy3⟩ : ∃ y, xs[3]? = some y := ⟨_, List.getElem?_eq_getElem (by omega)⟩
  obtain ⟨y4, hy4⟩ : ∃ y, xs[4]? = some y := ⟨_, List.getElem?_eq_getElem (by omega)⟩
  obtain ⟨y5, hy5⟩ : ∃ y, xs[5]? = some y := ⟨_, List.getElem?_eq_getElem (by omega)⟩
  obtain ⟨y6, hy6⟩ : ∃ y, xs[6]? = some y := ⟨_, List.getElem?_eq_getElem (by omega)⟩
  obtain ⟨y7, hy7⟩ : ∃ y, xs[7]? = some y := ⟨_, List.getElem?_eq_getElem (by omega)⟩
  have k0 := hf 0 { name := "ID", type := 9, offset := 0, embedded := false, tag := "", pkgPath := "", byteOffset := 0 } rfl
  have k1 := hf 1 { name := "LBA", type := 3, offset := 1, embedded := false, tag := "", pkgPath := "", byteOffset := 16 } rfl
  have k2 := hf 2 { name := "Length", type := 3, offset := 2, embedded := false, tag := "", pkgPath := "", byteOffset := 24 } rfl
  have k3 := hf 3 { name := "Time", type := 3, offset := 3, embedded := false, tag := "", pkgPath := "", byteOffset := 32 } rfl
  have k4 := hf 4 { name := "Zone", type := 3, offset := 4, embedded := false, tag := "", pkgPath := "", byteOffset := 40 } rfl
  have k5 := hf 5 { name := "Flags", type := 3, offset := 5, embedded := false, tag := "", pkgPath := "", byteOffset := 48 } rfl
  have k6 := hf 6 { name := "Sequence", type := 3, offset := 6, embedded := false, tag := "", pkgPath := "", byteOffset := 56 } rfl
  have k7 := hf 7 { name := "Use", type := 9, offset := 7, embedded := false, tag := "", pkgPath := "", byteOffset := 64 } rfl
  simp only [cells9, cells3, hy0, hy1, hy2, hy3, hy4, hy5, hy6, hy7, List.drop_succ_cons, List.drop_zero, List.take_succ_cons, List.take_zero] at k0 k1 k2 k3 k4 k5 k6 k7
  obtain ⟨s0, e0, -, b0⟩ := DataW.trod_string Tryz.underlying9 k0
  obtain ⟨n1, e1, -, -⟩ := DataW.trod_int Tryz.underlying3 k1
  obtain ⟨n2, e2, -, -⟩ := DataW.trod_int Tryz.underlying3 k2
  obtain ⟨n3, e3, -, -⟩ := DataW.trod_int Tryz.underlying3 k3
  obtain ⟨n4, e4, -, -⟩ := DataW.trod_int Tryz.underlying3 k4
  obtain ⟨n5, e5, -, -⟩ := DataW.trod_int Tryz.underlying3 k5
  obtain ⟨n6, e6, -, -⟩ := DataW.trod_int Tryz.underlying3 k6
  obtain ⟨s7, e7, -, b7⟩ := DataW.trod_string Tryz.underlying9 k7
  simp only [List.cons.injEq, and_true] at e0 e1 e2 e3 e4 e5 e6 e7
  exact ⟨⟨s0, n1, n2, n3, n4, n5, n6, s7⟩, by rw [e0, e1, e2, e3, e4, e5, e6, e7], b0, b7⟩
set_option maxRecDepth 100000 in
theorem open_recs {a0 : Option Addr} {n0 c0 : Nat} {d : DataW H} {p : List MemPlace} (hd : DataW.Trod enc Tryz.prog w base spare held 26 (.slice a0 n0 c0) d p) :
    ∃ l : List Rec, n0 = l.length ∧ RowR w a0 l ∧ ∀ r ∈ l, r.id.size ≤ maxLen ∧ r.use.size ≤ maxLen := by
  obtain ⟨fuel, hf⟩ := hd
  rcases DataW.trod_slice Tryz.underlying26 hf with ⟨e, -⟩ | ⟨a, len, cap, elems, rest, n, -, e, -, -, hl, hcm, hlen, hel, -⟩
  · have e' : Value.slice a0 n0 c0 = .slice none 0 0 := by simpa [Value.cells] using e
    injection e' with e1 e2 e3
    subst e2
    exact ⟨[], rfl, fun k hk => absurd hk (Nat.not_lt_zero _), fun r hr => by cases hr⟩
  · have ad : ∀ (b off k : Nat), (⟨b, off, none⟩ : Addr).add k = ⟨b, off + k, none⟩ := fun b off k => by unfold Addr.add; split <;> simp_all
    have e' : Value.slice a0 n0 c0 = .slice (some a) len cap := by simpa [Value.cells] using e
    injection e' with e1 e2 e3
    subst e1 e2 e3
    rw [recCells] at hel
    have each : ∀ k, k < n0 → ∃ r : Rec, (∀ i, i < 8 → w.cell? ((a.add (k * 8)).add i) = (recA r).toList[i]?) ∧ r.id.size ≤ maxLen ∧ r.use.size ≤ maxLen := by
      intro k hk
      have h1 := hel k hk
      rw [List.getElem?_eq_getElem (by omega)] at h1
      obtain ⟨cs, hcs, htr⟩ := Option.bind_eq_some_iff.1 h1
      obtain ⟨-, h8, hc⟩ := World.cells?_some hcs
      match cs, h8 with
      | [c0, c1, c2, c3, c4, c5, c6, c7], _ =>
        obtain ⟨r, hr, b0, b7⟩ := rec_cells htr
        rw [hr] at hc
        exact ⟨r, hc, b0, b7⟩
    have sp : ∀ k, k < n0 → a.spot = none := fun k hk => by
      obtain ⟨r, hc, -⟩ := each 0 (by omega)
      have := World.cell?_spot (hc 0 (by omega))
      simpa [Addr.add] using this
    let f : Nat → Rec := fun k => if h : k < n0 then (each k h).choose else recD
    have hfk : ∀ k (h : k < n0), f k = (each k h).choose := fun k h => dif_pos h
    refine ⟨(List.range n0).map f, by simp, ?_, ?_⟩
    · intro k hk
      have hk' : k < n0 := by simpa using hk
      have hspot := sp k hk'
      obtain ⟨b, off, spot⟩ := a
      obtain rfl : spot = none := hspot
      have hg : ((List.range n0).map f).getD k recD = f k := by simp [List.getD_eq_getElem?_getD, hk']
      rw [hg, hfk k hk']
      obtain ⟨hc, -, -⟩ := (each k hk').choose_spec
      generalize (each k hk').choose = r at hc ⊢
      have e0 : ∀ i, ((⟨b, off, none⟩ : Addr).add (k * 8)).add i = ⟨b, off + k * 8 + i, none⟩ := fun i => by rw [ad, ad]
      have hc' : ∀ i, i < 8 → w.cell? ⟨b, off + k * 8 + i, none⟩ = (recA r).toList[i]? := fun i hi => by rw [← e0 i]; exact hc i hi
      have hbl := World.block_lt_of_cell? w _ (hc' 0 (by omega))
      refine ⟨b, off, rfl, hbl, ?_⟩
      exact ⟨hc' 0 (by omega), hc' 1 (by omega), hc' 2 (by omega), hc' 3 (by omega), hc' 4 (by omega), hc' 5 (by omega), hc' 6 (by omega), hc' 7 (by omega)⟩
    · intro r hr
      obtain ⟨k, hk, rfl⟩ := List.mem_map.1 hr
      have hk' : k < n0 := by simpa using hk
      rw [hfk k hk']
      exact (each k hk').choose_spec.2
end
end Go.Proofs.YtnmlephjhcmbhaaGreat
