/- A slice of entries that comes in as an argument, taken apart; Small of the reference. -/
import Derived.Test.YtnmlephjhcmbhaaRows
import Derived.Test.YtnmlephjhcmbhaaPpx
import Derived.ChangeSlices
import Derived.WalkKit
import Derived.ProofKit
import Derived.OpenShut
namespace Go.Proofs.Ytnmlephjhcmbhaa
set_option linter.unusedSimpArgs false
set_option linter.unusedVariables false
open Go Go.ChangeShapes Go.WideShapes Go.RowKit
theorem peCells : Try.prog.cellsOf 63 = 3 := by kernel_rfl
theorem cells9p : Try.prog.cellsOf 9 = 1 := by kernel_rfl
theorem cells3p : Try.prog.cellsOf 3 = 1 := by kernel_rfl
section
variable {H : Type} {enc : TypeId × Value → H} {w : World} {base : Nat} {spare : Nat → Bool} {held : Bool}
set_option maxRecDepth 100000 in
theorem pe_cells {fuel : Nat} {c0 c1 c2 : Value} {x : DataW H × List MemPlace} (h : DataW.trod enc Try.prog w base spare held fuel 63 [c0, c1, c2] = some x) :
    ∃ r : PE, [c0, c1, c2] = (peA r).toList ∧ r.id.size ≤ maxLen := by
  obtain ⟨xs, n, rfl, -, -, hl, hf⟩ := DataW.trod_struct Try.underlying63 h
  have hl8 : xs.length = 3 := hl
  obtain ⟨y0, hy0⟩ : ∃ y, xs[0]? = some y := ⟨_, List.getElem?_eq_getElem (by omega)⟩
  obtain ⟨y1, hy1⟩ : ∃ y, xs[1]? = some y := ⟨_, List.getElem?_eq_getElem (by omega)⟩
  obtain ⟨y2, hy2⟩ : ∃ y, xs[2]? = some y := ⟨_, List.getElem?_eq_getElem (by omega)⟩
  have k0 := hf 0 { name := "ID", type := 9, offset := 0, embedded := false, tag := "", pkgPath := "", byteOffset := 0 } rfl
  have k1 := hf 1 { name := "LBA", type := 3, offset := 1, embedded := false, tag := "", pkgPath := "", byteOffset := 16 } rfl
  have k2 := hf 2 { name := "Parent", type := 3, offset := 2, embedded := false, tag := "", pkgPath := "", byteOffset := 24 } rfl
  simp only [cells9p, cells3p, hy0, hy1, hy2, List.drop_succ_cons, List.drop_zero, List.take_succ_cons, List.take_zero] at k0 k1 k2
  obtain ⟨s0, e0, -, b0⟩ := DataW.trod_string Try.underlying9 k0
  obtain ⟨n1, e1, -, -⟩ := DataW.trod_int Try.underlying3 k1
  obtain ⟨n2, e2, -, -⟩ := DataW.trod_int Try.underlying3 k2
  simp only [List.cons.injEq, and_true] at e0 e1 e2
  exact ⟨⟨s0, n1, n2⟩, by rw [e0, e1, e2], b0⟩
set_option maxRecDepth 100000 in
theorem open_pes {a0 : Option Addr} {n0 c0 : Nat} {d : DataW H} {p : List MemPlace} (hd : DataW.Trod enc Try.prog w base spare held 44 (.slice a0 n0 c0) d p) :
    ∃ l : List PE, n0 = l.length ∧ RowP w a0 l ∧ l.length ≤ c0 ∧ ∀ r ∈ l, r.id.size ≤ maxLen := by
  obtain ⟨fuel, hf⟩ := hd
  rcases DataW.trod_slice Try.underlying44 hf with ⟨e, -⟩ | ⟨a, len, cap, elems, rest, n, -, e, -, -, hl, hcm, hlen, hel, -⟩
  · have e' : Value.slice a0 n0 c0 = .slice none 0 0 := by simpa [Value.cells] using e
    injection e' with e1 e2 e3
    subst e2
    exact ⟨[], rfl, fun k hk => absurd hk (Nat.not_lt_zero _), Nat.zero_le _, fun r hr => by cases hr⟩
  · have ad : ∀ (b off k : Nat), (⟨b, off, none⟩ : Addr).add k = ⟨b, off + k, none⟩ := fun b off k => by unfold Addr.add; split <;> simp_all
    have e' : Value.slice a0 n0 c0 = .slice (some a) len cap := by simpa [Value.cells] using e
    injection e' with e1 e2 e3
    subst e1 e2 e3
    rw [peCells] at hel
    have each : ∀ k, k < n0 → ∃ r : PE, (∀ i, i < 3 → w.cell? ((a.add (k * 3)).add i) = (peA r).toList[i]?) ∧ r.id.size ≤ maxLen := by
      intro k hk
      have h1 := hel k hk
      rw [List.getElem?_eq_getElem (by omega)] at h1
      obtain ⟨cs, hcs, htr⟩ := Option.bind_eq_some_iff.1 h1
      obtain ⟨-, h8, hc⟩ := World.cells?_some hcs
      match cs, h8 with
      | [c0, c1, c2], _ =>
        obtain ⟨r, hr, b0⟩ := pe_cells htr
        rw [hr] at hc
        exact ⟨r, hc, b0⟩
    have sp : ∀ k, k < n0 → a.spot = none := fun k hk => by
      obtain ⟨r, hc, -⟩ := each 0 (by omega)
      have := World.cell?_spot (hc 0 (by omega))
      simpa [Addr.add] using this
    let f : Nat → PE := fun k => if h : k < n0 then (each k h).choose else peD
    have hfk : ∀ k (h : k < n0), f k = (each k h).choose := fun k h => dif_pos h
    refine ⟨(List.range n0).map f, by simp, ?_, by simpa using hl, ?_⟩
    · intro k hk
      have hk' : k < n0 := by simpa using hk
      have hspot := sp k hk'
      obtain ⟨b, off, spot⟩ := a
      obtain rfl : spot = none := hspot
      have hg : ((List.range n0).map f).getD k peD = f k := by simp [List.getD_eq_getElem?_getD, hk']
      rw [hg, hfk k hk']
      obtain ⟨hc, -⟩ := (each k hk').choose_spec
      generalize (each k hk').choose = r at hc ⊢
      have e0 : ∀ i, ((⟨b, off, none⟩ : Addr).add (k * 3)).add i = ⟨b, off + k * 3 + i, none⟩ := fun i => by rw [ad, ad]
      have hc' : ∀ i, i < 3 → w.cell? ⟨b, off + k * 3 + i, none⟩ = (peA r).toList[i]? := fun i hi => by rw [← e0 i]; exact hc i hi
      have hbl := World.block_lt_of_cell? w _ (hc' 0 (by omega))
      refine ⟨b, off, rfl, hbl, ?_⟩
      exact ⟨hc' 0 (by omega), hc' 1 (by omega), hc' 2 (by omega)⟩
    · intro r hr
      obtain ⟨k, hk, rfl⟩ := List.mem_map.1 hr
      have hk' : k < n0 := by simpa using hk
      rw [hfk k hk']
      exact (each k hk').choose_spec.2
end
def smallP (x : PE) : Bool := decide (x.id.size ≤ 300)
def smallPL (l : List PE) : Bool := decide (l.length ≤ 40) && l.all smallP
theorem smallP_false (l : List PE) (k : Nat) (hk : k < l.length) (h : smallP (l.getD k peD) = false) : smallPL l = false := by
  unfold smallPL
  rw [Bool.and_eq_false_iff]
  right
  rw [List.all_eq_false]
  refine ⟨l.getD k peD, ?_, by rw [h]; simp⟩
  rw [List.getD_eq_getElem?_getD, List.getElem?_eq_getElem hk, Option.getD_some]
  exact List.getElem_mem hk
theorem smallPL_spec {l : List PE} (h : smallPL l = true) : l.length ≤ 40 ∧ ∀ x ∈ l, x.id.size ≤ 300 := by
  unfold smallPL at h
  rw [Bool.and_eq_true, decide_eq_true_eq, List.all_eq_true] at h
  exact ⟨h.1, fun x hx => by simpa [smallP] using h.2 x hx⟩
set_option maxRecDepth 100000 in
set_option maxHeartbeats 400000 in
theorem psmall_ok (a : Option Addr) (c : Nat) (l : List PE) (w : World) (hrow : RowP w a l) (hsz : ∀ r ∈ l, r.id.size ≤ maxLen) :
    Calls Try.prog 30 #[.slice a l.length c] w fun e w' => e = .returned (.bool (smallPL l)) ∧ w' = w := by
  have HR := Lib.hid hrow
  have HZ := Lib.hid hsz
  clear hrow hsz
  by_cases hlm : 40 < l.length
  · have e : smallPL l = false := by unfold smallPL; rw [decide_eq_false (by omega), Bool.false_and]
    rw [e]
    have g1 : (40 : Int) < (l.length : Int) := by omega
    clear e
    go_enter Try.func30, Try.ntmps30
    go_wp2
    go_ret
    exact ⟨rfl, by trivial⟩
  · have g1 : ¬ (40 : Int) < (l.length : Int) := by omega
    have g2 : l.length ≤ 2000 := by omega
    go_enter Try.func30, Try.ntmps30
    go_wp2
    go_loopw [3] (fun i wr => ∃ k : Nat, i = cN k ∧ k ≤ l.length ∧ (l.take k).all smallP = true ∧ wr = w) (fun i _ => l.length - (intOf i).toNat)
    case atStart => exact ⟨0, rfl, Nat.zero_le _, rfl, rfl⟩
    case round =>
      obtain ⟨k, rfl, hk, hf, rfl⟩ := hrel
      have HF := Lib.hid hf
      clear hf
      by_cases hlt : (k : Int) < (l.length : Int)
      · have hkl : k < l.length := by omega
        obtain ⟨b, off, rfl, hb, hc⟩ := HR.out k hkl
        obtain ⟨r, hr⟩ : ∃ r, l.getD k peD = r := ⟨_, rfl⟩
        rw [hr] at hc
        obtain ⟨q0, q1, q2⟩ := hc.below hb (Below.refl _ _)
        have HRR := Lib.hid hr
        clear hr hc
        by_cases h1 : (300 : Int) < (r.id.size : Int)
        · have HE := Lib.hid (smallP_false l k hkl (by rw [HRR.out]; exact decide_eq_false (by omega)))
          go_wp2
          go_ret
          exact ⟨by rw [HE.out]; rfl, by trivial⟩
        · have HE := Lib.hid (show smallP r = true from decide_eq_true (by omega))
          go_wp2
          go_roundw
          case rel => exact ⟨k + 1, by go_num, by omega, by rw [take_snocP l k hkl, List.all_append, HF.out, HRR.out]; simp [HE.out], by trivial⟩
          case measure => simp [intOf]; omega
      · obtain rfl : k = l.length := by omega
        have HE := Lib.hid (show smallPL l = true by
          have hf := HF.out
          rw [List.take_length] at hf
          unfold smallPL; rw [hf, decide_eq_true (by omega)]; rfl)
        go_wp2
        go_ret
        exact ⟨by rw [HE.out]; rfl, by trivial⟩
end Go.Proofs.Ytnmlephjhcmbhaa
