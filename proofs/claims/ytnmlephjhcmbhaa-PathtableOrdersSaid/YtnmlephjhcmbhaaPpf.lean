/- pathtable.Find, Size; Same of the reference. -/
import Derived.Test.YtnmlephjhcmbhaaPpe
namespace Go.Proofs.Ytnmlephjhcmbhaa
set_option linter.unusedSimpArgs false
set_option linter.unusedVariables false
open Go Go.RowKit
def nextF (l : List PE) (n : Nat) (id : ByteArray) : Int := idxP (fun x => x.par == (n : Int) && x.id.toList == id.toList) (l.drop n)
def findM (l : List PE) : List ByteArray → Nat → Int × Int
  | [], n => (n, 0)
  | id :: p, n => if nextF l n id < 0 then (0, 6) else findM l p (n + (nextF l n id).toNat + 1)
def findR (l : List PE) (p : List ByteArray) : Int × Int := if l.length = 0 then (0, 6) else findM l p 1
theorem nextF_lt (l : List PE) (n : Nat) (id : ByteArray) (h : ¬ nextF l n id < 0) : n + (nextF l n id).toNat + 1 ≤ l.length := by
  unfold nextF idxP at h ⊢
  split at h
  · rename_i h1
    rw [if_pos h1]
    rw [List.length_drop] at h1
    omega
  · omega
/-- A slice of strings that can be read. -/
def RowB (W : World) (a : Option Addr) (l : List ByteArray) : Prop := ∀ k, k < l.length → ∃ b off, a = some ⟨b, off, none⟩ ∧ b < W.heap.size ∧ W.cell? ⟨b, off + k, none⟩ = some (.string (l.getD k ByteArray.empty))
theorem RowB.below {W W' : World} {a : Option Addr} {l : List ByteArray} (h : RowB W a l) (k : Below W.heap.size W W') : RowB W' a l := fun i hi => by
  obtain ⟨b, off, rfl, hb, hc⟩ := h i hi
  exact ⟨b, off, rfl, Nat.lt_of_lt_of_le hb k.size, (k.cell (p := ⟨b, off + i, none⟩) hb).trans hc⟩
theorem RowB_own {W : World} {B : Nat} {u : Value} (l : List ByteArray) (h : W.ownsRow B 9 1 u l.length (strB l)) : ∃ a c, u = .slice a l.length c ∧ RowB W a l := by
  rcases h.2 with ⟨rfl, h0⟩ | ⟨g, cap, cur, rfl, hb, hg, h1, h2, h3, h4⟩
  · exact ⟨none, 0, by rw [h0], fun k hk => by omega⟩
  · refine ⟨some ⟨g, 0, none⟩, cap, rfl, fun k hk => ⟨g, 0, rfl, lt_of_block hg, ?_⟩⟩
    rw [Nat.zero_add, World.ownsRow.cellAt h k (by omega)]
    simp [strB, List.getD_eq_getElem?_getD, hk]
set_option maxRecDepth 100000 in
set_option maxHeartbeats 2000000 in
theorem pfind_ok (a : Option Addr) (c : Nat) (l : List PE) (pa : Option Addr) (pc : Nat) (p : List ByteArray) (w : World) (hl : l.length ≤ 2000) (hp : p.length ≤ 2000) (hlc : l.length ≤ c) (hrow : RowP w a l) (hrp : RowB w pa p) :
    Calls Try.prog 38 #[.slice a l.length c, .slice pa p.length pc] w fun e w' => e = .returned (.tuple #[cN (findR l p).1, cN (findR l p).2]) ∧ Below w.heap.size w w' := by
  by_cases h0 : l.length = 0
  · rw [show findR l p = (0, 6) by rw [findR, if_pos h0]]
    have g0 : ((l.length : Int) == 0) = true := by rw [h0]; rfl
    clear h0 hrow hrp
    go_enter Try.func38, Try.ntmps38
    go_wp2
    go_ret2
    exact ⟨rfl, Below.refl _ w⟩
  · have g0 : ((l.length : Int) == 0) = false := beq_eq_false_iff_ne.2 (by omega)
    have HX := Lib.hid (show findR l p = findM l p 1 by rw [findR, if_neg h0])
    obtain ⟨b, off, rfl, hb, hc⟩ := hrow.addr (by omega)
    have HR := Lib.hid hrow
    have HRP := Lib.hid hrp
    have HL0 := Lib.hid h0
    clear hrow hrp hb hc h0
    go_enter Try.func38, Try.ntmps38
    go_wp2
    go_loopw [15, 8, 9] (fun i _ _ wr => ∃ k n : Nat, i = cN k ∧ k ≤ p.length ∧ n ≤ l.length ∧ findM l p 1 = findM l (p.drop k) n ∧ wr.heap[w.heap.size]? = some (.cells #[cN (n : Int)] 3 (0, 0)) ∧ Below w.heap.size w wr) (fun i _ _ _ => p.length - (intOf i).toNat)
    case atStart => exact ⟨0, 1, rfl, Nat.zero_le _, by have := HL0.out; omega, rfl, World.alloc_heap_new _ _, bald (Below.refl _ w) _⟩
    case round =>
      obtain ⟨k, n, rfl, hk, hn, hE, hF, hB⟩ := hrel
      have HE := Lib.hid hE
      have HF := Lib.hid hF
      have HB := Lib.hid hB
      clear hE
      by_cases hlt : (k : Int) < (p.length : Int)
      · have hkl : k < p.length := by omega
        obtain ⟨pb, po, rfl, hpb, hpc⟩ := HRP.out.below hB k hkl
        obtain ⟨id, hid⟩ : ∃ x, p.getD k ByteArray.empty = x := ⟨_, rfl⟩
        rw [hid] at hpc
        have p0 := Lib.cell_of_heap ((Lib.alloc_old wr (.cells #[.string id] 9) _ (lt_of_block hF)).trans hF) 0
        have hcap : (n : Int) ≤ (l.length : Int) := by omega
        have hstep : findM l (p.drop k) n = if nextF l n id < 0 then (0, 6) else findM l (p.drop (k + 1)) (n + (nextF l n id).toNat + 1) := by
          rw [List.drop_eq_getElem_cons hkl, findM]
          rw [List.getD_eq_getElem?_getD, List.getElem?_eq_getElem hkl, Option.getD_some] at hid
          rw [hid]
        have HS := Lib.hid hstep
        clear hid hstep hF
        have hF1 : (wr.alloc (.cells #[.string id] 9)).heap[w.heap.size]? = some (.cells #[cN (n : Int)] 3 (0, 0)) := (Lib.alloc_old wr _ _ (lt_of_block HF.out)).trans HF.out
        have hF2 : (wr.alloc (.cells #[.string id] 9)).heap[wr.heap.size]? = some (.cells #[.string id] 9 (0, 0)) := World.alloc_heap_new _ _
        have hB2 : Below w.heap.size w (wr.alloc (.cells #[.string id] 9)) := bald hB _
        have cI : ∀ ad cc, RowP (wr.alloc (.cells #[.string id] 9)) ad (l.drop n) → Calls Try.prog 81 #[.slice ad (l.length - n) cc, .func (.func 82) #[] #[.pointer (some ⟨w.heap.size, 0, none⟩), .pointer (some ⟨wr.heap.size, 0, none⟩)]] (wr.alloc (.cells #[.string id] 9)) fun e w' => e = .returned (cN (nextF l n id)) ∧ Below (wr.alloc (.cells #[.string id] 9)).heap.size (wr.alloc (.cells #[.string id] 9)) w' := fun ad cc h => by
          have := iffind_ok n id w.heap.size wr.heap.size ad cc (l.drop n) (wr.alloc (.cells #[.string id] 9)) (by rw [List.length_drop]; omega) hF1 hF2 h
          rw [List.length_drop] at this
          exact this
        have HNX := Lib.hid (nextF_lt l n id)
        obtain ⟨v, hv⟩ : ∃ v, nextF l n id = v := ⟨_, rfl⟩
        rw [hv] at cI HS HNX
        have HB2 := Lib.hid hB2
        have HF1 := Lib.hid hF1
        clear hv hF1 hF2 hB2
        have hnc : (n : Int) ≤ (c : Int) := by omega
        have hlc2 : (l.length : Int) ≤ (c : Int) := by omega
        by_cases hcn : c = n
        · obtain rfl : n = l.length := by omega
          obtain rfl : c = l.length := by omega
          have hd : l.drop l.length = [] := List.drop_length
          have c1 := cI (some ⟨b, off, none⟩) 0 (by rw [hd]; intro i hi; simp at hi)
          rw [Nat.sub_self] at c1
          clear cI hd hcn hnc hlc2 hcap hn hlc
          by_cases hneg : v < 0
          · have HN := Lib.hid (show findR l p = (0, 6) by rw [HX.out, HE.out, HS.out, if_pos hneg])
            go_wp2_with fail
            with_reducible refine c1.mono ?_
            rintro e w1 ⟨rfl, hB1⟩
            have HB1 := Lib.hid (HB2.out.trans (hB1.mono HB2.out.size))
            clear hB1 c1 hB
            go_wp2
            go_ret2
            exact ⟨by rw [HN.out]; rfl, HB1.out⟩
          · exfalso
            have := HNX.out hneg
            omega
        · have hcn2 : n < c := by omega
          have hcn3 : (n : Int) < (c : Int) := by omega
          have c1 := cI (some ⟨b, off + n * 3, none⟩) (c - n) ((HR.out.below HB2.out).drop n)
          clear cI hcn
          by_cases hneg : v < 0
          · have HN := Lib.hid (show findR l p = (0, 6) by rw [HX.out, HE.out, HS.out, if_pos hneg])
            go_wp2_with fail
            with_reducible refine c1.mono ?_
            rintro e w1 ⟨rfl, hB1⟩
            have HB1 := Lib.hid (HB2.out.trans (hB1.mono HB2.out.size))
            clear hB1 c1 hB
            go_wp2
            go_ret2
            exact ⟨by rw [HN.out]; rfl, HB1.out⟩
          · have hneg2 : 0 ≤ v := by omega
            obtain ⟨q, rfl⟩ : ∃ q : Nat, v = q := ⟨v.toNat, by omega⟩
            have HN := Lib.hid (show findM l p 1 = findM l (p.drop (k + 1)) (n + q + 1) by rw [HE.out, HS.out, if_neg hneg, Int.toNat_natCast])
            have hqn := HNX.out hneg
            rw [Int.toNat_natCast] at hqn
            go_wp2_with fail
            with_reducible refine c1.mono ?_
            rintro e w1 ⟨rfl, hB1⟩
            have hF3 := (hB1.block _ (lt_of_block HF1.out)).trans HF1.out
            have p1 := Lib.cell_of_heap hF3 0
            have hfz : w1.frozen? ⟨w.heap.size, 0, none⟩ = false := Lib.frozen_of_heap hF3 0
            have HF3 := Lib.hid hF3
            have HB1 := Lib.hid (HB2.out.trans (hB1.mono HB2.out.size))
            clear hB1 c1 hB hF3 p0
            go_wp2
            go_roundw
            case rel => exact ⟨k + 1, n + q + 1, by go_num, by omega, by omega, HN.out, by
              have := row_set 0 (cN (((n + q + 1 : Nat)) : Int)) HF3.out
              simpa [Int.add_assoc] using this, HB1.out.setCell (p := ⟨w.heap.size, 0, none⟩) (Nat.le_refl _) _⟩
            case measure => simp [intOf]; omega
      · obtain rfl : k = p.length := by omega
        have HN := Lib.hid (show findR l p = ((n : Int), 0) by rw [HX.out, HE.out, List.drop_length]; rfl)
        have p0 := Lib.cell_of_heap hF 0
        clear hF
        go_wp2
        go_ret2
        exact ⟨by rw [HN.out]; rfl, HB.out⟩
end Go.Proofs.Ytnmlephjhcmbhaa
