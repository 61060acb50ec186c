/- Slices of directory records: Find, and Same of the reference. -/
import Derived.Test.YtnmlephjhcmbhaaGreatDkc
import Derived.Test.YtnmlephjhcmbhaaGreatMi
namespace Go.Proofs.YtnmlephjhcmbhaaGreat
set_option linter.unusedSimpArgs false
set_option linter.unusedVariables false
open Go Go.RowKit
def recD : Rec := ⟨ByteArray.empty, 0, 0, 0, 0, 0, 0, ByteArray.empty⟩
def CellsR (W : World) (b o : Nat) (r : Rec) : Prop :=
  W.cell? ⟨b, o, none⟩ = some (.string r.id) ∧ W.cell? ⟨b, o + 1, none⟩ = some (cN r.lba) ∧ W.cell? ⟨b, o + 2, none⟩ = some (cN r.len) ∧ W.cell? ⟨b, o + 3, none⟩ = some (cN r.time) ∧
  W.cell? ⟨b, o + 4, none⟩ = some (cN r.zone) ∧ W.cell? ⟨b, o + 5, none⟩ = some (cN r.flags) ∧ W.cell? ⟨b, o + 6, none⟩ = some (cN r.seq) ∧ W.cell? ⟨b, o + 7, none⟩ = some (.string r.use)
theorem CellsR.below {W W' : World} {b o : Nat} {r : Rec} (h : CellsR W b o r) (hb : b < W.heap.size) (k : Below W.heap.size W W') : CellsR W' b o r := by
  unfold CellsR at *
  rw [k.cell (p := ⟨b, o, none⟩) hb, k.cell (p := ⟨b, o + 1, none⟩) hb, k.cell (p := ⟨b, o + 2, none⟩) hb, k.cell (p := ⟨b, o + 3, none⟩) hb, k.cell (p := ⟨b, o + 4, none⟩) hb, k.cell (p := ⟨b, o + 5, none⟩) hb, k.cell (p := ⟨b, o + 6, none⟩) hb, k.cell (p := ⟨b, o + 7, none⟩) hb]
  exact h
/-- A slice of records that can be read. -/
def RowR (W : World) (a : Option Addr) (l : List Rec) : Prop := ∀ k, k < l.length → ∃ b off, a = some ⟨b, off, none⟩ ∧ b < W.heap.size ∧ CellsR W b (off + k * 8) (l.getD k recD)
theorem RowR.below {W W' : World} {a : Option Addr} {l : List Rec} (h : RowR W a l) (k : Below W.heap.size W W') : RowR W' a l := fun i hi => by
  obtain ⟨b, off, rfl, hb, hc⟩ := h i hi
  exact ⟨b, off, rfl, Nat.lt_of_lt_of_le hb k.size, hc.below hb k⟩
set_option maxRecDepth 100000 in
set_option maxHeartbeats 400000 in
theorem dfind1_ok (r : Rec) (id : ByteArray) (F : Nat) (w : World) (hF : w.heap[F]? = some (.cells #[.string id] 9 (0, 0))) :
    Calls Tryz.prog 43 #[.agg (recA r), .pointer (some ⟨F, 0, none⟩)] w fun e w' => e = .returned (.bool (r.id.toList == id.toList)) ∧ Below w.heap.size w w' := by
  have h2 := (Lib.alloc_old w (.cells (recA r) 45) _ (lt_of_block hF)).trans hF
  have p0 := Lib.cell_of_heap h2 0
  clear h2 hF
  go_enter Tryz.func43, Tryz.ntmps43
  go_wp2
  go_ret
  exact ⟨rfl, bald (Below.refl _ w) _⟩
/-- The first record with an identifier. -/
def fndR (l : List Rec) (id : ByteArray) : Nat := l.findIdx fun r => r.id.toList == id.toList
def idxR (l : List Rec) (id : ByteArray) : Int := if fndR l id < l.length then (fndR l id : Int) else -1
set_option maxRecDepth 100000 in
set_option maxHeartbeats 1000000 in
theorem ifrec_ok (a : Option Addr) (c : Nat) (l : List Rec) (id : ByteArray) (F : Nat) (w : World) (hl : l.length ≤ 2 ^ 50) (hF : w.heap[F]? = some (.cells #[.string id] 9 (0, 0))) (hrow : RowR w a l) :
    Calls Tryz.prog 42 #[.slice a l.length c, .func (.func 43) #[] #[.pointer (some ⟨F, 0, none⟩)]] w fun e w' => e = .returned (cN (idxR l id)) ∧ Below w.heap.size w w' := by
  have HR := Lib.hid hrow
  have HF := Lib.hid hF
  clear hrow hF
  go_enter Tryz.func42, Tryz.ntmps42
  go_wp2
  go_loopw [8, 5] (fun i _ wr => ∃ k : Nat, i = cN k ∧ k ≤ l.length ∧ k ≤ fndR l id ∧ Below w.heap.size w wr) (fun i _ _ => l.length - (intOf i).toNat)
  case atStart => exact ⟨0, rfl, Nat.zero_le _, Nat.zero_le _, Below.refl _ w⟩
  case round =>
    obtain ⟨k, rfl, hk, hf, hB⟩ := hrel
    have HB := Lib.hid hB
    by_cases hlt : (k : Int) < (l.length : Int)
    · have hkl : k < l.length := by omega
      obtain ⟨b, off, rfl, hb, hc⟩ := HR.out k hkl
      obtain ⟨r, hr⟩ : ∃ r, l.getD k recD = r := ⟨_, rfl⟩
      rw [hr] at hc
      obtain ⟨q0, q1, q2, q3, q4, q5, q6, q7⟩ := hc.below hb hB
      have hF2 := (hB.block _ (lt_of_block HF.out)).trans HF.out
      have c1 := dfind1_ok r id F wr hF2
      have hr' : l[k] = r := by rw [← hr, List.getD_eq_getElem?_getD, List.getElem?_eq_getElem hkl, Option.getD_some]
      have HRR := Lib.hid hr'
      clear hr hc hr' hF2 hB
      cases he : (r.id.toList == id.toList)
      · rw [he] at c1
        have HE := Lib.hid he
        clear he
        go_wp2_with (go_at_call 43; (with_reducible refine c1.mono ?_); rintro e w1 ⟨rfl, hB1⟩)
        go_roundw
        case rel =>
          refine ⟨k + 1, by go_num, by omega, ?_, bthen HB.out hB1⟩
          rcases Nat.lt_or_ge k (fndR l id) with h | h
          · exact h
          · have hkf : fndR l id = k := by omega
            have := List.findIdx_getElem (p := fun r : Rec => r.id.toList == id.toList) (xs := l) (w := by unfold fndR at hkf; omega)
            simp only [show l.findIdx (fun r : Rec => r.id.toList == id.toList) = k from hkf] at this
            rw [HRR.out, HE.out] at this
            cases this
        case measure => simp [intOf]; omega
      · rw [he] at c1
        have HE := Lib.hid he
        clear he
        go_wp2_with (go_at_call 43; (with_reducible refine c1.mono ?_); rintro e w1 ⟨rfl, hB1⟩)
        go_ret
        refine ⟨ret_int ?_, bthen HB.out hB1⟩
        have hkf : fndR l id = k := by
          have : fndR l id ≤ k := by
            rcases Nat.lt_or_ge k (fndR l id) with h | h
            · have := List.not_of_lt_findIdx (p := fun r : Rec => r.id.toList == id.toList) (xs := l) h
              rw [HRR.out] at this
              simp [HE.out] at this
            · exact h
          omega
        rw [idxR, hkf, if_pos hkl]
    · obtain rfl : k = l.length := by omega
      go_wp2
      go_ret
      refine ⟨ret_int ?_, HB.out⟩
      have : fndR l id ≤ l.length := List.findIdx_le_length
      rw [idxR, if_neg (by omega)]
end Go.Proofs.YtnmlephjhcmbhaaGreat
