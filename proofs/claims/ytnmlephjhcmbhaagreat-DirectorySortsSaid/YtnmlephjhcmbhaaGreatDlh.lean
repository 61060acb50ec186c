/- The reference's Find. -/
import Derived.Test.YtnmlephjhcmbhaaGreatDkj
namespace Go.Proofs.YtnmlephjhcmbhaaGreat
set_option linter.unusedSimpArgs false
set_option linter.unusedVariables false
open Go Go.RowKit
set_option maxRecDepth 100000 in
set_option maxHeartbeats 1000000 in
theorem rdfind_ok (a : Option Addr) (c : Nat) (l : List Rec) (id : ByteArray) (w : World) (hl : l.length ≤ 2 ^ 50) (hrow : RowR w a l) :
    Calls Tryz.prog 15 #[.slice a l.length c, .string id] w fun e w' => e = .returned (.tuple #[cN (max (idxR l id) 0), .bool (decide (0 ≤ idxR l id))]) ∧ w' = w := by
  have HR := Lib.hid hrow
  clear hrow
  go_enter Tryz.func15, Tryz.ntmps15
  go_wp2
  go_loopw [6] (fun i wr => ∃ k : Nat, i = cN k ∧ k ≤ l.length ∧ k ≤ fndR l id ∧ wr = w) (fun i _ => l.length - (intOf i).toNat)
  case atStart => exact ⟨0, rfl, Nat.zero_le _, Nat.zero_le _, rfl⟩
  case round =>
    obtain ⟨k, rfl, hk, hf, rfl⟩ := hrel
    have HF := Lib.hid hf
    clear hf
    by_cases hlt : (k : Int) < (l.length : Int)
    · have hkl : k < l.length := by omega
      obtain ⟨b, off, rfl, hb, hc⟩ := HR.out k hkl
      obtain ⟨r, hr⟩ : ∃ r, l.getD k recD = r := ⟨_, rfl⟩
      rw [hr] at hc
      obtain ⟨q0, q1, q2, q3, q4, q5, q6, q7⟩ := hc.below hb (Below.refl _ _)
      have hr' : l[k] = r := by rw [← hr, List.getD_eq_getElem?_getD, List.getElem?_eq_getElem hkl, Option.getD_some]
      have HRR := Lib.hid hr'
      clear hr hc hr' hb
      by_cases he : (r.id.toList == id.toList) = true
      · have HE := Lib.hid he
        go_wp2
        go_ret2
        have hkf : fndR l id = k := by
          have : fndR l id ≤ k := by
            rcases Nat.lt_or_ge k (fndR l id) with h | h
            · have := List.not_of_lt_findIdx (p := fun r : Rec => r.id.toList == id.toList) (xs := l) h
              rw [HRR.out, HE.out] at this
              cases this
            · exact h
          have := HF.out
          omega
        refine ⟨?_, by trivial⟩
        show Ending.returned (.tuple #[cN k, .bool true]) = _
        rw [idxR, hkf, if_pos hkl, show max ((k : Nat) : Int) 0 = k by omega, decide_eq_true (by omega)]
      · rw [Bool.not_eq_true] at he
        have HE := Lib.hid he
        go_wp2
        go_roundw
        case rel =>
          refine ⟨k + 1, by go_num, by omega, ?_, by trivial⟩
          rcases Nat.lt_or_ge k (fndR l id) with h | h
          · exact h
          · have hkf : fndR l id = k := by have := HF.out; omega
            have := List.findIdx_getElem (p := fun r : Rec => r.id.toList == id.toList) (xs := l) (w := by unfold fndR at hkf; omega)
            simp only [show l.findIdx (fun r : Rec => r.id.toList == id.toList) = k from hkf] at this
            rw [HRR.out, HE.out] at this
            cases this
        case measure => simp [intOf]; omega
    · obtain rfl : k = l.length := by omega
      go_wp2
      go_ret2
      have : fndR l id ≤ l.length := List.findIdx_le_length
      refine ⟨?_, by trivial⟩
      show Ending.returned (.tuple #[cN 0, .bool false]) = _
      rw [idxR, if_neg (by have := HF.out; omega)]
      rfl
end Go.Proofs.YtnmlephjhcmbhaaGreat
