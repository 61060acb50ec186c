/- The scrambled sector: plain mathematics. -/
import Derived.Test.YtmpojdjknahoiaaXor
namespace Go.Proofs.Ytmpojdjknahoiaa
open Go Go.RowKit
def scrL (l : List UInt8) : Nat → List UInt8
  | 0 => l
  | i + 1 => (scrL l i).set (12 + i) ((scrL l i).getD (12 + i) 0 ^^^ seqB i)
theorem scrL_length (l : List UInt8) (i : Nat) : (scrL l i).length = l.length := by
  induction i with
  | zero => rfl
  | succ i ih => simp [scrL, ih]
theorem scrL_get (l : List UInt8) (i j : Nat) (hj : j < l.length) : (scrL l i)[j]? = some (if 12 ≤ j ∧ j < 12 + i then l[j] ^^^ seqB (j - 12) else l[j]) := by
  induction i with
  | zero => rw [if_neg (by omega)]; simp [scrL, hj]
  | succ i ih =>
    rw [scrL, List.getElem?_set]
    by_cases e : 12 + i = j
    · subst e
      rw [if_pos rfl, if_pos (by rw [scrL_length]; exact hj), if_pos (by omega), List.getD_eq_getElem?_getD, ih, if_neg (by omega)]
      simp
    · rw [if_neg e, ih]
      by_cases h : 12 ≤ j ∧ j < 12 + i
      · rw [if_pos h, if_pos (by omega)]
      · rw [if_neg h, if_neg (by omega)]
theorem seqL_get (n j : Nat) (h : j < n) : (seqL n)[j]? = some (seqB j) := by simp [seqL, h]
theorem scrL_full (l : List UInt8) (n : Nat) (h : l.length = 12 + n) : scrL l n = l.take 12 ++ xorL (l.drop 12) (seqL n) := by
  apply List.ext_getElem?
  intro j
  by_cases hj : j < l.length
  · rw [scrL_get l n j hj]
    by_cases h12 : j < 12
    · rw [if_neg (by omega), List.getElem?_append_left (by simp; omega)]
      simp [h12, hj]
    · rw [if_pos (by omega), List.getElem?_append_right (by simp; omega)]
      have e : j - (l.take 12).length = j - 12 := by simp; omega
      rw [e, xorL, List.getElem?_zipWith, List.getElem?_drop, seqL_get n (j - 12) (by omega), show 12 + (j - 12) = j by omega, List.getElem?_eq_getElem hj]
  · rw [List.getElem?_eq_none (by rw [scrL_length]; omega), List.getElem?_eq_none (by rw [List.length_append, xorL_length, seqL_length]; simp; omega)]
theorem cb_set (l tl) (i : Nat) (b : UInt8) (h : i < l.length) : ((cb l ++ tl).toArray).setIfInBounds i (.int .u8 (b.toNat : Int)) = (cb (l.set i b) ++ tl).toArray := by
  rw [List.setIfInBounds_toArray, List.set_append_left _ _ (by rw [cb_length]; exact h)]
  simp [cb, List.map_set]
theorem cb_get (l : List UInt8) (i : Nat) (h : i < l.length) : (cb l)[i]? = some (.int .u8 ((l.getD i 0).toNat : Int)) := by
  simp [cb, h, List.getD]
theorem scrL_zero (l : List UInt8) : scrL l 0 = l := rfl
theorem scrL_succ (l : List UInt8) (i : Nat) : scrL l (i + 1) = (scrL l i).set (12 + i) ((scrL l i).getD (12 + i) 0 ^^^ seqB i) := rfl
attribute [irreducible] scrL
end Go.Proofs.Ytmpojdjknahoiaa
