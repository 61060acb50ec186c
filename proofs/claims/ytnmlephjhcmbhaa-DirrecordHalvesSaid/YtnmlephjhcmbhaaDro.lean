/- What both Decodes give, for any string. -/
import Derived.Test.YtnmlephjhcmbhaaDrk
import Derived.Test.YtnmlephjhcmbhaaDrn
namespace Go.Proofs.Ytnmlephjhcmbhaa
set_option linter.unusedSimpArgs false
set_option linter.unusedVariables false
open Go Go.RowKit
/-- The bytes of the date of a record. -/
def fD (s : ByteArray) : Nat → Nat := fun i => sB s (18 + i)
def padN (n : Nat) : Nat := (34 + n) / 2 * 2
def sizesBad (s : ByteArray) : Bool := decide (sB s 0 % 2 = 1 ∨ sB s 0 < 34 ∨ s.size < sB s 0 ∨ sB s 32 = 0 ∨ sB s 0 < padN (sB s 32))
def decE (s : ByteArray) : Int := if s.size < 34 then 10 else if sizesBad s then 10 else if sB s 1 ≠ 0 ∨ sB s 26 ≠ 0 ∨ sB s 27 ≠ 0 then 14 else rrE (fD s)
def recOf (s : ByteArray) : Rec := ⟨s.extract 33 (33 + sB s 32), (leR s 2 4 : Nat), (leR s 10 4 : Nat), rrA (fD s), rrB (fD s), (sB s 25 : Nat), (leR s 28 2 : Nat), s.extract (padN (sB s 32)) (sB s 0)⟩
def decR (s : ByteArray) : Rec := if decE s = 0 then recOf s else noRec
def decN (s : ByteArray) : Int := if decE s = 0 then (sB s 0 : Nat) else 0
theorem rr_congr {f g : Nat → Nat} (h : ∀ i, i < 7 → f i = g i) : rrA f = rrA g ∧ rrB f = rrB g ∧ rrE f = rrE g := by
  have h0 := h 0 (by decide)
  have h1 := h 1 (by decide)
  have h2 := h 2 (by decide)
  have h3 := h 3 (by decide)
  have h4 := h 4 (by decide)
  have h5 := h 5 (by decide)
  have h6 := h 6 (by decide)
  have hV : rrV f = rrV g := by rw [rrV, rrV, h0, h1, h2, h3, h4, h5]
  have hZ : rrZ f = rrZ g := by rw [rrZ, rrZ, h6]
  have hT : rrT f = rrT g := by rw [rrT, rrT, h0, h1, h2, h3, h4, h5, hZ]
  have hE : rrE f = rrE g := by rw [rrE, rrE, hV, hT, h6]
  exact ⟨by rw [rrA, rrA, hV, hT, h6], by rw [rrB, rrB, hE, hZ], hE⟩
theorem rr_part (s : ByteArray) (hs : 34 ≤ s.size) : rrA (sB (s.extract 18 25)) = rrA (fD s) ∧ rrB (sB (s.extract 18 25)) = rrB (fD s) ∧ rrE (sB (s.extract 18 25)) = rrE (fD s) :=
  rr_congr fun i hi => by rw [sB_extract s 18 25 i (by omega)]; rfl
theorem bneN (n : Nat) : ((n : Int) != 0) = true ↔ n ≠ 0 := by rw [bne_iff_ne]; omega
theorem bneF (n : Nat) : ((n : Int) != 0) = false ↔ n = 0 := by rw [bne_eq_false_iff_eq]; omega
theorem beqN (n : Nat) : ((n : Int) == 0) = true ↔ n = 0 := by rw [beq_iff_eq]; omega
theorem beqF (n : Nat) : ((n : Int) == 0) = false ↔ n ≠ 0 := by rw [beq_eq_false_iff_ne]; omega
theorem parN (n : Nat) : (((n : Int) % 2 != 0) = true ↔ n % 2 = 1) ∧ (((n : Int) % 2 != 0) = false ↔ n % 2 = 0) ∧ (((n : Int) % 2 == 1) = true ↔ n % 2 = 1) ∧ (((n : Int) % 2 == 1) = false ↔ n % 2 = 0) := by
  refine ⟨?_, ?_, ?_, ?_⟩
  · rw [bne_iff_ne]; omega
  · rw [bne_eq_false_iff_eq]; omega
  · rw [beq_iff_eq]; omega
  · rw [beq_eq_false_iff_ne]; omega
theorem padN_int (n : Nat) : (33 + (n : Int) + 1) / 2 * 2 = (padN n : Int) := by unfold padN; omega
theorem decR_bad {s : ByteArray} {e : Int} (h : decE s = e) (he : e ≠ 0) : decR s = noRec ∧ decN s = 0 := by
  rw [decR, decN, if_neg (by rw [h]; exact he), if_neg (by rw [h]; exact he)]
  exact ⟨rfl, rfl⟩
theorem decode_ok (s : ByteArray) (w : World) (hs61 : s.size < 2 ^ 61) : Calls Try.prog 23 #[.string s] w fun e w' => e = .returned (.tuple #[.agg (recA (decR s)), cN (decN s), cN (decE s)]) ∧ Below w.heap.size w w' := by
  by_cases h34 : s.size < 34
  · have hE : decE s = 10 := by rw [decE, if_pos h34]
    rw [(decR_bad hE (by decide)).1, (decR_bad hE (by decide)).2, hE]
    exact dec_short s w h34
  have hs : 34 ≤ s.size := by omega
  have l0 := sB_lt s 0
  have l32 := sB_lt s 32
  have l25 := sB_lt s 25
  have e0 := sB_get s 0 (by omega)
  have e1 := sB_get s 1 (by omega)
  have e25 := sB_get s 25 (by omega)
  have e26 := sB_get s 26 (by omega)
  have e27 := sB_get s 27 (by omega)
  have e32 := sB_get s 32 (by omega)
  obtain ⟨q1, q2, -, -⟩ := parN (sB s 0)
  have hp := padN_int (sB s 32)
  by_cases hb : sizesBad s = true
  · have hE : decE s = 10 := by rw [decE, if_neg h34, if_pos hb]
    rw [(decR_bad hE (by decide)).1, (decR_bad hE (by decide)).2, hE]
    rw [sizesBad, decide_eq_true_iff] at hb
    refine dec_bad s (sB s 0) (sB s 32) w hs e0 e32 l0 l32 _ hp ?_
    rw [q1, q2, beqN, beqF]
    omega
  have hb' := hb
  rw [sizesBad, decide_eq_true_iff] at hb
  have k1 := q2.2 (by omega)
  have k4 := (beqF (sB s 32)).2 (by omega)
  by_cases hu : sB s 1 ≠ 0 ∨ sB s 26 ≠ 0 ∨ sB s 27 ≠ 0
  · have hE : decE s = 14 := by rw [decE, if_neg h34, if_neg hb', if_pos hu]
    rw [(decR_bad hE (by decide)).1, (decR_bad hE (by decide)).2, hE]
    refine dec_unsup s (sB s 0) (sB s 1) (sB s 26) (sB s 27) (sB s 32) w hs e0 e1 e26 e27 e32 l0 l32 _ hp k1 (by omega) (by omega) k4 (by omega) ?_
    rw [bneN, bneN, bneN, bneF, bneF]
    omega
  have hE : decE s = rrE (fD s) := by rw [decE, if_neg h34, if_neg hb', if_neg hu]
  have k6 := (bneF (sB s 1)).2 (by omega)
  have k7 := (bneF (sB s 26)).2 (by omega)
  have k8 := (bneF (sB s 27)).2 (by omega)
  have hx : (s.extract 18 25).size = 7 := by rw [ByteArray.size_extract]; omega
  obtain ⟨r1, r2, r3⟩ := rr_part s hs
  have c2 := fun W => readRecord_ok (s.extract 18 25) W (by omega) (by omega)
  rw [r1, r2, r3] at c2
  by_cases hz : rrE (fD s) = 0
  · have hE0 := hE.trans hz
    rw [decR, decN, if_pos hE0, if_pos hE0, hE0]
    rw [hz] at c2
    exact dec_good s _ (sB s 0) (sB s 1) (sB s 25) (sB s 26) (sB s 27) (sB s 32) (padN (sB s 32)) _ _ _ _ _ w hs e0 e1 e25 e26 e27 e32 l0 l25 l32 _ hp k1 (by omega) (by omega) k4 (by omega) k6 k7 k8 rfl c2
      (fun W h => number_ok s 2 4 _ W h (by omega) (by decide) (by decide) (by omega)) (fun W h => number_ok s 10 4 _ W h (by omega) (by decide) (by decide) (by omega)) (fun W h => number_ok s 28 2 _ W h (by omega) (by decide) (by decide) (by omega)) (by omega) (by unfold padN; omega) (by omega)
  · have hE' := hE
    rw [(decR_bad hE hz).1, (decR_bad hE hz).2, hE']
    exact dec_date s _ (sB s 0) (sB s 1) (sB s 26) (sB s 27) (sB s 32) _ _ _ w hs e0 e1 e26 e27 e32 l0 l32 _ hp k1 (by omega) (by omega) k4 (by omega) k6 k7 k8 rfl c2 (by rw [bne_iff_ne]; exact hz)
theorem padPar (n : Nat) : (((n : Int) % 2 == 0) = false ∧ 33 + (n : Int) = (padN n : Int)) ∨ (((n : Int) % 2 == 0) = true ∧ 33 + (n : Int) + 1 = (padN n : Int)) := par_even n _ (padN_int n)
theorem rdecode_ok (s : ByteArray) (w : World) (hs61 : s.size < 2 ^ 61) : Calls Try.prog 24 #[.string s] w fun e w' => e = .returned (.tuple #[.agg (recA (decR s)), cN (decN s), cN (decE s)]) ∧ Below w.heap.size w w' := by
  by_cases h34 : s.size < 34
  · have hE : decE s = 10 := by rw [decE, if_pos h34]
    rw [(decR_bad hE (by decide)).1, (decR_bad hE (by decide)).2, hE]
    exact rdec_short s w h34
  have hs : 34 ≤ s.size := by omega
  have l0 := sB_lt s 0
  have l32 := sB_lt s 32
  have l25 := sB_lt s 25
  have e0 := sB_get s 0 (by omega)
  have e1 := sB_get s 1 (by omega)
  have e25 := sB_get s 25 (by omega)
  have e26 := sB_get s 26 (by omega)
  have e27 := sB_get s 27 (by omega)
  have e32 := sB_get s 32 (by omega)
  obtain ⟨-, -, q1, q2⟩ := parN (sB s 0)
  have hp := padPar (sB s 32)
  by_cases hb : sizesBad s = true
  · have hE : decE s = 10 := by rw [decE, if_neg h34, if_pos hb]
    rw [(decR_bad hE (by decide)).1, (decR_bad hE (by decide)).2, hE]
    rw [sizesBad, decide_eq_true_iff] at hb
    refine rdec_bad s (sB s 0) (sB s 32) w hs e0 e32 l0 l32 _ hp ?_
    rw [q1, q2, beqN, beqF]
    omega
  have hb' := hb
  rw [sizesBad, decide_eq_true_iff] at hb
  have k1 := q2.2 (by omega)
  have k4 := (beqF (sB s 32)).2 (by omega)
  by_cases hu : sB s 1 ≠ 0 ∨ sB s 26 ≠ 0 ∨ sB s 27 ≠ 0
  · have hE : decE s = 14 := by rw [decE, if_neg h34, if_neg hb', if_pos hu]
    rw [(decR_bad hE (by decide)).1, (decR_bad hE (by decide)).2, hE]
    refine rdec_unsup s (sB s 0) (sB s 1) (sB s 26) (sB s 27) (sB s 32) w hs e0 e1 e26 e27 e32 l0 l32 _ hp k1 (by omega) (by omega) k4 (by omega) ?_
    rw [bneN, bneN, bneN, bneF, bneF]
    omega
  have hE : decE s = rrE (fD s) := by rw [decE, if_neg h34, if_neg hb', if_neg hu]
  have k6 := (bneF (sB s 1)).2 (by omega)
  have k7 := (bneF (sB s 26)).2 (by omega)
  have k8 := (bneF (sB s 27)).2 (by omega)
  have hx : (s.extract 18 25).size = 7 := by rw [ByteArray.size_extract]; omega
  obtain ⟨r1, r2, r3⟩ := rr_part s hs
  have c2 := fun W => rreadRecord_ok (s.extract 18 25) W (by omega) (by omega)
  rw [r1, r2, r3] at c2
  by_cases hz : rrE (fD s) = 0
  · have hE0 := hE.trans hz
    rw [decR, decN, if_pos hE0, if_pos hE0, hE0]
    rw [hz] at c2
    exact rdec_good s _ (sB s 0) (sB s 1) (sB s 25) (sB s 26) (sB s 27) (sB s 32) (padN (sB s 32)) _ _ _ _ _ w hs e0 e1 e26 e27 e32 l0 l32 _ hp k1 (by omega) (by omega) k4 (by omega) e25 l25 k6 k7 k8 rfl c2
      (fun W => little20_ok s 2 4 W hs61 (by decide) (by decide) (by omega)) (fun W => little20_ok s 10 4 W hs61 (by decide) (by decide) (by omega)) (fun W => little20_ok s 28 2 W hs61 (by decide) (by decide) (by omega)) (by omega) (by omega)
  · have hE' := hE
    rw [(decR_bad hE hz).1, (decR_bad hE hz).2, hE']
    exact rdec_date s _ (sB s 0) (sB s 1) (sB s 26) (sB s 27) (sB s 32) _ _ _ w hs e0 e1 e26 e27 e32 l0 l32 _ hp k1 (by omega) (by omega) k4 (by omega) k6 k7 k8 rfl c2 (by rw [bne_iff_ne]; exact hz)
end Go.Proofs.Ytnmlephjhcmbhaa
