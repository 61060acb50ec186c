/- The dates of records: for any time and zone, what both packages write, and that it is read back. -/
import Derived.Test.YtnmlephjhcmbhaaDro
import Derived.Test.YtnmlephjhcmbhaaDth
namespace Go.Proofs.Ytnmlephjhcmbhaa
set_option linter.unusedSimpArgs false
set_option linter.unusedVariables false
open Go Go.RowKit
theorem byteN (n : Nat) (h : n < 256) : (UInt8.ofNat n).toNat = n := by rw [UInt8.toNat_ofNat', Nat.mod_eq_of_lt (show n < 2 ^ 8 by omega)]
/-- The functions Record of both packages give the string d and the error e. -/
structure RecS (t z : Int) (d : ByteArray) (e : Int) : Prop where
  main : ∀ W : World, Calls Try.prog 49 #[cN t, cN z] W fun x w' => x = .returned (.tuple #[.string d, cN e]) ∧ Below W.heap.size W w'
  ref : ∀ W : World, Calls Try.prog 56 #[cN t, cN z] W fun x w' => x = .returned (.tuple #[.string d, cN e]) ∧ Below W.heap.size W w'
/-- A time, in the zone: a date and a time of day. -/
structure TimeOf (t z : Int) (x : Dt) (h m s : Nat) : Prop where
  good : x.Good
  hh : h < 24
  hm : m < 60
  hs : s < 60
  eq : t + 60 * z = (x.days : Int) * 86400 + h * 3600 + m * 60 + s
def inT (t z : Int) : Prop := (315532800 ≤ t ∧ t ≤ 4102444799) ∧ z % 15 = 0 ∧ -720 ≤ z ∧ z ≤ 780
theorem time_of {t z : Int} (h : inT t z) : ∃ x hh mm ss, TimeOf t z x hh mm ss := by
  unfold inT at h
  obtain ⟨L, hL⟩ : ∃ L : Nat, t + 60 * z = L := ⟨(t + 60 * z).toNat, by omega⟩
  obtain ⟨x, hx, hxd⟩ := date_of (L / 86400)
  exact ⟨x, L % 86400 / 3600, L % 86400 / 60 % 60, L % 86400 % 60, hx, by omega, by omega, by omega, by omega⟩
def recB (x : Dt) (h m s : Nat) (z : Int) : ByteArray := ⟨(recL (1970 + x.k) (x.c + 1) (x.d + 1) h m s z).toArray⟩
theorem recS_good {t z : Int} {x : Dt} {h m s : Nat} (hT : inT t z) (k : TimeOf t z x h m s) : RecS t z (recB x h m s z) 0 :=
  ⟨fun W => record_ok t z x h m s W k.good hT.1 hT.2 k.hh k.hm k.hs k.eq, fun W => rrecord_ok t z x h m s W k.good hT.1 hT.2 k.hh k.hm k.hs k.eq⟩
theorem recS_bad {t z : Int} (hT : ¬ inT t z) : RecS t z ByteArray.empty 2 := ⟨fun W => record_bad t z W hT, fun W => rrecord_bad t z W hT⟩
theorem zN_zB {z : Int} (h : z % 15 = 0 ∧ -720 ≤ z ∧ z ≤ 780) : 15 * zN (zB z).toNat = z ∧ zR (zB z).toNat = true := by
  obtain ⟨q, hq⟩ : ∃ q, z / 15 = q := ⟨_, rfl⟩
  have hb : -48 ≤ q ∧ q ≤ 52 := by omega
  have e : (zB z).toNat = ((q + 256) % 256).toNat := by rw [zB, hq, byteN _ (by omega)]
  have e2 : zN (zB z).toNat = q := by
    rw [e, zN]
    split <;> omega
  exact ⟨by rw [e2]; omega, by rw [zR, e2, decide_eq_true_iff]; exact hb⟩
/-- What is written is read back. -/
theorem rec_read {t z : Int} {x : Dt} {h m s : Nat} (hT : inT t z) (k : TimeOf t z x h m s) {f : Nat → Nat} (hf : ∀ i, i < 7 → f i = ((recL (1970 + x.k) (x.c + 1) (x.d + 1) h m s z).getD i 0).toNat) : rrE f = 0 ∧ rrA f = t ∧ rrB f = z := by
  obtain ⟨hg, hh, hm, hs, he⟩ := k
  have hk := years_le hT.1.2 (by have := hT.2; omega) he
  have hd := (mD_ge (1970 + x.k) (x.c + 1)).2
  have g1 := hg.1
  have g2 := hg.2
  have f0 : f 0 = 1970 + x.k - 1900 := (hf 0 (by decide)).trans (byteN _ (by omega))
  have f1 : f 1 = x.c + 1 := (hf 1 (by decide)).trans (byteN _ (by omega))
  have f2 : f 2 = x.d + 1 := (hf 2 (by decide)).trans (byteN _ (by omega))
  have f3 : f 3 = h := (hf 3 (by decide)).trans (byteN _ (by omega))
  have f4 : f 4 = m := (hf 4 (by decide)).trans (byteN _ (by omega))
  have f5 : f 5 = s := (hf 5 (by decide)).trans (byteN _ (by omega))
  have f6 : f 6 = (zB z).toNat := hf 6 (by decide)
  have fY : 1900 + f 0 = 1970 + x.k := by omega
  obtain ⟨z1, z2⟩ := zN_zB hT.2
  have hV : rrV f = true := by
    rw [rrV, fY, f1, f2, f3, f4, f5, validB_iff]
    omega
  have hZ : rrZ f = z := by rw [rrZ, f6, z1]
  have hT2 : rrT f = t := by
    rw [rrT, fY, f1, f2, f3, f4, f5, hZ, secI_date]
    omega
  have hI : isT t = true := by rw [isT, decide_eq_true_iff]; exact hT.1
  have hE : rrE f = 0 := by rw [rrE, hV, hT2, f6, z2, fE, hI]; rfl
  refine ⟨hE, ?_, ?_⟩
  · rw [rrA, hV, hT2, f6, z2, fT, hI]; rfl
  · rw [rrB, if_pos hE, hZ]
theorem rr_cases (f : Nat → Nat) : (rrE f = 0 ∧ rrV f = true ∧ zR (f 6) = true ∧ isT (rrT f) = true ∧ rrA f = rrT f ∧ rrB f = rrZ f) ∨ (rrE f ≠ 0 ∧ rrA f = 0 ∧ rrB f = 0) := by
  rw [rrB]
  unfold rrE rrA fE fT
  cases rrV f <;> cases zR (f 6) <;> cases isT (rrT f) <;> simp
/-- What is read was written so: the bytes of a date that is read are those that are written for it. -/
theorem rec_canon {f : Nat → Nat} (hf8 : ∀ i, f i < 256) (hE : rrE f = 0) : inT (rrA f) (rrB f) ∧ ∃ x h m s, TimeOf (rrA f) (rrB f) x h m s ∧ ∀ i, i < 7 → f i = ((recL (1970 + x.k) (x.c + 1) (x.d + 1) h m s (rrB f)).getD i 0).toNat := by
  rcases rr_cases f with ⟨-, hV, hR, hI, hA, hB⟩ | ⟨h, -⟩
  · rw [hA, hB]
    rw [isT, decide_eq_true_iff] at hI
    have hR' := hR
    rw [zR, decide_eq_true_iff] at hR
    have hin : inT (rrT f) (rrZ f) := ⟨hI, by rw [rrZ]; omega, by rw [rrZ]; omega, by rw [rrZ]; omega⟩
    refine ⟨hin, ?_⟩
    have hsec : rrT f + 60 * rrZ f = secI (1900 + f 0) (f 1) (f 2) (f 3) (f 4) (f 5) := by rw [rrT]; omega
    have hv := hV
    rw [rrV, validB_iff] at hV
    have hY : 1970 ≤ 1900 + f 0 := by
      rcases Nat.lt_or_ge (1900 + f 0) 1970 with hlt | hge
      · exfalso
        have := dayI_neg (1900 + f 0) (f 1) (f 2) hlt (by omega) (by omega) (by omega)
        rw [secI] at hsec
        have hz : -720 ≤ rrZ f := hin.2.2.1
        omega
      · exact hge
    obtain ⟨x, hg, e1, e2, e3⟩ := date_clock _ _ _ _ _ _ hv hY
    refine ⟨x, f 3, f 4, f 5, ⟨hg, by omega, by omega, by omega, ?_⟩, ?_⟩
    · rw [hsec, ← e1, ← e2, ← e3, secI_date]
    · have b0 : f 0 = 1970 + x.k - 1900 := by omega
      have hz6 : f 6 = (zB (rrZ f)).toNat := by
        have hb := hf8 6
        have hq : rrZ f / 15 = zN (f 6) := by rw [rrZ]; omega
        rw [zB, hq, byteN _ (by omega)]
        rw [zN]
        split <;> omega
      intro i hi
      match i, hi with
      | 0, _ => rw [b0]; exact (byteN _ (by have := hf8 0; omega)).symm
      | 1, _ => rw [e2]; exact (byteN _ (hf8 1)).symm
      | 2, _ => rw [e3]; exact (byteN _ (hf8 2)).symm
      | 3, _ => exact (byteN _ (hf8 3)).symm
      | 4, _ => exact (byteN _ (hf8 4)).symm
      | 5, _ => exact (byteN _ (hf8 5)).symm
      | 6, _ => exact hz6
  · exact absurd hE h
theorem recL_len (Y M D h m s : Nat) (z : Int) : (recL Y M D h m s z).length = 7 := rfl
theorem time_inj {t z : Int} {x y : Dt} {h m s h' m' s' : Nat} (k : TimeOf t z x h m s) (k' : TimeOf t z y h' m' s') : x = y ∧ h = h' ∧ m = m' ∧ s = s' := by
  have e := k.eq
  have e' := k'.eq
  have h1 := k.hh
  have h2 := k.hm
  have h3 := k.hs
  have h1' := k'.hh
  have h2' := k'.hm
  have h3' := k'.hs
  have hd : x.days = y.days := by omega
  exact ⟨date_inj k.good k'.good hd, by omega, by omega, by omega⟩
end Go.Proofs.Ytnmlephjhcmbhaa
