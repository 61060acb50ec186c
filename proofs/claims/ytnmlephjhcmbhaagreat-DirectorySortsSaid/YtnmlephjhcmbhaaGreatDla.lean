/- The reference's Compare. -/
import Derived.Test.YtnmlephjhcmbhaaGreatDkf
namespace Go.Proofs.YtnmlephjhcmbhaaGreat
set_option linter.unusedSimpArgs false
set_option linter.unusedVariables false
open Go Go.RowKit
set_option maxRecDepth 100000 in
set_option maxHeartbeats 400000 in
theorem rspec_ok (s : ByteArray) (w : World) : Calls Tryz.prog 38 #[.string s] w fun e w' => e = .returned (cN (rankM s.data.toList)) ∧ w = w' := by
  have e0 : ∀ l : List UInt8, (s.toList == l) = (s.data.toList == l) := fun l => by rw [Lib.toList_data]
  unfold rankM
  by_cases h0 : s.data.toList = [0]
  · rw [if_pos h0]
    have g0 : s.toList = [0] := by rw [Lib.toList_data]; exact h0
    clear h0 e0
    go_enter Tryz.func38, Tryz.ntmps38
    go_wp2
    go_ret
    exact ⟨rfl, rfl⟩
  · rw [if_neg h0]
    have g0 : (s.toList == [0]) = false := by rw [e0]; exact beq_eq_false_iff_ne.2 h0
    by_cases h1 : s.data.toList = [1]
    · rw [if_pos h1]
      have g1 : (s.toList == [1]) = true := by rw [e0]; exact beq_iff_eq.2 h1
      clear h0 e0 h1
      go_enter Tryz.func38, Tryz.ntmps38
      go_wp2
      go_ret
      exact ⟨rfl, rfl⟩
    · rw [if_neg h1]
      have g1 : (s.toList == [1]) = false := by rw [e0]; exact beq_eq_false_iff_ne.2 h1
      clear h0 e0 h1
      go_enter Tryz.func38, Tryz.ntmps38
      go_wp2
      go_ret
      exact ⟨rfl, rfl⟩
theorem getD_at (s : ByteArray) (k : Nat) (f : UInt8) (h : k < s.size) : s.data.toList.getD k f = s[k]'h := by
  have h' : k < s.data.toList.length := by rw [list_size]; exact h
  rw [List.getD_eq_getElem?_getD, List.getElem?_eq_getElem h', Option.getD_some]; rfl
theorem getD_off (s : ByteArray) (k : Nat) (f : UInt8) (h : ¬ k < s.size) : s.data.toList.getD k f = f := by
  have h' : ¬ k < s.data.toList.length := by rw [list_size]; exact h
  rw [List.getD_eq_getElem?_getD, List.getElem?_eq_none (by omega), Option.getD_none]
set_option maxRecDepth 100000 in
set_option maxHeartbeats 2000000 in
theorem rpad_ok (a b : ByteArray) (f : UInt8) (w : World) (ha : a.size < 2 ^ 62) (hb : b.size < 2 ^ 62) :
    Calls Tryz.prog 39 #[.string a, .string b, .int .u8 f.toNat] w fun e w' => e = .returned (.int .i64 (behM f a.data.toList b.data.toList)) ∧ w = w' := by
  obtain ⟨la, hla⟩ : ∃ l, l = a.data.toList := ⟨_, rfl⟩
  obtain ⟨lb, hlb⟩ : ∃ l, l = b.data.toList := ⟨_, rfl⟩
  have HA := Lib.hid hla
  have HB := Lib.hid hlb
  rw [← hla, ← hlb]
  clear hla hlb
  go_enter Tryz.func39, Tryz.ntmps39
  go_wp2
  go_loopw [7, 8, 9] (fun i _ _ wr => ∃ k : Nat, i = cN k ∧ k ≤ max a.size b.size ∧ behM f (la.drop k) (lb.drop k) = behM f la lb ∧ wr = w) (fun i _ _ _ => max a.size b.size - (intOf i).toNat)
  case atStart => exact ⟨0, rfl, by omega, rfl, by trivial⟩
  case round =>
    obtain ⟨k, rfl, hk, hE, rfl⟩ := hrel
    have HE := Lib.hid hE
    clear hE
    by_cases hka : k < a.size
    · have p1 : (k : Int) < a.size := by omega
      have hs := behM_step f la lb k (by rw [HA.out, list_size]; omega)
      obtain ⟨x, hx⟩ : ∃ x, a[k]'hka = x := ⟨_, rfl⟩
      rw [show la.getD k f = x by rw [HA.out, getD_at a k f hka, hx]] at hs
      by_cases hkb : k < b.size
      · have p2 : (k : Int) < b.size := by omega
        obtain ⟨y, hy⟩ : ∃ y, b[k]'hkb = y := ⟨_, rfl⟩
        rw [show lb.getD k f = y by rw [HB.out, getD_at b k f hkb, hy]] at hs
        have HS := Lib.hid hs
        clear hs
        by_cases h1 : x.toNat < y.toNat
        · have g1 : (x.toNat : Int) < y.toNat := by omega
          have HV := Lib.hid (show cmpB x y = -1 by unfold cmpB; rw [if_pos h1])
          clear h1
          go_wp2
          go_ret
          exact ⟨ret_int (by rw [← HE.out, HS.out, HV.out, if_neg (by decide)]), rfl⟩
        · by_cases h2 : y.toNat < x.toNat
          · have g1 : ¬ (x.toNat : Int) < y.toNat := by omega
            have g2 : (y.toNat : Int) < x.toNat := by omega
            have HV := Lib.hid (show cmpB x y = 1 by unfold cmpB; rw [if_neg h1, if_pos h2])
            clear h1 h2
            go_wp2
            go_ret
            exact ⟨ret_int (by rw [← HE.out, HS.out, HV.out, if_neg (by decide)]), rfl⟩
          · have g1 : ¬ (x.toNat : Int) < y.toNat := by omega
            have g2 : ¬ (y.toNat : Int) < x.toNat := by omega
            have HV := Lib.hid (show cmpB x y = 0 by unfold cmpB; rw [if_neg h1, if_neg h2])
            clear h1 h2
            go_wp2
            go_roundw
            case rel => exact ⟨k + 1, by go_num, by omega, by rw [← HE.out, HS.out, HV.out, if_pos rfl], by trivial⟩
            case measure => simp [intOf]; omega
      · have p2 : ¬ (k : Int) < b.size := by omega
        rw [show lb.getD k f = f by rw [HB.out, getD_off b k f hkb]] at hs
        have HS := Lib.hid hs
        clear hs
        by_cases h1 : x.toNat < f.toNat
        · have g1 : (x.toNat : Int) < f.toNat := by omega
          have HV := Lib.hid (show cmpB x f = -1 by unfold cmpB; rw [if_pos h1])
          clear h1
          go_wp2
          go_ret
          exact ⟨ret_int (by rw [← HE.out, HS.out, HV.out, if_neg (by decide)]), rfl⟩
        · by_cases h2 : f.toNat < x.toNat
          · have g1 : ¬ (x.toNat : Int) < f.toNat := by omega
            have g2 : (f.toNat : Int) < x.toNat := by omega
            have HV := Lib.hid (show cmpB x f = 1 by unfold cmpB; rw [if_neg h1, if_pos h2])
            clear h1 h2
            go_wp2
            go_ret
            exact ⟨ret_int (by rw [← HE.out, HS.out, HV.out, if_neg (by decide)]), rfl⟩
          · have g1 : ¬ (x.toNat : Int) < f.toNat := by omega
            have g2 : ¬ (f.toNat : Int) < x.toNat := by omega
            have HV := Lib.hid (show cmpB x f = 0 by unfold cmpB; rw [if_neg h1, if_neg h2])
            clear h1 h2
            go_wp2
            go_roundw
            case rel => exact ⟨k + 1, by go_num, by omega, by rw [← HE.out, HS.out, HV.out, if_pos rfl], by trivial⟩
            case measure => simp [intOf]; omega
    · have p1 : ¬ (k : Int) < a.size := by omega
      by_cases hkb : k < b.size
      · have p2 : (k : Int) < b.size := by omega
        have hs := behM_step f la lb k (by rw [HB.out, list_size]; omega)
        rw [show la.getD k f = f by rw [HA.out, getD_off a k f hka]] at hs
        obtain ⟨y, hy⟩ : ∃ y, b[k]'hkb = y := ⟨_, rfl⟩
        rw [show lb.getD k f = y by rw [HB.out, getD_at b k f hkb, hy]] at hs
        have HS := Lib.hid hs
        clear hs
        by_cases h1 : f.toNat < y.toNat
        · have g1 : (f.toNat : Int) < y.toNat := by omega
          have HV := Lib.hid (show cmpB f y = -1 by unfold cmpB; rw [if_pos h1])
          clear h1
          go_wp2
          go_ret
          exact ⟨ret_int (by rw [← HE.out, HS.out, HV.out, if_neg (by decide)]), rfl⟩
        · by_cases h2 : y.toNat < f.toNat
          · have g1 : ¬ (f.toNat : Int) < y.toNat := by omega
            have g2 : (y.toNat : Int) < f.toNat := by omega
            have HV := Lib.hid (show cmpB f y = 1 by unfold cmpB; rw [if_neg h1, if_pos h2])
            clear h1 h2
            go_wp2
            go_ret
            exact ⟨ret_int (by rw [← HE.out, HS.out, HV.out, if_neg (by decide)]), rfl⟩
          · have g1 : ¬ (f.toNat : Int) < y.toNat := by omega
            have g2 : ¬ (y.toNat : Int) < f.toNat := by omega
            have HV := Lib.hid (show cmpB f y = 0 by unfold cmpB; rw [if_neg h1, if_neg h2])
            clear h1 h2
            go_wp2
            go_roundw
            case rel => exact ⟨k + 1, by go_num, by omega, by rw [← HE.out, HS.out, HV.out, if_pos rfl], by trivial⟩
            case measure => simp [intOf]; omega
      · have p2 : ¬ (k : Int) < b.size := by omega
        have he := behM_end f la lb k (by rw [HA.out, list_size]; omega) (by rw [HB.out, list_size]; omega)
        have H0 := Lib.hid he
        clear he
        go_wp2
        go_ret
        exact ⟨ret_int (by rw [← HE.out, H0.out]), rfl⟩
def fdx (l : List UInt8) (x y : UInt8) : Nat := l.findIdx fun c => c == x || c == y
set_option maxRecDepth 100000 in
set_option maxHeartbeats 1000000 in
theorem rfind_ok (s : ByteArray) (x y : UInt8) (w : World) (hs : s.size < 2 ^ 62) :
    Calls Tryz.prog 64 #[.string s, .int .u8 x.toNat, .int .u8 y.toNat] w fun e w' => e = .returned (cN (fdx s.data.toList x y)) ∧ w = w' := by
  have hle : fdx s.data.toList x y ≤ s.size := by rw [← list_size]; exact List.findIdx_le_length
  have HL := Lib.hid hle
  clear hle
  go_enter Tryz.func64, Tryz.ntmps64
  go_wp2
  go_loopw [7] (fun i wr => ∃ k : Nat, i = cN k ∧ k ≤ s.size ∧ k ≤ fdx s.data.toList x y ∧ wr = w) (fun i _ => s.size - (intOf i).toNat)
  case atStart => exact ⟨0, rfl, Nat.zero_le _, Nat.zero_le _, by trivial⟩
  case round =>
    obtain ⟨k, rfl, hk, hf, rfl⟩ := hrel
    by_cases hks : k < s.size
    · have p1 : (k : Int) < s.size := by omega
      obtain ⟨c, hc⟩ : ∃ c, s[k]'hks = c := ⟨_, rfl⟩
      have hck : s.data.toList[k]'(by rw [list_size]; exact hks) = c := hc
      have HC := Lib.hid hck
      have eb : ∀ z : UInt8, ((c.toNat : Int) == (z.toNat : Int)) = (c == z) := fun z => by
        rw [Bool.eq_iff_iff, beq_iff_eq, beq_iff_eq]
        constructor
        · intro h; exact UInt8.toNat_inj.1 (by omega)
        · rintro rfl; rfl
      have e1 := eb x
      have e2 := eb y
      clear eb hck
      have hit : (c == x || c == y) = true → fdx s.data.toList x y = k := fun h => by
        have : fdx s.data.toList x y ≤ k := by
          rcases Nat.lt_or_ge k (fdx s.data.toList x y) with h2 | h2
          · have := List.not_of_lt_findIdx (p := fun c : UInt8 => c == x || c == y) (xs := s.data.toList) h2
            rw [HC.out] at this
            simp only [h] at this
            cases this
          · exact h2
        omega
      have hgo : (c == x || c == y) = false → k + 1 ≤ fdx s.data.toList x y := fun h => by
        rcases Nat.lt_or_ge k (fdx s.data.toList x y) with h2 | h2
        · exact h2
        · exfalso
          have hkf : fdx s.data.toList x y = k := by omega
          have := List.findIdx_getElem (p := fun c : UInt8 => c == x || c == y) (xs := s.data.toList) (w := by unfold fdx at hkf; rw [list_size]; omega)
          simp only [show s.data.toList.findIdx (fun c : UInt8 => c == x || c == y) = k from hkf] at this
          rw [HC.out, h] at this
          cases this
      have HIT := Lib.hid hit
      have HGO := Lib.hid hgo
      clear hit hgo
      cases hx : (c == x)
      · rw [hx] at e1
        cases hy : (c == y)
        · rw [hy] at e2
          have HN := Lib.hid (HGO.out (by rw [hx, hy]; rfl))
          clear hx hy
          go_wp2
          go_roundw
          case rel => exact ⟨k + 1, by go_num, by omega, HN.out, by trivial⟩
          case measure => simp [intOf]; omega
        · rw [hy] at e2
          have HN := Lib.hid (HIT.out (by rw [hx, hy]; rfl))
          clear hx hy
          go_wp2
          go_ret
          exact ⟨ret_int (by rw [HN.out]), rfl⟩
      · rw [hx] at e1
        have HN := Lib.hid (HIT.out (by rw [hx]; rfl))
        clear hx e2
        go_wp2
        go_ret
        exact ⟨ret_int (by rw [HN.out]), rfl⟩
    · have p1 : ¬ (k : Int) < s.size := by omega
      have HN := Lib.hid (show fdx s.data.toList x y = s.size by have := HL.out; omega)
      go_wp2
      go_ret
      exact ⟨ret_int (by rw [HN.out]), rfl⟩
end Go.Proofs.YtnmlephjhcmbhaaGreat
