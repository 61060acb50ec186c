/- The reference's Compare, walked; the sign. -/
import Derived.Test.YtnmlephjhcmbhaaGreatDlb
namespace Go.Proofs.YtnmlephjhcmbhaaGreat
set_option linter.unusedSimpArgs false
set_option linter.unusedVariables false
open Go Go.RowKit
/-- What the reference's Compare gives. -/
def rcmpM (a b : List UInt8) (wide : Bool) : Int :=
  if rankM a < 2 ∨ rankM b < 2 then (rankM a : Int) - rankM b else if wide then behM 0 a b else orI (behM 32 (nameL a) (nameL b)) (orI (behM 32 (extL a) (extL b)) (verC (verL a) (verL b)))
def sgn (n : Int) : Int := if n < 0 then -1 else if 0 < n then 1 else 0
theorem sgn_same {x y : Int} (h1 : x < 0 ↔ y < 0) (h2 : 0 < x ↔ 0 < y) : sgn x = sgn y := by
  unfold sgn
  by_cases a : x < 0
  · rw [if_pos a, if_pos (h1.1 a)]
  · rw [if_neg a, if_neg (fun k => a (h1.2 k))]
    by_cases b : 0 < x
    · rw [if_pos b, if_pos (h2.1 b)]
    · rw [if_neg b, if_neg (fun k => b (h2.2 k))]
theorem rcmp_sgn (a b : List UInt8) (wide : Bool) : sgn (cmpM a b wide) = sgn (rcmpM a b wide) := by
  unfold cmpM rcmpM
  split
  · refine sgn_same ?_ ?_ <;> (unfold cmpI; split <;> (try split) <;> omega)
  · split
    · rfl
    · by_cases g : behM 32 (nameL a) (nameL b) = 0 <;> simp [nmC, orI, g]
set_option maxRecDepth 100000 in
set_option maxHeartbeats 1000000 in
theorem sign_ok (n : Int) (w : World) : Calls Tryz.prog 10 #[cN n] w fun e w' => e = .returned (cN (sgn n)) ∧ w = w' := by
  unfold sgn
  by_cases h1 : n < 0
  · rw [if_pos h1]
    go_enter Tryz.func10, Tryz.ntmps10
    go_wp2
    go_ret
    exact ⟨rfl, rfl⟩
  · rw [if_neg h1]
    by_cases h2 : 0 < n
    · rw [if_pos h2]
      go_enter Tryz.func10, Tryz.ntmps10
      go_wp2
      go_ret
      exact ⟨rfl, rfl⟩
    · rw [if_neg h2]
      go_enter Tryz.func10, Tryz.ntmps10
      go_wp2
      go_ret
      exact ⟨rfl, rfl⟩
set_option maxRecDepth 100000 in
set_option maxHeartbeats 1000000 in
theorem rcmp_special (a b : ByteArray) (wide : Bool) (w : World) (h : rankM a.data.toList < 2 ∨ rankM b.data.toList < 2) :
    Calls Tryz.prog 12 #[.string a, .string b, .bool wide] w fun e w' => e = .returned (cN (rcmpM a.data.toList b.data.toList wide)) ∧ Below w.heap.size w w' := by
  unfold rcmpM
  rw [if_pos h]
  have c1 := fun W => rspec_ok a W
  have c2 := fun W => rspec_ok b W
  have ha := rankM_le a.data.toList
  have hb := rankM_le b.data.toList
  obtain ⟨x, hx⟩ : ∃ x, rankM a.data.toList = x := ⟨_, rfl⟩
  obtain ⟨y, hy⟩ : ∃ y, rankM b.data.toList = y := ⟨_, rfl⟩
  rw [hx] at c1 h ha ⊢
  rw [hy] at c2 h hb ⊢
  have g3 : IntKind.i64.wrap ((x : Int) - y) = (x : Int) - y := by rw [IntKind.wrap_i64]; omega
  clear hx hy
  by_cases hx2 : x < 2
  · have g1 : (x : Int) < 2 := by omega
    have g2 : decide ((x : Int) < 2) = true := decide_eq_true g1
    clear h hx2
    go_enter Tryz.func12, Tryz.ntmps12
    go_wp2_with fail
    with_reducible refine (c1 _).mono ?_
    rintro e w1 ⟨rfl, rfl⟩
    go_wp2_with fail
    with_reducible refine (c1 _).mono ?_
    rintro e w1 ⟨rfl, rfl⟩
    go_wp2_with fail
    with_reducible refine (c2 _).mono ?_
    rintro e w1 ⟨rfl, rfl⟩
    go_wp2
    go_ret
    exact ⟨rfl, Below.refl _ _⟩
  · obtain rfl : x = 2 := by omega
    have hy2 : y < 2 := by omega
    have g1 : (y : Int) < 2 := by omega
    have c1' : ∀ W, Calls Tryz.prog 38 #[.string a] W fun e w' => e = .returned (cN 2) ∧ W = w' := c1
    have g4 : IntKind.i64.wrap (2 - (y : Int)) = 2 - (y : Int) := by rw [IntKind.wrap_i64]; omega
    clear h hx2 hy2 c1 g3
    go_enter Tryz.func12, Tryz.ntmps12
    go_wp2_with fail
    with_reducible refine (c1' _).mono ?_
    rintro e w1 ⟨rfl, rfl⟩
    go_wp2_with fail
    with_reducible refine (c2 _).mono ?_
    rintro e w1 ⟨rfl, rfl⟩
    go_wp2_with fail
    with_reducible refine (c1' _).mono ?_
    rintro e w1 ⟨rfl, rfl⟩
    go_wp2_with fail
    with_reducible refine (c2 _).mono ?_
    rintro e w1 ⟨rfl, rfl⟩
    go_wp2
    go_ret
    exact ⟨rfl, Below.refl _ _⟩
theorem rspec_two {a : ByteArray} (h : ¬ rankM a.data.toList < 2) (W : World) : Calls Tryz.prog 38 #[.string a] W fun e w' => e = .returned (cN 2) ∧ W = w' := by
  have := rspec_ok a W
  rw [show rankM a.data.toList = 2 by have := rankM_le a.data.toList; omega] at this
  exact this
set_option maxRecDepth 100000 in
set_option maxHeartbeats 1000000 in
theorem rcmp_wide (a b : ByteArray) (w : World) (h : ¬ (rankM a.data.toList < 2 ∨ rankM b.data.toList < 2)) (ha : a.size < 2 ^ 62) (hb : b.size < 2 ^ 62) :
    Calls Tryz.prog 12 #[.string a, .string b, .bool true] w fun e w' => e = .returned (cN (rcmpM a.data.toList b.data.toList true)) ∧ Below w.heap.size w w' := by
  unfold rcmpM
  rw [if_neg h]
  simp only [↓reduceIte]
  have c1 := fun W => rspec_two (a := a) (fun k => h (.inl k)) W
  have c2 := fun W => rspec_two (a := b) (fun k => h (.inr k)) W
  have c4 : ∀ W, Calls Tryz.prog 39 #[.string a, .string b, .int .u8 0] W fun e w' => e = .returned (.int .i64 (behM 0 a.data.toList b.data.toList)) ∧ W = w' := fun W => rpad_ok a b 0 W ha hb
  clear h
  go_enter Tryz.func12, Tryz.ntmps12
  go_wp2_with fail
  with_reducible refine (c1 _).mono ?_
  rintro e w1 ⟨rfl, rfl⟩
  go_wp2_with fail
  with_reducible refine (c2 _).mono ?_
  rintro e w1 ⟨rfl, rfl⟩
  go_wp2_with fail
  with_reducible refine (c4 _).mono ?_
  rintro e w1 ⟨rfl, rfl⟩
  go_wp2
  go_ret
  exact ⟨rfl, Below.refl _ _⟩
theorem pad_eq (f : UInt8) (l : List UInt8) (n : Nat) : List.replicate ((n : Int) - l.length).toNat f ++ l = padL n f l := by
  unfold padL
  congr 2
  omega
set_option maxRecDepth 100000 in
set_option maxHeartbeats 2000000 in
theorem rcmp_plain (a b : ByteArray) (w : World) (h : ¬ (rankM a.data.toList < 2 ∨ rankM b.data.toList < 2)) (ha : a.size < 2 ^ 30) (hb : b.size < 2 ^ 30) :
    Calls Tryz.prog 12 #[.string a, .string b, .bool false] w fun e w' => e = .returned (cN (rcmpM a.data.toList b.data.toList false)) ∧ Below w.heap.size w w' := by
  unfold rcmpM
  rw [if_neg h]
  simp only [Bool.false_eq_true, ↓reduceIte]
  have c1 := fun W => rspec_two (a := a) (fun k => h (.inl k)) W
  have c2 := fun W => rspec_two (a := b) (fun k => h (.inr k)) W
  have c4 := fun W => rparts_ok a W (by omega)
  have c5 := fun W => rparts_ok b W (by omega)
  have n1 := nameL_len a.data.toList; have n2 := extL_len a.data.toList; have n3 := verL_len a.data.toList
  have m1 := nameL_len b.data.toList; have m2 := extL_len b.data.toList; have m3 := verL_len b.data.toList
  rw [list_size] at n1 n2 n3 m1 m2 m3
  obtain ⟨an, han⟩ : ∃ x, nameL a.data.toList = x := ⟨_, rfl⟩
  obtain ⟨ae, hae⟩ : ∃ x, extL a.data.toList = x := ⟨_, rfl⟩
  obtain ⟨av, hav⟩ : ∃ x, verL a.data.toList = x := ⟨_, rfl⟩
  obtain ⟨bn, hbn⟩ : ∃ x, nameL b.data.toList = x := ⟨_, rfl⟩
  obtain ⟨be, hbe⟩ : ∃ x, extL b.data.toList = x := ⟨_, rfl⟩
  obtain ⟨bv, hbv⟩ : ∃ x, verL b.data.toList = x := ⟨_, rfl⟩
  rw [han, hae, hav] at c4 ⊢
  rw [hbn, hbe, hbv] at c5 ⊢
  rw [han] at n1; rw [hae] at n2; rw [hav] at n3; rw [hbn] at m1; rw [hbe] at m2; rw [hbv] at m3
  clear han hae hav hbn hbe hbv h
  have c6 : ∀ W, Calls Tryz.prog 39 #[.string (bL an), .string (bL bn), .int .u8 32] W fun e w' => e = .returned (.int .i64 (behM 32 an bn)) ∧ W = w' := fun W => by
    have := rpad_ok (bL an) (bL bn) 32 W (by rw [bL_size]; omega) (by rw [bL_size]; omega)
    rw [bL_list, bL_list] at this
    exact this
  have c7 : ∀ W, Calls Tryz.prog 39 #[.string (bL ae), .string (bL be), .int .u8 32] W fun e w' => e = .returned (.int .i64 (behM 32 ae be)) ∧ W = w' := fun W => by
    have := rpad_ok (bL ae) (bL be) 32 W (by rw [bL_size]; omega) (by rw [bL_size]; omega)
    rw [bL_list, bL_list] at this
    exact this
  obtain ⟨x, hx⟩ : ∃ x, behM 32 an bn = x := ⟨_, rfl⟩
  obtain ⟨y, hy⟩ : ∃ x, behM 32 ae be = x := ⟨_, rfl⟩
  rw [hx] at c6 ⊢
  rw [hy] at c7 ⊢
  clear hx hy
  by_cases hx0 : x = 0
  · subst hx0
    rw [orI, if_pos rfl]
    by_cases hy0 : y = 0
    · subst hy0
      rw [orI, if_pos rfl]
      have p1 := bL_size av
      have p2 := bL_size bv
      have c8 : ∀ W, Calls Tryz.prog 41 #[.int .u8 48, .int .i64 (((bL bv).size : Int) - (bL av).size)] W fun e w' => e = .returned (.string (bL (List.replicate (((bL bv).size : Int) - (bL av).size).toNat 48))) ∧ Below W.heap.size W w' := fun W => rrep_ok 48 _ W (by omega)
      have j1 : bL (List.replicate (((bL bv).size : Int) - (bL av).size).toNat 48) ++ bL av = bL (padL bv.length 48 av) := by rw [bL_app, p1, p2, pad_eq]
      have lv : (padL bv.length 48 av).length = max av.length bv.length := by simp [padL]; omega
      have p3 : (bL (padL bv.length 48 av)).size = max av.length bv.length := by rw [bL_size, lv]
      have c9 : ∀ W, Calls Tryz.prog 41 #[.int .u8 48, .int .i64 (((bL (padL bv.length 48 av)).size : Int) - (bL bv).size)] W fun e w' => e = .returned (.string (bL (List.replicate (((bL (padL bv.length 48 av)).size : Int) - (bL bv).size).toNat 48))) ∧ Below W.heap.size W w' := fun W => rrep_ok 48 _ W (by omega)
      have j2 : bL (List.replicate (((bL (padL bv.length 48 av)).size : Int) - (bL bv).size).toNat 48) ++ bL bv = bL (padL (max av.length bv.length) 48 bv) := by rw [bL_app, p2, p3, pad_eq]
      have c10 : ∀ W, Calls Tryz.prog 39 #[.string (bL (padL (max av.length bv.length) 48 bv)), .string (bL (padL bv.length 48 av)), .int .u8 48] W fun e w' => e = .returned (cN (verC av bv)) ∧ W = w' := fun W => by
        have hp : padL bv.length 48 av = padL (max av.length bv.length) 48 av := by
          unfold padL
          congr 2
          omega
        have := rpad_ok (bL (padL (max av.length bv.length) 48 bv)) (bL (padL bv.length 48 av)) 48 W (by rw [bL_size, padL_len (by omega)]; omega) (by omega)
        rw [bL_list, bL_list, hp, behM_lexc _ _ _ (by rw [padL_len (by omega), padL_len (by omega)])] at this
        rw [hp]
        exact this
      have w1' : IntKind.i64.wrap (((bL bv).size : Int) - (bL av).size) = ((bL bv).size : Int) - (bL av).size := by rw [IntKind.wrap_i64]; omega
      have w2' : IntKind.i64.wrap (((bL (padL bv.length 48 av)).size : Int) - (bL bv).size) = ((bL (padL bv.length 48 av)).size : Int) - (bL bv).size := by rw [IntKind.wrap_i64]; omega
      have s1 : ¬ (9223372036854775807 < (bL (List.replicate (((bL bv).size : Int) - (bL av).size).toNat 48)).size + (bL av).size) := by rw [bL_size, List.length_replicate]; omega
      have s2 : ¬ (9223372036854775807 < (bL (List.replicate (((bL (padL bv.length 48 av)).size : Int) - (bL bv).size).toNat 48)).size + (bL bv).size) := by rw [bL_size, List.length_replicate]; omega
      obtain ⟨v, hv⟩ : ∃ v, verC av bv = v := ⟨_, rfl⟩
      rw [hv] at c10 ⊢
      obtain ⟨sa, hsa⟩ : ∃ s, bL av = s := ⟨_, rfl⟩
      obtain ⟨sb, hsb⟩ : ∃ s, bL bv = s := ⟨_, rfl⟩
      obtain ⟨sp, hsp⟩ : ∃ s, bL (padL bv.length 48 av) = s := ⟨_, rfl⟩
      rw [hsa] at c4 c8 j1 s1 w1' p1
      rw [hsb] at c5 c8 c9 j1 j2 s1 s2 w1' w2' p2
      rw [hsp] at c9 c10 j1 j2 s2 w2' p3
      obtain ⟨z1, hz1⟩ : ∃ z, bL (List.replicate ((sb.size : Int) - sa.size).toNat 48) = z := ⟨_, rfl⟩
      obtain ⟨z2, hz2⟩ : ∃ z, bL (List.replicate ((sp.size : Int) - sb.size).toNat 48) = z := ⟨_, rfl⟩
      obtain ⟨sq, hsq⟩ : ∃ s, bL (padL (max av.length bv.length) 48 bv) = s := ⟨_, rfl⟩
      rw [hz1] at c8 j1 s1
      rw [hz2] at c9 j2 s2
      rw [hsq] at c10 j2
      clear hv hsa hsb hsp hz1 hz2 hsq p1 p2 p3 lv n1 n2 n3 m1 m2 m3
      have ha' : sa.size + 0 = sa.size := rfl
      clear ha'
      go_enter Tryz.func12, Tryz.ntmps12
      go_wp2_with fail
      with_reducible refine (c1 _).mono ?_
      rintro e w1 ⟨rfl, rfl⟩
      go_wp2_with fail
      with_reducible refine (c2 _).mono ?_
      rintro e w1 ⟨rfl, rfl⟩
      go_wp2_with fail
      with_reducible refine (c4 _).mono ?_
      rintro e w2 ⟨rfl, hB2⟩
      go_wp2_with fail
      with_reducible refine (c5 _).mono ?_
      rintro e w3 ⟨rfl, hB3⟩
      go_wp2_with fail
      with_reducible refine (c6 _).mono ?_
      rintro e w4 ⟨rfl, rfl⟩
      go_wp2_with fail
      with_reducible refine (c7 _).mono ?_
      rintro e w5 ⟨rfl, rfl⟩
      go_wp2_with fail
      with_reducible refine (c8 _).mono ?_
      rintro e w6 ⟨rfl, hB6⟩
      go_wp2_with fail
      with_reducible refine (c9 _).mono ?_
      rintro e w7 ⟨rfl, hB7⟩
      go_wp2_with fail
      with_reducible refine (c10 _).mono ?_
      rintro e w8 ⟨rfl, rfl⟩
      go_wp2
      go_ret
      exact ⟨rfl, bthen (bthen (bthen hB2 hB3) hB6) hB7⟩
    · rw [orI, if_neg hy0]
      have g1 : (y != 0) = true := by simpa using hy0
      go_enter Tryz.func12, Tryz.ntmps12
      go_wp2_with fail
      with_reducible refine (c1 _).mono ?_
      rintro e w1 ⟨rfl, rfl⟩
      go_wp2_with fail
      with_reducible refine (c2 _).mono ?_
      rintro e w1 ⟨rfl, rfl⟩
      go_wp2_with fail
      with_reducible refine (c4 _).mono ?_
      rintro e w2 ⟨rfl, hB2⟩
      go_wp2_with fail
      with_reducible refine (c5 _).mono ?_
      rintro e w3 ⟨rfl, hB3⟩
      go_wp2_with fail
      with_reducible refine (c6 _).mono ?_
      rintro e w4 ⟨rfl, rfl⟩
      go_wp2_with fail
      with_reducible refine (c7 _).mono ?_
      rintro e w5 ⟨rfl, rfl⟩
      go_wp2
      go_ret
      exact ⟨rfl, bthen hB2 hB3⟩
  · rw [orI, if_neg hx0]
    have g1 : (x != 0) = true := by simpa using hx0
    go_enter Tryz.func12, Tryz.ntmps12
    go_wp2_with fail
    with_reducible refine (c1 _).mono ?_
    rintro e w1 ⟨rfl, rfl⟩
    go_wp2_with fail
    with_reducible refine (c2 _).mono ?_
    rintro e w1 ⟨rfl, rfl⟩
    go_wp2_with fail
    with_reducible refine (c4 _).mono ?_
    rintro e w2 ⟨rfl, hB2⟩
    go_wp2_with fail
    with_reducible refine (c5 _).mono ?_
    rintro e w3 ⟨rfl, hB3⟩
    go_wp2_with fail
    with_reducible refine (c6 _).mono ?_
    rintro e w4 ⟨rfl, rfl⟩
    go_wp2
    go_ret
    exact ⟨rfl, bthen hB2 hB3⟩
theorem rcmp_ok (a b : ByteArray) (wide : Bool) (w : World) (ha : a.size < 2 ^ 30) (hb : b.size < 2 ^ 30) :
    Calls Tryz.prog 12 #[.string a, .string b, .bool wide] w fun e w' => e = .returned (cN (rcmpM a.data.toList b.data.toList wide)) ∧ Below w.heap.size w w' := by
  by_cases h : rankM a.data.toList < 2 ∨ rankM b.data.toList < 2
  · exact rcmp_special a b wide w h
  · cases wide
    · exact rcmp_plain a b w h ha hb
    · exact rcmp_wide a b w h (by omega) (by omega)
end Go.Proofs.YtnmlephjhcmbhaaGreat
