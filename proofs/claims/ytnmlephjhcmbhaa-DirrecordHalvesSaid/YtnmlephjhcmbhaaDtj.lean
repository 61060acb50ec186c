/- Package datetime: quarter, Join, read, ReadRecord. -/
import Derived.Test.YtnmlephjhcmbhaaDtk
import Derived.Test.YtnmlephjhcmbhaaRgm
import Derived.Test.YtnmlephjhcmbhaaEnr
namespace Go.Proofs.Ytnmlephjhcmbhaa
set_option linter.unusedSimpArgs false
set_option linter.unusedVariables false
open Go Go.RowKit
def isT (t : Int) : Bool := decide (315532800 ≤ t ∧ t ≤ 4102444799)
/-- What Join gives; what read gives. -/
def jnT (t : Int) : Int := if isT t then t else 0
def jnE (t : Int) : Int := if isT t then 0 else 2
def fT (v r : Bool) (t : Int) : Int := if v && r && isT t then t else 0
def fE (v r : Bool) (t : Int) : Int := if v && r then (if isT t then 0 else 2) else 10
/-- The number of a signed byte. -/
def zN (b : Nat) : Int := if b < 128 then b else (b : Int) - 256
def zR (b : Nat) : Bool := decide (-48 ≤ zN b ∧ zN b ≤ 52)
set_option maxRecDepth 100000 in
set_option maxHeartbeats 400000 in
theorem quarter_ok (b : UInt8) (w : World) : Calls Try.prog 117 #[.int .u8 b.toNat] w fun e w' => e = .returned (.tuple #[cI (15 * zN b.toNat), .bool (zR b.toNat)]) ∧ w = w' := by
  have hb := UInt8.toNat_lt b
  obtain ⟨n, hn⟩ : ∃ n, b.toNat = n := ⟨_, rfl⟩
  rw [hn] at hb ⊢
  obtain ⟨z, hz⟩ : ∃ z, zN n = z := ⟨_, rfl⟩
  have h8 : IntKind.i8.wrap (n : Int) = z := by
    rw [← hz, zN]
    simp [IntKind.wrap, IntKind.bits, IntKind.signed]
    split <;> omega
  have hz1 : -128 ≤ z := by rw [← hz, zN]; split <;> omega
  have hz2 : z ≤ 127 := by rw [← hz, zN]; split <;> omega
  have h64 : wrap64 z = z := by unfold wrap64; omega
  rw [zR, hz]
  clear hz hn hb
  by_cases h1 : -48 ≤ z
  · by_cases h2 : z ≤ 52
    · rw [decide_eq_true ⟨h1, h2⟩]
      go_enter Try.func117, Try.ntmps117
      go_wp2
      go_ret2
      exact ⟨rfl, rfl⟩
    · rw [decide_eq_false fun h => h2 h.2]
      go_enter Try.func117, Try.ntmps117
      go_wp2
      go_ret2
      exact ⟨rfl, rfl⟩
  · rw [decide_eq_false fun h => h1 h.1]
    go_enter Try.func117, Try.ntmps117
    go_wp2
    go_ret2
    exact ⟨rfl, rfl⟩
set_option maxRecDepth 100000 in
set_option maxHeartbeats 1000000 in
theorem join_ok (Y M D h m s : Nat) (z : Int) (w : World) (g1 : 1900 ≤ Y) (g2 : Y ≤ 2155) (hv : validB Y M D h m s = true) (hz : -1440 ≤ z ∧ z ≤ 1440) :
    Calls Try.prog 161 #[clkV Y M D h m s, cI z] w fun e w' => e = .returned (.tuple #[cI (jnT (secI Y M D h m s - 60 * z)), cI (jnE (secI Y M D h m s - 60 * z))]) ∧ Below w.heap.size w w' := by
  have c1 := fun W => valid_ok Y M D h m s W g1 g2
  rw [hv] at c1
  have c2 := fun W => isZone_ok z W
  rw [decide_eq_true hz] at c2
  have c3 := fun W => seconds_ok Y M D h m s W hv
  have hb := secI_bd Y M D h m s hv
  obtain ⟨S, hS⟩ : ∃ S, secI Y M D h m s = S := ⟨_, rfl⟩
  rw [hS] at c3 hb ⊢
  have b1 := hb.1
  have b2 := hb.2
  have b3 := hz.1
  have b4 := hz.2
  have c4 := fun W => isTime_ok (S - 60 * z) W
  clear hS hb hz hv
  rw [jnT, jnE, isT]
  cases ht : decide (315532800 ≤ S - 60 * z ∧ S - 60 * z ≤ 4102444799)
  all_goals
    rw [ht] at c4
    clear ht
    go_enter Try.func161, Try.ntmps161
    go_wp2_with (first | (go_at_call 160; (with_reducible refine (c1 _).mono ?_); rintro e w1 ⟨rfl, hB1⟩; have H1 := (BW.start w Y M D h m s).below hB1; obtain ⟨q0, q1, q2, q3, q4, q5⟩ := H1.c; clear hB1) | (go_at_call 151; (with_reducible refine (c2 _).mono ?_); rintro e w1 ⟨rfl, rfl⟩) | (go_at_call 184; (with_reducible refine (c3 _).mono ?_); rintro e w2 ⟨rfl, hB2⟩; have H2 := H1.below hB2; clear hB2) | (go_at_call 150; (with_reducible refine (c4 _).mono ?_); rintro e w1 ⟨rfl, rfl⟩))
    go_ret2
    exact ⟨rfl, H2.2⟩
set_option maxRecDepth 100000 in
set_option maxHeartbeats 1000000 in
theorem read_ok (Y M D h m s : Nat) (z : Int) (r : Bool) (w : World) (g1 : 1900 ≤ Y) (g2 : Y ≤ 2155) (hz : r = true → -1440 ≤ z ∧ z ≤ 1440) :
    Calls Try.prog 118 #[clkV Y M D h m s, cI z, .bool r] w fun e w' => e = .returned (.tuple #[cI (fT (validB Y M D h m s) r (secI Y M D h m s - 60 * z)), cI (if fE (validB Y M D h m s) r (secI Y M D h m s - 60 * z) = 0 then z else 0), cI (fE (validB Y M D h m s) r (secI Y M D h m s - 60 * z))]) ∧ Below w.heap.size w w' := by
  have c1 := fun W => valid_ok Y M D h m s W g1 g2
  cases r
  · have e1 : ∀ v t, fT v false t = 0 := fun v t => by simp [fT]
    have e2 : ∀ v t, fE v false t = 10 := fun v t => by simp [fE]
    rw [e1, e2, if_neg (by decide)]
    clear e1 e2 hz
    go_enter Try.func118, Try.ntmps118
    go_wp2
    go_ret3
    exact ⟨rfl, (BW.start w Y M D h m s).2⟩
  · have hz := hz rfl
    cases hv : validB Y M D h m s
    · rw [hv] at c1
      have e1 : ∀ v t, fT false v t = 0 := fun v t => by simp [fT]
      have e2 : ∀ v t, fE false v t = 10 := fun v t => by simp [fE]
      rw [e1, e2, if_neg (by decide)]
      clear e1 e2 hz hv
      go_enter Try.func118, Try.ntmps118
      go_wp2_with (first | (go_at_call 160; (with_reducible refine (c1 _).mono ?_); rintro e w1 ⟨rfl, hB1⟩; have H1 := (BW.start w Y M D h m s).below hB1; obtain ⟨q0, q1, q2, q3, q4, q5⟩ := H1.c; clear hB1))
      go_ret3
      exact ⟨rfl, H1.2⟩
    · have c2 := fun W => join_ok Y M D h m s z W g1 g2 hv hz
      rw [hv] at c1
      clear hv hz
      generalize secI Y M D h m s - 60 * z = t at c2 ⊢
      have e1 : fT true true t = jnT t := by simp [fT, jnT]
      have e2 : fE true true t = jnE t := by simp [fE, jnE]
      rw [e1, e2]
      clear e1 e2
      unfold jnT jnE at *
      cases ht : isT t
      all_goals
        rw [ht] at c2
        clear ht
        try rw [if_neg (by decide : ¬ (if false = true then (0 : Int) else 2) = 0)]
        simp only [Bool.false_eq_true, if_false, if_true] at c2 ⊢
        go_enter Try.func118, Try.ntmps118
        go_wp2_with (first | (go_at_call 160; (with_reducible refine (c1 _).mono ?_); rintro e w1 ⟨rfl, hB1⟩; have H1 := (BW.start w Y M D h m s).below hB1; obtain ⟨q0, q1, q2, q3, q4, q5⟩ := H1.c; clear hB1) | (go_at_call 161; (with_reducible refine (c2 _).mono ?_); rintro e w2 ⟨rfl, hB2⟩; have H2 := H1.below hB2; clear hB2))
        go_ret3
        exact ⟨rfl, H2.2⟩
end Go.Proofs.Ytnmlephjhcmbhaa
