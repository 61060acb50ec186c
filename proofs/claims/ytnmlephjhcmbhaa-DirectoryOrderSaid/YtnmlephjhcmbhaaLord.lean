/- DirectoryOrder: for every input the law returns true and leaves its arguments as they were. No condition. -/
import Derived.Test.YtnmlephjhcmbhaaRows
import Derived.Test.YtnmlephjhcmbhaaCl17
import Derived.Test.YtnmlephjhcmbhaaDku
import Derived.WalkKit
import Derived.ProofKit
import Derived.OpenShut
import Derived.ShutString
import Derived.ChangeOld
import Derived.Below
namespace Go.Proofs.Ytnmlephjhcmbhaa.directoryOrder
set_option linter.unusedSimpArgs false
set_option linter.unusedVariables false
open Go Go.ChangeShapes Go.WideShapes Go.ChangeAt Go.RowKit
open Go.ChangeMaps (open_string shut_string)
def sgn (n : Int) : Int := if n < 0 then -1 else if 0 < n then 1 else 0
theorem sign_ok (n : Int) (w : World) : Calls Try.prog 48 #[cN n] w fun e w' => e = .returned (cN (sgn n)) ∧ w = w' := by
  unfold sgn
  by_cases h1 : n < 0
  · rw [if_pos h1]
    go_enter Try.func48, Try.ntmps48
    go_wp2
    go_ret
    exact ⟨rfl, rfl⟩
  · rw [if_neg h1]
    by_cases h2 : 0 < n
    · rw [if_pos h2]
      go_enter Try.func48, Try.ntmps48
      go_wp2
      go_ret
      exact ⟨rfl, rfl⟩
    · rw [if_neg h2]
      go_enter Try.func48, Try.ntmps48
      go_wp2
      go_ret
      exact ⟨rfl, rfl⟩
theorem three (a b c : List UInt8) (wide : Bool) : ∃ x y z : Int, cmpM a b wide = x ∧ cmpM b c wide = y ∧ cmpM a c wide = z ∧ cmpM b a wide = -x ∧ cmpM a a wide = 0 ∧
    ((x = -1 ∧ y = -1 ∧ z = -1) ∨ (x = -1 ∧ y = 0 ∧ z = -1) ∨ (x = -1 ∧ y = 1 ∧ z = -1) ∨ (x = -1 ∧ y = 1 ∧ z = 0) ∨ (x = -1 ∧ y = 1 ∧ z = 1) ∨ (x = 0 ∧ y = -1 ∧ z = -1) ∨ (x = 0 ∧ y = 0 ∧ z = 0) ∨ (x = 0 ∧ y = 1 ∧ z = 1) ∨
      (x = 1 ∧ y = -1 ∧ z = -1) ∨ (x = 1 ∧ y = -1 ∧ z = 0) ∨ (x = 1 ∧ y = -1 ∧ z = 1) ∨ (x = 1 ∧ y = 0 ∧ z = 1) ∨ (x = 1 ∧ y = 1 ∧ z = 1)) := by
  have r1 := cmpM_range a b wide; have r2 := cmpM_range b c wide; have r3 := cmpM_range a c wide
  have t1 := cmpM_trans a b c wide
  have t2 := cmpM_trans_lt a b c wide
  have t3 := cmpM_lt_trans a b c wide
  have s1 := cmpM_swap a b wide; have s2 := cmpM_swap b c wide; have s3 := cmpM_swap a c wide
  have u1 := cmpM_trans c b a wide
  have u2 := cmpM_trans_lt c b a wide
  have u3 := cmpM_lt_trans c b a wide
  rw [s1, s2, s3] at u1 u2 u3
  refine ⟨cmpM a b wide, cmpM b c wide, cmpM a c wide, rfl, rfl, rfl, s1, cmpM_self a wide, ?_⟩
  clear s1 s2 s3
  generalize cmpM a b wide = x at *
  generalize cmpM b c wide = y at *
  generalize cmpM a c wide = z at *
  have hx : x = -1 ∨ x = 0 ∨ x = 1 := by omega
  have hy : y = -1 ∨ y = 0 ∨ y = 1 := by omega
  have hz : z = -1 ∨ z = 0 ∨ z = 1 := by omega
  clear r1 r2 r3
  rcases hx with rfl | rfl | rfl <;> rcases hy with rfl | rfl | rfl <;> rcases hz with rfl | rfl | rfl <;> first | (exfalso; revert t1 t2 t3 u1 u2 u3; decide) | decide
set_option maxRecDepth 100000 in
set_option maxHeartbeats 400000 in
theorem walk_big (a b c : ByteArray) (wide : Bool) (w : World) (h : (300 : Int) < a.size ∨ (¬ (300 : Int) < a.size ∧ (300 : Int) < b.size) ∨ (¬ (300 : Int) < a.size ∧ ¬ (300 : Int) < b.size ∧ (300 : Int) < c.size)) :
    Calls Try.prog 17 #[.string a, .string b, .string c, .bool wide] w fun e w' => e = .returned (.bool true) ∧ Below w.heap.size w w' := by
  rcases h with h | ⟨h0, h⟩ | ⟨h0, h1, h⟩
  all_goals
    go_enter Try.func17, Try.ntmps17
    go_wp2_with fail
    with_reducible refine (awake21_ok _).mono ?_
    rintro e w1 ⟨rfl, hB1⟩
    go_wp2
    go_ret
    exact ⟨rfl, hB1⟩
set_option maxRecDepth 100000 in
set_option maxHeartbeats 4000000 in
theorem walk_small (a b c : ByteArray) (wide : Bool) (w : World) (h0 : ¬ (300 : Int) < a.size) (h1 : ¬ (300 : Int) < b.size) (h2 : ¬ (300 : Int) < c.size) :
    Calls Try.prog 17 #[.string a, .string b, .string c, .bool wide] w fun e w' => e = .returned (.bool true) ∧ Below w.heap.size w w' := by
  have c1 := fun W => cmp_ok a b wide W (by omega) (by omega)
  have c2 := fun W => cmp_ok b c wide W (by omega) (by omega)
  have c3 := fun W => cmp_ok a c wide W (by omega) (by omega)
  have c4 := fun W => cmp_ok b a wide W (by omega) (by omega)
  have c5 := fun W => cmp_ok a a wide W (by omega) (by omega)
  obtain ⟨x, y, z, e1, e2, e3, e4, e5, h⟩ := three a.data.toList b.data.toList c.data.toList wide
  rw [e1] at c1
  rw [e2] at c2
  rw [e3] at c3
  rw [e4] at c4
  rw [e5] at c5
  clear e1 e2 e3 e4 e5
  rcases h with ⟨rfl, rfl, rfl⟩ | ⟨rfl, rfl, rfl⟩ | ⟨rfl, rfl, rfl⟩ | ⟨rfl, rfl, rfl⟩ | ⟨rfl, rfl, rfl⟩ | ⟨rfl, rfl, rfl⟩ | ⟨rfl, rfl, rfl⟩ | ⟨rfl, rfl, rfl⟩ | ⟨rfl, rfl, rfl⟩ | ⟨rfl, rfl, rfl⟩ | ⟨rfl, rfl, rfl⟩ | ⟨rfl, rfl, rfl⟩ | ⟨rfl, rfl, rfl⟩
  · skip
    have k1 := fun W => sign_ok (-1) W
    have k2 := fun W => sign_ok (-(-1)) W
    have k3 := fun W => sign_ok (-1) W
    have k4 := fun W => sign_ok (-1) W
    simp only [sgn] at k1 k2 k3 k4
    simp at k1 k2 k3 k4 c1 c2 c3 c4
    go_enter Try.func17, Try.ntmps17
    go_wp2_with fail
    with_reducible refine (awake21_ok _).mono ?_
    rintro e w1 ⟨rfl, hB1⟩
    go_wp2_with fail
    with_reducible refine (c1 _).mono ?_
    rintro e w2 ⟨rfl, hB2⟩
    go_wp2_with fail
    with_reducible refine (c2 _).mono ?_
    rintro e w3 ⟨rfl, hB3⟩
    go_wp2_with fail
    with_reducible refine (c3 _).mono ?_
    rintro e w4 ⟨rfl, hB4⟩
    go_wp2_with fail
    with_reducible refine (c4 _).mono ?_
    rintro e w5 ⟨rfl, hB5⟩
    have hb := bthen (bthen (bthen (bthen hB1 hB2) hB3) hB4) hB5
    clear hB1 hB2 hB3 hB4 hB5
    go_wp2_with fail
    with_reducible refine (k2 _).mono ?_
    rintro e w6 ⟨rfl, rfl⟩
    go_wp2_with fail
    with_reducible refine (k1 _).mono ?_
    rintro e w6 ⟨rfl, rfl⟩
    go_wp2_with fail
    with_reducible refine (c5 _).mono ?_
    rintro e w6 ⟨rfl, hB6⟩
    go_wp2
    go_ret
    exact ⟨by simp, bthen hb hB6⟩
  · skip
    have k1 := fun W => sign_ok (-1) W
    have k2 := fun W => sign_ok (-(-1)) W
    have k3 := fun W => sign_ok (0) W
    have k4 := fun W => sign_ok (-1) W
    simp only [sgn] at k1 k2 k3 k4
    simp at k1 k2 k3 k4 c1 c2 c3 c4
    go_enter Try.func17, Try.ntmps17
    go_wp2_with fail
    with_reducible refine (awake21_ok _).mono ?_
    rintro e w1 ⟨rfl, hB1⟩
    go_wp2_with fail
    with_reducible refine (c1 _).mono ?_
    rintro e w2 ⟨rfl, hB2⟩
    go_wp2_with fail
    with_reducible refine (c2 _).mono ?_
    rintro e w3 ⟨rfl, hB3⟩
    go_wp2_with fail
    with_reducible refine (c3 _).mono ?_
    rintro e w4 ⟨rfl, hB4⟩
    go_wp2_with fail
    with_reducible refine (c4 _).mono ?_
    rintro e w5 ⟨rfl, hB5⟩
    have hb := bthen (bthen (bthen (bthen hB1 hB2) hB3) hB4) hB5
    clear hB1 hB2 hB3 hB4 hB5
    go_wp2_with fail
    with_reducible refine (k2 _).mono ?_
    rintro e w6 ⟨rfl, rfl⟩
    go_wp2_with fail
    with_reducible refine (k1 _).mono ?_
    rintro e w6 ⟨rfl, rfl⟩
    go_wp2_with fail
    with_reducible refine (c5 _).mono ?_
    rintro e w6 ⟨rfl, hB6⟩
    go_wp2
    go_ret
    exact ⟨by simp, bthen hb hB6⟩
  · skip
    have k1 := fun W => sign_ok (-1) W
    have k2 := fun W => sign_ok (-(-1)) W
    have k3 := fun W => sign_ok (1) W
    have k4 := fun W => sign_ok (-1) W
    simp only [sgn] at k1 k2 k3 k4
    simp at k1 k2 k3 k4 c1 c2 c3 c4
    go_enter Try.func17, Try.ntmps17
    go_wp2_with fail
    with_reducible refine (awake21_ok _).mono ?_
    rintro e w1 ⟨rfl, hB1⟩
    go_wp2_with fail
    with_reducible refine (c1 _).mono ?_
    rintro e w2 ⟨rfl, hB2⟩
    go_wp2_with fail
    with_reducible refine (c2 _).mono ?_
    rintro e w3 ⟨rfl, hB3⟩
    go_wp2_with fail
    with_reducible refine (c3 _).mono ?_
    rintro e w4 ⟨rfl, hB4⟩
    go_wp2_with fail
    with_reducible refine (c4 _).mono ?_
    rintro e w5 ⟨rfl, hB5⟩
    have hb := bthen (bthen (bthen (bthen hB1 hB2) hB3) hB4) hB5
    clear hB1 hB2 hB3 hB4 hB5
    go_wp2_with fail
    with_reducible refine (k2 _).mono ?_
    rintro e w6 ⟨rfl, rfl⟩
    go_wp2_with fail
    with_reducible refine (k1 _).mono ?_
    rintro e w6 ⟨rfl, rfl⟩
    go_wp2_with fail
    with_reducible refine (c5 _).mono ?_
    rintro e w6 ⟨rfl, hB6⟩
    go_wp2
    go_ret
    exact ⟨by simp, bthen hb hB6⟩
  · skip
    have k1 := fun W => sign_ok (-1) W
    have k2 := fun W => sign_ok (-(-1)) W
    have k3 := fun W => sign_ok (1) W
    have k4 := fun W => sign_ok (0) W
    simp only [sgn] at k1 k2 k3 k4
    simp at k1 k2 k3 k4 c1 c2 c3 c4
    go_enter Try.func17, Try.ntmps17
    go_wp2_with fail
    with_reducible refine (awake21_ok _).mono ?_
    rintro e w1 ⟨rfl, hB1⟩
    go_wp2_with fail
    with_reducible refine (c1 _).mono ?_
    rintro e w2 ⟨rfl, hB2⟩
    go_wp2_with fail
    with_reducible refine (c2 _).mono ?_
    rintro e w3 ⟨rfl, hB3⟩
    go_wp2_with fail
    with_reducible refine (c3 _).mono ?_
    rintro e w4 ⟨rfl, hB4⟩
    go_wp2_with fail
    with_reducible refine (c4 _).mono ?_
    rintro e w5 ⟨rfl, hB5⟩
    have hb := bthen (bthen (bthen (bthen hB1 hB2) hB3) hB4) hB5
    clear hB1 hB2 hB3 hB4 hB5
    go_wp2_with fail
    with_reducible refine (k2 _).mono ?_
    rintro e w6 ⟨rfl, rfl⟩
    go_wp2_with fail
    with_reducible refine (k1 _).mono ?_
    rintro e w6 ⟨rfl, rfl⟩
    go_wp2_with fail
    with_reducible refine (c5 _).mono ?_
    rintro e w6 ⟨rfl, hB6⟩
    go_wp2
    go_ret
    exact ⟨by simp, bthen hb hB6⟩
  · skip
    have k1 := fun W => sign_ok (-1) W
    have k2 := fun W => sign_ok (-(-1)) W
    have k3 := fun W => sign_ok (1) W
    have k4 := fun W => sign_ok (1) W
    simp only [sgn] at k1 k2 k3 k4
    simp at k1 k2 k3 k4 c1 c2 c3 c4
    go_enter Try.func17, Try.ntmps17
    go_wp2_with fail
    with_reducible refine (awake21_ok _).mono ?_
    rintro e w1 ⟨rfl, hB1⟩
    go_wp2_with fail
    with_reducible refine (c1 _).mono ?_
    rintro e w2 ⟨rfl, hB2⟩
    go_wp2_with fail
    with_reducible refine (c2 _).mono ?_
    rintro e w3 ⟨rfl, hB3⟩
    go_wp2_with fail
    with_reducible refine (c3 _).mono ?_
    rintro e w4 ⟨rfl, hB4⟩
    go_wp2_with fail
    with_reducible refine (c4 _).mono ?_
    rintro e w5 ⟨rfl, hB5⟩
    have hb := bthen (bthen (bthen (bthen hB1 hB2) hB3) hB4) hB5
    clear hB1 hB2 hB3 hB4 hB5
    go_wp2_with fail
    with_reducible refine (k2 _).mono ?_
    rintro e w6 ⟨rfl, rfl⟩
    go_wp2_with fail
    with_reducible refine (k1 _).mono ?_
    rintro e w6 ⟨rfl, rfl⟩
    go_wp2_with fail
    with_reducible refine (c5 _).mono ?_
    rintro e w6 ⟨rfl, hB6⟩
    go_wp2
    go_ret
    exact ⟨by simp, bthen hb hB6⟩
  · skip
    have k1 := fun W => sign_ok (0) W
    have k2 := fun W => sign_ok (-(0)) W
    have k3 := fun W => sign_ok (-1) W
    have k4 := fun W => sign_ok (-1) W
    simp only [sgn] at k1 k2 k3 k4
    simp at k1 k2 k3 k4 c1 c2 c3 c4
    go_enter Try.func17, Try.ntmps17
    go_wp2_with fail
    with_reducible refine (awake21_ok _).mono ?_
    rintro e w1 ⟨rfl, hB1⟩
    go_wp2_with fail
    with_reducible refine (c1 _).mono ?_
    rintro e w2 ⟨rfl, hB2⟩
    go_wp2_with fail
    with_reducible refine (c2 _).mono ?_
    rintro e w3 ⟨rfl, hB3⟩
    go_wp2_with fail
    with_reducible refine (c3 _).mono ?_
    rintro e w4 ⟨rfl, hB4⟩
    go_wp2_with fail
    with_reducible refine (c4 _).mono ?_
    rintro e w5 ⟨rfl, hB5⟩
    have hb := bthen (bthen (bthen (bthen hB1 hB2) hB3) hB4) hB5
    clear hB1 hB2 hB3 hB4 hB5
    go_wp2_with fail
    with_reducible refine (k2 _).mono ?_
    rintro e w6 ⟨rfl, rfl⟩
    go_wp2_with fail
    with_reducible refine (k1 _).mono ?_
    rintro e w6 ⟨rfl, rfl⟩
    go_wp2_with fail
    with_reducible refine (c5 _).mono ?_
    rintro e w6 ⟨rfl, hB6⟩
    go_wp2_with fail
    with_reducible refine (k3 _).mono ?_
    rintro e w7 ⟨rfl, rfl⟩
    go_wp2_with fail
    with_reducible refine (k4 _).mono ?_
    rintro e w7 ⟨rfl, rfl⟩
    go_wp2
    go_ret
    exact ⟨by simp, bthen hb hB6⟩
  · skip
    have k1 := fun W => sign_ok (0) W
    have k2 := fun W => sign_ok (-(0)) W
    have k3 := fun W => sign_ok (0) W
    have k4 := fun W => sign_ok (0) W
    simp only [sgn] at k1 k2 k3 k4
    simp at k1 k2 k3 k4 c1 c2 c3 c4
    go_enter Try.func17, Try.ntmps17
    go_wp2_with fail
    with_reducible refine (awake21_ok _).mono ?_
    rintro e w1 ⟨rfl, hB1⟩
    go_wp2_with fail
    with_reducible refine (c1 _).mono ?_
    rintro e w2 ⟨rfl, hB2⟩
    go_wp2_with fail
    with_reducible refine (c2 _).mono ?_
    rintro e w3 ⟨rfl, hB3⟩
    go_wp2_with fail
    with_reducible refine (c3 _).mono ?_
    rintro e w4 ⟨rfl, hB4⟩
    go_wp2_with fail
    with_reducible refine (c4 _).mono ?_
    rintro e w5 ⟨rfl, hB5⟩
    have hb := bthen (bthen (bthen (bthen hB1 hB2) hB3) hB4) hB5
    clear hB1 hB2 hB3 hB4 hB5
    go_wp2_with fail
    with_reducible refine (k2 _).mono ?_
    rintro e w6 ⟨rfl, rfl⟩
    go_wp2_with fail
    with_reducible refine (k1 _).mono ?_
    rintro e w6 ⟨rfl, rfl⟩
    go_wp2_with fail
    with_reducible refine (c5 _).mono ?_
    rintro e w6 ⟨rfl, hB6⟩
    go_wp2_with fail
    with_reducible refine (k3 _).mono ?_
    rintro e w7 ⟨rfl, rfl⟩
    go_wp2_with fail
    with_reducible refine (k4 _).mono ?_
    rintro e w7 ⟨rfl, rfl⟩
    go_wp2
    go_ret
    exact ⟨by simp, bthen hb hB6⟩
  · skip
    have k1 := fun W => sign_ok (0) W
    have k2 := fun W => sign_ok (-(0)) W
    have k3 := fun W => sign_ok (1) W
    have k4 := fun W => sign_ok (1) W
    simp only [sgn] at k1 k2 k3 k4
    simp at k1 k2 k3 k4 c1 c2 c3 c4
    go_enter Try.func17, Try.ntmps17
    go_wp2_with fail
    with_reducible refine (awake21_ok _).mono ?_
    rintro e w1 ⟨rfl, hB1⟩
    go_wp2_with fail
    with_reducible refine (c1 _).mono ?_
    rintro e w2 ⟨rfl, hB2⟩
    go_wp2_with fail
    with_reducible refine (c2 _).mono ?_
    rintro e w3 ⟨rfl, hB3⟩
    go_wp2_with fail
    with_reducible refine (c3 _).mono ?_
    rintro e w4 ⟨rfl, hB4⟩
    go_wp2_with fail
    with_reducible refine (c4 _).mono ?_
    rintro e w5 ⟨rfl, hB5⟩
    have hb := bthen (bthen (bthen (bthen hB1 hB2) hB3) hB4) hB5
    clear hB1 hB2 hB3 hB4 hB5
    go_wp2_with fail
    with_reducible refine (k2 _).mono ?_
    rintro e w6 ⟨rfl, rfl⟩
    go_wp2_with fail
    with_reducible refine (k1 _).mono ?_
    rintro e w6 ⟨rfl, rfl⟩
    go_wp2_with fail
    with_reducible refine (c5 _).mono ?_
    rintro e w6 ⟨rfl, hB6⟩
    go_wp2_with fail
    with_reducible refine (k3 _).mono ?_
    rintro e w7 ⟨rfl, rfl⟩
    go_wp2_with fail
    with_reducible refine (k4 _).mono ?_
    rintro e w7 ⟨rfl, rfl⟩
    go_wp2
    go_ret
    exact ⟨by simp, bthen hb hB6⟩
  · skip
    have k1 := fun W => sign_ok (1) W
    have k2 := fun W => sign_ok (-(1)) W
    have k3 := fun W => sign_ok (-1) W
    have k4 := fun W => sign_ok (-1) W
    simp only [sgn] at k1 k2 k3 k4
    simp at k1 k2 k3 k4 c1 c2 c3 c4
    go_enter Try.func17, Try.ntmps17
    go_wp2_with fail
    with_reducible refine (awake21_ok _).mono ?_
    rintro e w1 ⟨rfl, hB1⟩
    go_wp2_with fail
    with_reducible refine (c1 _).mono ?_
    rintro e w2 ⟨rfl, hB2⟩
    go_wp2_with fail
    with_reducible refine (c2 _).mono ?_
    rintro e w3 ⟨rfl, hB3⟩
    go_wp2_with fail
    with_reducible refine (c3 _).mono ?_
    rintro e w4 ⟨rfl, hB4⟩
    go_wp2_with fail
    with_reducible refine (c4 _).mono ?_
    rintro e w5 ⟨rfl, hB5⟩
    have hb := bthen (bthen (bthen (bthen hB1 hB2) hB3) hB4) hB5
    clear hB1 hB2 hB3 hB4 hB5
    go_wp2_with fail
    with_reducible refine (k2 _).mono ?_
    rintro e w6 ⟨rfl, rfl⟩
    go_wp2_with fail
    with_reducible refine (k1 _).mono ?_
    rintro e w6 ⟨rfl, rfl⟩
    go_wp2_with fail
    with_reducible refine (c5 _).mono ?_
    rintro e w6 ⟨rfl, hB6⟩
    go_wp2
    go_ret
    exact ⟨by simp, bthen hb hB6⟩
  · skip
    have k1 := fun W => sign_ok (1) W
    have k2 := fun W => sign_ok (-(1)) W
    have k3 := fun W => sign_ok (-1) W
    have k4 := fun W => sign_ok (0) W
    simp only [sgn] at k1 k2 k3 k4
    simp at k1 k2 k3 k4 c1 c2 c3 c4
    go_enter Try.func17, Try.ntmps17
    go_wp2_with fail
    with_reducible refine (awake21_ok _).mono ?_
    rintro e w1 ⟨rfl, hB1⟩
    go_wp2_with fail
    with_reducible refine (c1 _).mono ?_
    rintro e w2 ⟨rfl, hB2⟩
    go_wp2_with fail
    with_reducible refine (c2 _).mono ?_
    rintro e w3 ⟨rfl, hB3⟩
    go_wp2_with fail
    with_reducible refine (c3 _).mono ?_
    rintro e w4 ⟨rfl, hB4⟩
    go_wp2_with fail
    with_reducible refine (c4 _).mono ?_
    rintro e w5 ⟨rfl, hB5⟩
    have hb := bthen (bthen (bthen (bthen hB1 hB2) hB3) hB4) hB5
    clear hB1 hB2 hB3 hB4 hB5
    go_wp2_with fail
    with_reducible refine (k2 _).mono ?_
    rintro e w6 ⟨rfl, rfl⟩
    go_wp2_with fail
    with_reducible refine (k1 _).mono ?_
    rintro e w6 ⟨rfl, rfl⟩
    go_wp2_with fail
    with_reducible refine (c5 _).mono ?_
    rintro e w6 ⟨rfl, hB6⟩
    go_wp2
    go_ret
    exact ⟨by simp, bthen hb hB6⟩
  · skip
    have k1 := fun W => sign_ok (1) W
    have k2 := fun W => sign_ok (-(1)) W
    have k3 := fun W => sign_ok (-1) W
    have k4 := fun W => sign_ok (1) W
    simp only [sgn] at k1 k2 k3 k4
    simp at k1 k2 k3 k4 c1 c2 c3 c4
    go_enter Try.func17, Try.ntmps17
    go_wp2_with fail
    with_reducible refine (awake21_ok _).mono ?_
    rintro e w1 ⟨rfl, hB1⟩
    go_wp2_with fail
    with_reducible refine (c1 _).mono ?_
    rintro e w2 ⟨rfl, hB2⟩
    go_wp2_with fail
    with_reducible refine (c2 _).mono ?_
    rintro e w3 ⟨rfl, hB3⟩
    go_wp2_with fail
    with_reducible refine (c3 _).mono ?_
    rintro e w4 ⟨rfl, hB4⟩
    go_wp2_with fail
    with_reducible refine (c4 _).mono ?_
    rintro e w5 ⟨rfl, hB5⟩
    have hb := bthen (bthen (bthen (bthen hB1 hB2) hB3) hB4) hB5
    clear hB1 hB2 hB3 hB4 hB5
    go_wp2_with fail
    with_reducible refine (k2 _).mono ?_
    rintro e w6 ⟨rfl, rfl⟩
    go_wp2_with fail
    with_reducible refine (k1 _).mono ?_
    rintro e w6 ⟨rfl, rfl⟩
    go_wp2_with fail
    with_reducible refine (c5 _).mono ?_
    rintro e w6 ⟨rfl, hB6⟩
    go_wp2
    go_ret
    exact ⟨by simp, bthen hb hB6⟩
  · skip
    have k1 := fun W => sign_ok (1) W
    have k2 := fun W => sign_ok (-(1)) W
    have k3 := fun W => sign_ok (0) W
    have k4 := fun W => sign_ok (1) W
    simp only [sgn] at k1 k2 k3 k4
    simp at k1 k2 k3 k4 c1 c2 c3 c4
    go_enter Try.func17, Try.ntmps17
    go_wp2_with fail
    with_reducible refine (awake21_ok _).mono ?_
    rintro e w1 ⟨rfl, hB1⟩
    go_wp2_with fail
    with_reducible refine (c1 _).mono ?_
    rintro e w2 ⟨rfl, hB2⟩
    go_wp2_with fail
    with_reducible refine (c2 _).mono ?_
    rintro e w3 ⟨rfl, hB3⟩
    go_wp2_with fail
    with_reducible refine (c3 _).mono ?_
    rintro e w4 ⟨rfl, hB4⟩
    go_wp2_with fail
    with_reducible refine (c4 _).mono ?_
    rintro e w5 ⟨rfl, hB5⟩
    have hb := bthen (bthen (bthen (bthen hB1 hB2) hB3) hB4) hB5
    clear hB1 hB2 hB3 hB4 hB5
    go_wp2_with fail
    with_reducible refine (k2 _).mono ?_
    rintro e w6 ⟨rfl, rfl⟩
    go_wp2_with fail
    with_reducible refine (k1 _).mono ?_
    rintro e w6 ⟨rfl, rfl⟩
    go_wp2_with fail
    with_reducible refine (c5 _).mono ?_
    rintro e w6 ⟨rfl, hB6⟩
    go_wp2
    go_ret
    exact ⟨by simp, bthen hb hB6⟩
  · skip
    have k1 := fun W => sign_ok (1) W
    have k2 := fun W => sign_ok (-(1)) W
    have k3 := fun W => sign_ok (1) W
    have k4 := fun W => sign_ok (1) W
    simp only [sgn] at k1 k2 k3 k4
    simp at k1 k2 k3 k4 c1 c2 c3 c4
    go_enter Try.func17, Try.ntmps17
    go_wp2_with fail
    with_reducible refine (awake21_ok _).mono ?_
    rintro e w1 ⟨rfl, hB1⟩
    go_wp2_with fail
    with_reducible refine (c1 _).mono ?_
    rintro e w2 ⟨rfl, hB2⟩
    go_wp2_with fail
    with_reducible refine (c2 _).mono ?_
    rintro e w3 ⟨rfl, hB3⟩
    go_wp2_with fail
    with_reducible refine (c3 _).mono ?_
    rintro e w4 ⟨rfl, hB4⟩
    go_wp2_with fail
    with_reducible refine (c4 _).mono ?_
    rintro e w5 ⟨rfl, hB5⟩
    have hb := bthen (bthen (bthen (bthen hB1 hB2) hB3) hB4) hB5
    clear hB1 hB2 hB3 hB4 hB5
    go_wp2_with fail
    with_reducible refine (k2 _).mono ?_
    rintro e w6 ⟨rfl, rfl⟩
    go_wp2_with fail
    with_reducible refine (k1 _).mono ?_
    rintro e w6 ⟨rfl, rfl⟩
    go_wp2_with fail
    with_reducible refine (c5 _).mono ?_
    rintro e w6 ⟨rfl, hB6⟩
    go_wp2
    go_ret
    exact ⟨by simp, bthen hb hB6⟩
theorem walk (a b c : ByteArray) (wide : Bool) (_ : a.size ≤ maxLen) (_ : b.size ≤ maxLen) (_ : c.size ≤ maxLen) (w : World) : Calls Try.prog 17 #[.string a, .string b, .string c, .bool wide] w fun e w' => e = .returned (.bool true) ∧ Below w.heap.size w w' := by
  by_cases h0 : (300 : Int) < a.size
  · exact walk_big a b c wide w (.inl h0)
  · by_cases h1 : (300 : Int) < b.size
    · exact walk_big a b c wide w (.inr (.inl ⟨h0, h1⟩))
    · by_cases h2 : (300 : Int) < c.size
      · exact walk_big a b c wide w (.inr (.inr ⟨h0, h1, h2⟩))
      · exact walk_small a b c wide w h0 h1 h2
theorem own : ownKnob Try.prog.godebug = none := by kernel_rfl
theorem laidOut : laidOutB Try.prog = true := by kernel_rfl
set_option maxRecDepth 100000 in
theorem lifted (os : Os) (started : os.Started) (H : Type) (enc : TypeId × Value → H) :
    ReturnsInHanded {} Try.checked os 17 .any (Rows.directoryOrderSpec.pre6 enc Try.prog Try.f17 Rows.directoryOrderRow.domain false) (Rows.directoryOrderSpec.post enc Try.prog Try.f17 false true false false) := by
  refine returnsInHanded_of_change (C := Try.checked) own started (by kernel_rfl) Try.func17
    (ChangeSpec.witness6 (enc := enc) (C := Try.checked) false ⟨#[], #[.string ByteArray.empty, .string ByteArray.empty, .string ByteArray.empty, .bool false], []⟩ 8 (by kernel_rfl) (by kernel_rfl) (by kernel_rfl) (by kernel_rfl)) ?_
  intro W base args ds gs before hval0 hW hcnd _
  have hval : ∀ (j : Nat) t v, Try.f17.params[j]? = some t → args[j]? = some v → Value.okWide Try.prog W .any base t v := hval0
  have hW' := hW
  obtain ⟨p, q, hA0, hV, rfl, hfz, hnd⟩ := hW
  have hA : DataW.TrodAll enc Try.prog W 0 (fun _ => true) true Try.f17.params.toList args.toList ds p := hA0
  rw [Try.params17] at hA hval
  obtain ⟨v0, vs0, d0, ds0, p0, q0, hargs, rfl, rfl, h0, r0⟩ := trodAll_cons hA
  obtain ⟨v1, vs1, d1, ds1, p1, q1, rfl, rfl, rfl, h1, r1⟩ := trodAll_cons r0
  obtain ⟨v2, vs2, d2, ds2, p2, q2, rfl, rfl, rfl, h2, r2⟩ := trodAll_cons r1
  obtain ⟨v3, vs3, d3, ds3, p3, q3, rfl, rfl, rfl, h3, r3⟩ := trodAll_cons r2
  obtain ⟨rfl, rfl, rfl⟩ := trodAll_nil r3
  obtain rfl : args = #[v0, v1, v2, v3] := by cases args; simp_all
  obtain ⟨rfl, rfl⟩ := trodVars_none hV
  obtain ⟨a0, rfl, rfl, rfl, w0⟩ := open_string Try.underlying9 (hval 0 9 v0 rfl rfl) h0
  obtain ⟨a1, rfl, rfl, rfl, w1⟩ := open_string Try.underlying9 (hval 1 9 v1 rfl rfl) h1
  obtain ⟨a2, rfl, rfl, rfl, w2⟩ := open_string Try.underlying9 (hval 2 9 v2 rfl rfl) h2
  obtain ⟨a3, rfl, rfl, rfl⟩ := open_bool Try.underlying4 (hval 3 4 v3 rfl rfl) h3
  clear hA0 hval0
  simp only [List.append_nil] at hW'
  refine (walk a0 a1 a2 a3 w0 w1 w2 W).mono fun e W' ⟨he, bel⟩ => ?_
  subst he
  exact ⟨_, rfl, _, _, _, [], _, [], hW', trodAll_mk1 (shut_bool Try.underlying4 _), (trodAll_cons_mk (shut_string Try.underlying9 w0) (trodAll_cons_mk (shut_string Try.underlying9 w1) (trodAll_cons_mk (shut_string Try.underlying9 w2) (trodAll_cons_mk (shut_bool Try.underlying4 _) trodAll_mk0)))), rfl, bel.frame _, fun h => by cases h⟩
theorem over : Rows.directoryOrderRow.holds Try.pinned (OpenSpec.ofChange Rows.directoryOrderSpec) :=
  OpenClaim.holds_of_wide 17 Try.f17 rfl rfl rfl rfl rfl rfl rfl ⟨rfl, rfl, rfl, rfl, rfl⟩ rfl rfl rfl rfl rfl (by as_aux_lemma => kernel_rfl) Try.func17 closed
    (of_decide_eq_true (by as_aux_lemma => kernel_rfl)) (by as_aux_lemma => (unfold Func.isWrapper; first | (rw [if_pos (by decide +kernel)]; kernel_rfl) | (rw [if_neg (by decide +kernel)]; exact ⟨rfl, rfl⟩)))
    (fun os started H enc _ => lifted os started H enc)
theorem proved : Rows.DirectoryOrderSaid := over
#print axioms proved
end Go.Proofs.Ytnmlephjhcmbhaa.directoryOrder
