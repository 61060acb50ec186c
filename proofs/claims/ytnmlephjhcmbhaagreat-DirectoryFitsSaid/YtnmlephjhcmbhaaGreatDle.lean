/- DirectoryFits: the search for a bad size. -/
import Derived.Test.YtnmlephjhcmbhaaGreatDkg
import Derived.Test.YtnmlephjhcmbhaaGreatDkl
namespace Go.Proofs.YtnmlephjhcmbhaaGreat
set_option linter.unusedSimpArgs false
set_option linter.unusedVariables false
open Go Go.RowKit
theorem bad1_ok (x : Int) (w : World) : Calls Tryz.prog 30 #[cN x] w fun e w' => e = .returned (.bool (!okS x)) ∧ w' = w := by
  by_cases h1 : x < 34
  · have e : okS x = false := by unfold okS; exact decide_eq_false (by omega)
    rw [e]; clear e
    go_enter Tryz.func30, Tryz.ntmps30
    go_wp2
    go_ret
    exact ⟨rfl, rfl⟩
  · by_cases h2 : 254 < x
    · have e : okS x = false := by unfold okS; exact decide_eq_false (by omega)
      rw [e]; clear e
      go_enter Tryz.func30, Tryz.ntmps30
      go_wp2
      go_ret
      exact ⟨rfl, rfl⟩
    · by_cases h3 : x % 2 = 0
      · have e : okS x = true := by unfold okS; exact decide_eq_true (by omega)
        have ht : Int.tmod x 2 = 0 := by rw [Int.tmod_eq_emod_of_nonneg (by omega)]; omega
        rw [e]; clear e h3
        go_enter Tryz.func30, Tryz.ntmps30
        go_wp2
        go_ret
        exact ⟨rfl, rfl⟩
      · have e : okS x = false := by unfold okS; exact decide_eq_false (by omega)
        have ht : Int.tmod x 2 = 1 := by rw [Int.tmod_eq_emod_of_nonneg (by omega)]; omega
        rw [e]; clear e h3
        go_enter Tryz.func30, Tryz.ntmps30
        go_wp2
        go_ret
        exact ⟨rfl, rfl⟩
set_option maxRecDepth 100000 in
set_option maxHeartbeats 1000000 in
theorem ifint_ok (a : Option Addr) (c : Nat) (l : List Int) (w : World) (hl : l.length ≤ 2000) (hrow : RowI w a l) :
    Calls Tryz.prog 57 #[.slice a l.length c, .func (.func 30) #[] #[]] w fun e w' => (∃ i : Int, e = .returned (cN i) ∧ -1 ≤ i ∧ okL l = decide (i < 0)) ∧ w' = w := by
  have HR := Lib.hid hrow
  clear hrow
  go_enter Tryz.func57, Tryz.ntmps57
  go_wp2
  go_loopw [8, 5] (fun i _ wr => ∃ k : Nat, i = cN k ∧ k ≤ l.length ∧ okL (l.take k) = true ∧ wr = w) (fun i _ _ => l.length - (intOf i).toNat)
  case atStart => exact ⟨0, rfl, Nat.zero_le _, rfl, rfl⟩
  case round =>
    obtain ⟨k, rfl, hk, hf, rfl⟩ := hrel
    by_cases hlt : (k : Int) < (l.length : Int)
    · have hkl : k < l.length := by omega
      obtain ⟨b, off, rfl, hb, hc⟩ := HR.out k hkl
      obtain ⟨x, hx⟩ : ∃ x, l.getD k 0 = x := ⟨_, rfl⟩
      rw [hx] at hc
      have HX := Lib.hid hx
      have HF := Lib.hid hf
      clear hx hf hb
      have c1 := bad1_ok x wr
      cases he : okS x
      · rw [he] at c1
        have HE := Lib.hid he
        clear he
        go_wp2_with (go_at_call 30; (with_reducible refine c1.mono ?_); rintro e w1 ⟨rfl, rfl⟩)
        go_ret
        refine ⟨⟨k, rfl, by omega, ?_⟩, by trivial⟩
        rw [okL_false l k hkl (by rw [HX.out]; exact HE.out)]
        exact (decide_eq_false (by omega)).symm
      · rw [he] at c1
        have HE := Lib.hid he
        clear he
        go_wp2_with (go_at_call 30; (with_reducible refine c1.mono ?_); rintro e w1 ⟨rfl, rfl⟩)
        go_roundw
        case rel =>
          refine ⟨k + 1, by go_num, by omega, ?_, by trivial⟩
          rw [okL_snoc l k hkl, HF.out, HX.out, HE.out]; rfl
        case measure => simp [intOf]; omega
    · obtain rfl : k = l.length := by omega
      go_wp2
      go_ret
      refine ⟨⟨-1, rfl, by omega, ?_⟩, by trivial⟩
      rw [List.take_length] at hf
      rw [hf]; rfl
set_option maxRecDepth 100000 in
set_option maxHeartbeats 400000 in
theorem cfint_ok (a : Option Addr) (c : Nat) (l : List Int) (w : World) (hl : l.length ≤ 2000) (hrow : RowI w a l) :
    Calls Tryz.prog 29 #[.slice a l.length c, .func (.func 30) #[] #[]] w fun e w' => e = .returned (.bool (!okL l)) ∧ w' = w := by
  have c1 := ifint_ok a c l w hl hrow
  clear hrow
  go_enter Tryz.func29, Tryz.ntmps29
  go_wp2_with fail
  with_reducible refine c1.mono ?_
  rintro e w1 ⟨⟨i, rfl, h1, h2⟩, rfl⟩
  have H2 := Lib.hid h2
  clear h2
  by_cases h0 : i < 0
  · have e1 : ¬ 0 ≤ i := by omega
    go_wp2
    go_ret
    exact ⟨by rw [H2.out]; simp [h0, e1], by trivial⟩
  · have e1 : 0 ≤ i := by omega
    go_wp2
    go_ret
    exact ⟨by rw [H2.out]; simp [h0, e1], by trivial⟩
end Go.Proofs.YtnmlephjhcmbhaaGreat
