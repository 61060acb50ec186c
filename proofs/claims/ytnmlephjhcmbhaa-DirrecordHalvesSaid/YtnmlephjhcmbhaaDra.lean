/- Package dirrecord and its reference: padded, Size, fits. -/
import Derived.Test.YtnmlephjhcmbhaaEnd
namespace Go.Proofs.Ytnmlephjhcmbhaa
set_option linter.unusedSimpArgs false
set_option linter.unusedVariables false
open Go Go.RowKit
abbrev cN (n : Int) : Value := .int .i64 n
/-- The size of a directory record, for any numbers. -/
def sizeI (i u : Int) : Int := if (1 ≤ i ∧ i ≤ 254) ∧ (0 ≤ u ∧ u ≤ 254) ∧ u % 2 = 0 ∧ (33 + i + 1) / 2 * 2 + u ≤ 254 then (33 + i + 1) / 2 * 2 + u else 0
set_option maxRecDepth 100000 in
set_option maxHeartbeats 400000 in
theorem padded_ok (i : Int) (w : World) (h0 : 0 ≤ i) (h1 : i ≤ 1000000) : Calls Try.prog 59 #[cN i] w fun e w' => e = .returned (cN ((33 + i + 1) / 2 * 2)) ∧ w = w' := by
  go_enter Try.func59, Try.ntmps59
  go_wp2
  go_ret
  exact ⟨rfl, rfl⟩
theorem par_cases (u : Int) : (u % 2 = 0 ∧ (u % 2 != 0) = false ∧ (u % 2 == 1) = false) ∨ (¬ u % 2 = 0 ∧ (u % 2 != 0) = true ∧ (u % 2 == 1) = true) := by
  rcases (by omega : u % 2 = 0 ∨ u % 2 = 1) with h | h <;> rw [h] <;> simp
set_option maxRecDepth 100000 in
set_option maxHeartbeats 1000000 in
theorem size_ok (i u : Int) (w : World) : Calls Try.prog 21 #[cN i, cN u] w fun e w' => e = .returned (cN (sizeI i u)) ∧ w = w' := by
  by_cases h1 : 1 ≤ i
  · by_cases h2 : i ≤ 254
    · by_cases h3 : 0 ≤ u
      · by_cases h4 : u ≤ 254
        · obtain ⟨p, hp⟩ : ∃ p : Int, (33 + i + 1) / 2 * 2 = p := ⟨_, rfl⟩
          have p1 : 34 ≤ p := by omega
          have p2 : p ≤ 300 := by omega
          have c1 := fun W => padded_ok i W (by omega) (by omega)
          rw [hp] at c1
          rcases par_cases u with ⟨h5, h6, -⟩ | ⟨h5, h6, -⟩
          · by_cases h7 : p + u ≤ 254
            · rw [sizeI, if_pos ⟨⟨h1, h2⟩, ⟨h3, h4⟩, h5, by rw [hp]; exact h7⟩, hp]
              clear h5 hp
              go_enter Try.func21, Try.ntmps21
              go_wp2_with (go_at_call 59; (with_reducible refine (c1 _).mono ?_); rintro e w1 ⟨rfl, rfl⟩)
              go_ret
              exact ⟨rfl, rfl⟩
            · rw [sizeI, if_neg fun h => h7 (by rw [← hp]; exact h.2.2.2)]
              clear h5 hp
              go_enter Try.func21, Try.ntmps21
              go_wp2_with (go_at_call 59; (with_reducible refine (c1 _).mono ?_); rintro e w1 ⟨rfl, rfl⟩)
              go_ret
              exact ⟨rfl, rfl⟩
          · rw [sizeI, if_neg fun h => h5 h.2.2.1]
            clear h5 hp
            go_enter Try.func21, Try.ntmps21
            go_wp2
            go_ret
            exact ⟨rfl, rfl⟩
        · rw [sizeI, if_neg fun h => h4 h.2.1.2]
          go_enter Try.func21, Try.ntmps21
          go_wp2
          go_ret
          exact ⟨rfl, rfl⟩
      · rw [sizeI, if_neg fun h => h3 h.2.1.1]
        go_enter Try.func21, Try.ntmps21
        go_wp2
        go_ret
        exact ⟨rfl, rfl⟩
    · rw [sizeI, if_neg fun h => h2 h.1.2]
      go_enter Try.func21, Try.ntmps21
      go_wp2
      go_ret
      exact ⟨rfl, rfl⟩
  · rw [sizeI, if_neg fun h => h1 h.1.1]
    go_enter Try.func21, Try.ntmps21
    go_wp2
    go_ret
    exact ⟨rfl, rfl⟩
theorem par_even (i p : Int) (hp : (33 + i + 1) / 2 * 2 = p) : ((i % 2 == 0) = false ∧ 33 + i = p) ∨ ((i % 2 == 0) = true ∧ 33 + i + 1 = p) := by
  rcases (by omega : i % 2 = 0 ∨ i % 2 = 1) with h | h
  · right
    rw [h]
    exact ⟨rfl, by omega⟩
  · left
    rw [h]
    exact ⟨rfl, by omega⟩
set_option maxRecDepth 100000 in
set_option maxHeartbeats 1000000 in
theorem rsize_ok (i u : Int) (w : World) : Calls Try.prog 22 #[cN i, cN u] w fun e w' => e = .returned (cN (sizeI i u)) ∧ w = w' := by
  by_cases h1 : 1 ≤ i
  · by_cases h2 : i ≤ 254
    · by_cases h3 : 0 ≤ u
      · by_cases h4 : u ≤ 254
        · obtain ⟨p, hp⟩ : ∃ p : Int, (33 + i + 1) / 2 * 2 = p := ⟨_, rfl⟩
          have p1 : 34 ≤ p := by omega
          have p2 : p ≤ 300 := by omega
          have he := par_even i p hp
          rcases par_cases u with ⟨h5, -, h6⟩ | ⟨h5, -, h6⟩
          · by_cases h7 : p + u ≤ 254
            · rw [sizeI, if_pos ⟨⟨h1, h2⟩, ⟨h3, h4⟩, h5, by rw [hp]; exact h7⟩, hp]
              clear h5 hp
              rcases he with ⟨e1, e2⟩ | ⟨e1, e2⟩
              · have h8 : 33 + i + u ≤ 254 := by omega
                have HE : Hid (33 + i + u = p + u) := Lib.hid (by omega)
                clear e2
                go_enter Try.func22, Try.ntmps22
                go_wp2
                go_ret
                exact ⟨ret_int HE.out, rfl⟩
              · have h8 : 33 + i + u + 1 ≤ 254 := by omega
                have HE : Hid (33 + i + u + 1 = p + u) := Lib.hid (by omega)
                clear e2
                go_enter Try.func22, Try.ntmps22
                go_wp2
                go_ret
                exact ⟨ret_int HE.out, rfl⟩
            · rw [sizeI, if_neg fun h => h7 (by rw [← hp]; exact h.2.2.2)]
              clear h5 hp
              rcases he with ⟨e1, e2⟩ | ⟨e1, e2⟩
              · have h8 : ¬ 33 + i + u ≤ 254 := by omega
                clear e2
                go_enter Try.func22, Try.ntmps22
                go_wp2
                go_ret
                exact ⟨rfl, rfl⟩
              · have h8 : ¬ 33 + i + u + 1 ≤ 254 := by omega
                clear e2
                go_enter Try.func22, Try.ntmps22
                go_wp2
                go_ret
                exact ⟨rfl, rfl⟩
          · rw [sizeI, if_neg fun h => h5 h.2.2.1]
            clear h5 hp he
            go_enter Try.func22, Try.ntmps22
            go_wp2
            go_ret
            exact ⟨rfl, rfl⟩
        · rw [sizeI, if_neg fun h => h4 h.2.1.2]
          go_enter Try.func22, Try.ntmps22
          go_wp2
          go_ret
          exact ⟨rfl, rfl⟩
      · rw [sizeI, if_neg fun h => h3 h.2.1.1]
        go_enter Try.func22, Try.ntmps22
        go_wp2
        go_ret
        exact ⟨rfl, rfl⟩
    · rw [sizeI, if_neg fun h => h2 h.1.2]
      go_enter Try.func22, Try.ntmps22
      go_wp2
      go_ret
      exact ⟨rfl, rfl⟩
  · rw [sizeI, if_neg fun h => h1 h.1.1]
    go_enter Try.func22, Try.ntmps22
    go_wp2
    go_ret
    exact ⟨rfl, rfl⟩
set_option maxRecDepth 100000 in
set_option maxHeartbeats 400000 in
theorem fits20_ok (n m : Int) (w : World) : Calls Try.prog 57 #[cN n, cN m] w fun e w' => e = .returned (.bool (decide (0 ≤ n ∧ n ≤ m))) ∧ w = w' := by
  by_cases h1 : 0 ≤ n
  · by_cases h2 : n ≤ m
    · rw [decide_eq_true ⟨h1, h2⟩]
      go_enter Try.func57, Try.ntmps57
      go_wp2
      go_ret
      exact ⟨rfl, rfl⟩
    · rw [decide_eq_false fun h => h2 h.2]
      go_enter Try.func57, Try.ntmps57
      go_wp2
      go_ret
      exact ⟨rfl, rfl⟩
  · rw [decide_eq_false fun h => h1 h.1]
    go_enter Try.func57, Try.ntmps57
    go_wp2
    go_ret
    exact ⟨rfl, rfl⟩
end Go.Proofs.Ytnmlephjhcmbhaa
