/- The law SparingSurvives. -/
import Derived.Test.YtocncjimepnlcaaGreatDoorDzk
namespace Go.Proofs.YtocncjimepnlcaaGreatDoor
set_option linter.unusedSimpArgs false
set_option linter.unusedVariables false
open Go Go.RowKit
theorem rep_un {l u : List Sp} {f m : Int} (h : Rep l f m u) : ∃ i, i < (remF f l).length ∧ (at_ (remF f l) i).1 = UN := by
  obtain ⟨b, -, hb, hg, -⟩ := h.best
  have hg' : at_ (remF f l) b = (UN, m) := hg
  exact ⟨b, hb, by rw [hg']⟩
theorem lssur_ok (s : Int) (v : Value) (l : List Sp) (x k0 k1 cut : Int) (w : World) (h : SL w v l) (h0 : 0 ≤ k0 ∧ k0 < 65536) (h1 : 0 ≤ k1 ∧ k1 < 65536) (hc : 0 ≤ cut ∧ cut ≤ 255) :
    Calls Tryz.prog 4 #[.agg #[cN s, v], cN x, .agg #[.int .u16 k0, .int .u16 k1], .int .u8 cut] w fun e w' => e = .returned (.bool true) ∧ Below w.heap.size w w' := by
  obtain ⟨a, c, rfl⟩ := h.form
  by_cases hn : (20 : Int) < (l.length : Int)
  · exact lssur_big s a c l x k0 k1 cut w hn h
  by_cases he : k0 = k1
  · subst he
    exact lssur_eq s a c l x k0 cut w hn h
  have hk : (k0 == k1) = false := by rw [beq_eq_false_iff_ne]; exact he
  cases hv : validB s l with
  | false => exact lssur_err s a c l x k0 k1 cut 1 w hn h hk h0 h1 rfl fun W hW => replace_bad s x _ l W hW hv
  | true =>
    by_cases hf : x < 0 ∨ 4294967279 < x
    · exact lssur_err s a c l x k0 k1 cut 2 w hn h hk h0 h1 rfl fun W hW => replace_far s x _ l W hW hv (by omega)
    have hx0 : 0 ≤ x := by omega
    have hx1 : x ≤ 4294967279 := by omega
    by_cases hU : ∃ i, i < (remF (x - x % 8) l).length ∧ (at_ (remF (x - x % 8) l) i).1 = UN
    · by_cases hs : s = 4294967295
      · refine lssur_err s a c l x k0 k1 cut 7 w hn h hk h0 h1 rfl fun W hW => (replace_walk s x _ l W hW hv hx0 hx1).mono fun e w' ⟨hb, hr⟩ => ?_
        rcases hr with ⟨-, hno⟩ | ⟨he, -, -⟩ | ⟨_, _, _, -, -, -, hs'⟩
        · obtain ⟨i, hi, hu⟩ := hU
          exact absurd hu (hno i hi)
        · exact ⟨he, hb⟩
        · exact absurd hs hs'
      · obtain ⟨n0, rfl⟩ : ∃ n : Nat, k0 = n := ⟨k0.toNat, by omega⟩
        obtain ⟨n1, rfl⟩ : ∃ n : Nat, k1 = n := ⟨k1.toNat, by omega⟩
        refine lssur_good s a c l x n0 n1 cut w hn h hk (by omega) (by omega) hc.1 hc.2 hv fun W hW => (replace_walk s x _ l W hW hv hx0 hx1).mono fun e w' ⟨hb, hr⟩ => ?_
        rcases hr with ⟨-, hno⟩ | ⟨-, hs', -⟩ | ⟨v', u, m, he, hsl, hrep, -⟩
        · obtain ⟨i, hi, hu⟩ := hU
          exact absurd hu (hno i hi)
        · exact absurd hs' hs
        · have hV := (rep_valid ((valid_iff s l).1 hv) hrep (by omega) (by show x - x % 8 < 4294967295; omega) (by omega) hs).1
          exact ⟨⟨v', u, m, he, hsl, (valid_iff _ _).2 hV⟩, hb⟩
    · refine lssur_err s a c l x k0 k1 cut 12 w hn h hk h0 h1 rfl fun W hW => (replace_walk s x _ l W hW hv hx0 hx1).mono fun e w' ⟨hb, hr⟩ => ?_
      rcases hr with ⟨he, -⟩ | ⟨-, -, hy⟩ | ⟨_, _, _, -, -, hrep, -⟩
      · exact ⟨he, hb⟩
      · exact absurd hy hU
      · exact absurd (rep_un hrep) hU
end Go.Proofs.YtocncjimepnlcaaGreatDoor
