/- Sparing tables: the closure of Replace that finds a packet, slices.IndexFunc and slices.DeleteFunc with it. -/
import Derived.Test.YtocncjimepnlcaaGreatDoorSpc
namespace Go.Proofs.YtocncjimepnlcaaGreatDoor
set_option linter.unusedSimpArgs false
set_option linter.unusedVariables false
open Go Go.RowKit
/-- Each block that holds other cells than entries is as it was. -/
def Fr (w w' : World) : Prop := ∀ (k : Nat) (cs : Array Value) (T : TypeId) (fr : Nat × Nat), T ≠ 54 → w.heap[k]? = some (.cells cs T fr) → w'.heap[k]? = some (.cells cs T fr)
theorem Fr.refl (w : World) : Fr w w := fun _ _ _ _ _ h => h
theorem Fr.trans {w w1 w2 : World} (h : Fr w w1) (k : Fr w1 w2) : Fr w w2 := fun i cs T fr hT hw => k i cs T fr hT (h i cs T fr hT hw)
theorem Fr.below {w w' : World} (k : Below w.heap.size w w') : Fr w w' := fun _ _ _ _ _ h => (k.block _ (lt_of_block h)).trans h
theorem Fr.set {w : World} {g i : Nat} {v : Value} {cs : Array Value} {fr : Nat × Nat} (hg : w.heap[g]? = some (.cells cs 54 fr)) : Fr w (w.setCell ⟨g, i, none⟩ v) := fun k cs' T fr' hT h => row_other i v h (fun e => by
  subst e
  rw [hg] at h
  simp only [Option.some.injEq, Obj.cells.injEq] at h
  exact hT h.2.1.symm)
set_option maxRecDepth 100000 in
set_option maxHeartbeats 400000 in
theorem del_ok (xo xm f : Int) (F : Nat) (w : World) (hF : w.heap[F]? = some (.cells #[cN f] 3 (0, 0))) :
    Calls Tryz.prog 29 #[.agg #[cN xo, cN xm], .pointer (some ⟨F, 0, none⟩)] w fun e w' => e = .returned (.bool (xo == f)) ∧ Below w.heap.size w w' := by
  have h2 := (Lib.alloc_old w (.cells #[cN xo, cN xm] 54) _ (lt_of_block hF)).trans hF
  have p0 := Lib.cell_of_heap h2 0
  clear h2 hF
  go_enter Tryz.func29, Tryz.ntmps29
  go_wp2
  go_ret
  exact ⟨rfl, bal (Below.refl _ w) _⟩
/-- The first entry of a packet. -/
def IdxAt (l : List Sp) (f r : Int) : Prop := (r = -1 ∧ ∀ i, i < l.length → (at_ l i).1 ≠ f) ∨ ∃ k : Nat, r = k ∧ k < l.length ∧ (∀ i, i < k → (at_ l i).1 ≠ f) ∧ (at_ l k).1 = f
set_option maxRecDepth 100000 in
set_option maxHeartbeats 1000000 in
theorem index_row (a : Option Addr) (c : Nat) (l : List Sp) (f : Int) (F : Nat) (w : World) (hl : l.length ≤ 1000) (hF : w.heap[F]? = some (.cells #[cN f] 3 (0, 0)))
    (hrow : ∀ k, k < l.length → ∃ b off, a = some ⟨b, off, none⟩ ∧ b < w.heap.size ∧ Row w b off l) :
    Calls Tryz.prog 45 #[.slice a l.length c, .func (.func 29) #[] #[.pointer (some ⟨F, 0, none⟩)]] w fun e w' => ∃ r, e = .returned (cN r) ∧ IdxAt l f r ∧ Below w.heap.size w w' := by
  have HR := Lib.hid hrow
  have HF := Lib.hid hF
  clear hrow hF
  go_enter Tryz.func45, Tryz.ntmps45
  go_wp2
  go_loopw [8] (fun i wr => ∃ k : Nat, i = cN k ∧ k ≤ l.length ∧ (∀ i, i < k → (at_ l i).1 ≠ f) ∧ Below w.heap.size w wr) (fun i _ => l.length - (intOf i).toNat)
  case atStart => exact ⟨0, rfl, Nat.zero_le _, fun i h => absurd h (Nat.not_lt_zero _), Below.refl _ w⟩
  case round =>
    obtain ⟨k, rfl, hk, hno, hB⟩ := hrel
    have HNO := Lib.hid hno
    clear hno
    by_cases hlt : (k : Int) < (l.length : Int)
    · have hkl : k < l.length := by omega
      obtain ⟨b, off, rfl, hb, hR⟩ := HR.out k hkl
      obtain ⟨q0, q1⟩ := (hR.below hb hB) k hkl
      obtain ⟨xo, xm, hx⟩ : ∃ xo xm, at_ l k = (xo, xm) := ⟨_, _, rfl⟩
      rw [hx] at q0 q1
      have HX := Lib.hid hx
      have hF2 := (hB.block _ (lt_of_block HF.out)).trans HF.out
      have c1 := fun (W : World) (h : W.heap[F]? = some (.cells #[cN f] 3 (0, 0))) => del_ok xo xm f F W h
      clear hx hR
      cases he : (xo == f)
      · rw [he] at c1
        have HE := Lib.hid he
        clear he
        go_wp2_with (go_at_call 29; (with_reducible refine (c1 _ hF2).mono ?_); rintro e w1 ⟨rfl, hB1⟩)
        go_roundw
        case rel => exact ⟨k + 1, by go_num, by omega, fun i hi => (by
            rcases Nat.lt_or_ge i k with h | h
            · exact HNO.out i h
            · rw [show i = k by omega, HX.out]; have := HE.out; rw [beq_eq_false_iff_ne] at this; exact this), bthen hB hB1⟩
        case measure => simp [intOf]; omega
      · rw [he] at c1
        have HE := Lib.hid he
        clear he
        go_wp2_with (go_at_call 29; (with_reducible refine (c1 _ hF2).mono ?_); rintro e w1 ⟨rfl, hB1⟩)
        go_ret
        exact ⟨_, rfl, .inr ⟨k, rfl, hkl, HNO.out, by rw [HX.out]; have := HE.out; rw [beq_iff_eq] at this; exact this⟩, bthen hB hB1⟩
    · obtain rfl : k = l.length := by omega
      go_wp2
      go_ret
      exact ⟨_, rfl, .inl ⟨rfl, HNO.out⟩, hB⟩
end Go.Proofs.YtocncjimepnlcaaGreatDoor
