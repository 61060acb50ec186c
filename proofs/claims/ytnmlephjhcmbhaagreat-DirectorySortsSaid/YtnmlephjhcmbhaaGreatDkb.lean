/- The places of directory records, plain. -/
import Derived.Test.YtnmlephjhcmbhaaGreatMa
namespace Go.Proofs.YtnmlephjhcmbhaaGreat
set_option linter.unusedSimpArgs false
set_option linter.unusedVariables false
open Go Go.RowKit
def okS (n : Int) : Bool := decide (34 ≤ n ∧ n ≤ 254 ∧ n % 2 = 0)
/-- Where a record of n bytes lies, if a is the end of what lies before. -/
def plc (a n : Nat) : Nat := if 2048 - a % 2048 < n then a + (2048 - a % 2048) else a
def plcs : Nat → List Nat → List Nat
  | _, [] => []
  | a, n :: l => plc a n :: plcs (plc a n + n) l
def plcE : Nat → List Nat → Nat
  | a, [] => a
  | a, n :: l => plcE (plc a n + n) l
theorem plcs_len : ∀ (l : List Nat) (a : Nat), (plcs a l).length = l.length
  | [], _ => rfl
  | n :: l, a => by rw [plcs, List.length_cons, plcs_len l, List.length_cons]
theorem plcs_snoc : ∀ (l : List Nat) (a n : Nat), plcs a (l ++ [n]) = plcs a l ++ [plc (plcE a l) n]
  | [], _, _ => rfl
  | m :: l, a, n => by rw [List.cons_append, plcs, plcs_snoc l, plcs, plcE, List.cons_append]
theorem plcE_snoc : ∀ (l : List Nat) (a n : Nat), plcE a (l ++ [n]) = plc (plcE a l) n + n
  | [], _, _ => rfl
  | m :: l, a, n => by rw [List.cons_append, plcE, plcE_snoc l, plcE]
theorem plc_le (a n : Nat) : a ≤ plc a n ∧ plc a n ≤ a + 2048 := by unfold plc; split <;> omega
theorem plcE_le : ∀ (l : List Nat) (a : Nat), (∀ n ∈ l, n ≤ 254) → plcE a l ≤ a + 2302 * l.length
  | [], _, _ => by simp [plcE]
  | n :: l, a, h => by
    have h1 := plcE_le l (plc a n + n) fun m hm => h m (List.mem_cons_of_mem _ hm)
    have h2 := plc_le a n
    have h3 := h n (List.mem_cons_self ..)
    rw [plcE, List.length_cons]
    omega
/-- The sizes, as numbers; what places gives. -/
def natS (l : List Int) : List Nat := l.map Int.toNat
def okL (l : List Int) : Bool := l.all okS
def offM (l : List Int) : List Nat := if okL l then plcs 0 (natS l) else []
def endM (l : List Int) : Nat := if okL l then plcE 0 (natS l) else 0
def blkM (l : List Int) : Nat := (endM l + 2047) / 2048
theorem natS_le (l : List Int) (h : okL l = true) : ∀ n ∈ natS l, n ≤ 254 := by
  intro n hn
  obtain ⟨x, hx, rfl⟩ := List.mem_map.1 hn
  have := List.all_eq_true.1 h x hx
  unfold okS at this
  have := of_decide_eq_true this
  omega
/-- The blocks, as the last place tells them. -/
theorem plc_blk (a n : Nat) (h1 : 1 ≤ n) (h2 : n ≤ 254) : (plc a n + n + 2047) / 2048 = plc a n / 2048 + 1 := by
  unfold plc
  split <;> omega
theorem blkM_last (l : List Int) (x : Int) (h : okL (l ++ [x]) = true) : blkM (l ++ [x]) = plc (plcE 0 (natS l)) x.toNat / 2048 + 1 ∧ offM (l ++ [x]) = plcs 0 (natS l) ++ [plc (plcE 0 (natS l)) x.toNat] := by
  have hx : okS x = true := List.all_eq_true.1 h x (by simp)
  have hx := of_decide_eq_true hx
  have e : natS (l ++ [x]) = natS l ++ [x.toNat] := by simp [natS]
  unfold blkM endM offM
  rw [if_pos h, if_pos h, e, plcE_snoc, plcs_snoc]
  exact ⟨plc_blk _ _ (by omega) (by omega), rfl⟩
end Go.Proofs.YtnmlephjhcmbhaaGreat
