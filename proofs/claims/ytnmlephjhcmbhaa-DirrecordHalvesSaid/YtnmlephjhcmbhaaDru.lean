/- The chapter's example of directory records: awake. -/
import Derived.Test.YtnmlephjhcmbhaaDrr
import Derived.Test.YtnmlephjhcmbhaaDrs
import Derived.Test.YtnmlephjhcmbhaaDrt
import Derived.Test.YtnmlephjhcmbhaaRgv
namespace Go.Proofs.Ytnmlephjhcmbhaa
set_option linter.unusedSimpArgs false
set_option linter.unusedVariables false
open Go Go.RowKit
def exB : ByteArray := ⟨#[38, 0, 20, 0, 0, 0, 0, 0, 0, 20, 5, 0, 0, 0, 0, 0, 0, 5, 126, 11, 16, 17, 4, 5, 4, 0, 0, 0, 1, 0, 0, 1, 4, 65, 46, 59, 49, 0]⟩
def exB2 : ByteArray := ⟨#[38, 0, 20, 0, 0, 0, 0, 0, 0, 20, 5, 0, 0, 0, 0, 0, 0, 5, 126, 11, 16, 17, 4, 5, 4, 0, 0, 0, 1, 0, 0, 1, 4, 65, 46, 59, 49, 0, 98, 101, 104, 105, 110, 100]⟩
def exB3 : ByteArray := ⟨#[38, 0, 21, 0, 0, 0, 0, 0, 0, 20, 5, 0, 0, 0, 0, 0, 0, 5, 126, 11, 16, 17, 4, 5, 4, 0, 0, 0, 1, 0, 0, 1, 4, 65, 46, 59, 49, 0]⟩
theorem exTime : TimeOf 1794845045 60 ⟨56, 10, 15⟩ 17 4 5 := ⟨⟨by decide +kernel, by decide +kernel⟩, by decide, by decide, by decide, by decide +kernel⟩
theorem exIn : inT 1794845045 60 := by unfold inT; decide
theorem exStr : strM exR (recB ⟨56, 10, 15⟩ 17 4 5 60) 0 = exB := by decide +kernel
theorem exErr : errM exR 0 = 0 := by decide +kernel
theorem exDecE : decE exB2 = 0 := by decide +kernel
theorem exDecN : decN exB2 = 38 := by decide +kernel
theorem exDecR : decR exB2 = exR := by
  rw [← recEq_iff]
  decide +kernel
theorem exDif : difM exB3 = [2] := by decide +kernel
theorem exEnc (W : World) : Calls Try.prog 19 #[.agg (recA exR)] W fun e w' => e = .returned (.tuple #[.string exB, cN 0]) ∧ Below W.heap.size W w' := by
  have h := encode_ok exR _ 0 W (.inl rfl) (by decide +kernel) (by decide +kernel) (by decide +kernel) (recS_good exIn exTime).main
  rw [exStr, exErr] at h
  exact h
theorem exDec (W : World) : Calls Try.prog 23 #[.string exB2] W fun e w' => e = .returned (.tuple #[.agg (recA exR), cN 38, cN 0]) ∧ Below W.heap.size W w' := by
  have h := decode_ok exB2 W (by decide +kernel)
  rw [exDecR, exDecN, exDecE] at h
  exact h
theorem exDiffer (W : World) : Calls Try.prog 26 #[.string exB3] W fun e w' => ∃ v, e = .returned v ∧ IL W [2] v w' := by
  have h := differ_ok exB3 W (by decide +kernel)
  rw [exDif] at h
  exact h
theorem exSize (W : World) : Calls Try.prog 21 #[cN 4, cN 0] W fun e w' => e = .returned (cN 38) ∧ W = w' := size_ok 4 0 W
/-- The predicate of a value: a slice of numbers of the call's own. -/
def VI (l : List Nat) : World → Value → Prop := fun W v => W.ownsRow 0 3 1 v l.length (ints l)
theorem VI_keeps (l : List Nat) : Keeps (VI l) := fun _ _ _ hB h => own_keep h hB
theorem own_row {W : World} {g : Nat} (l : List Nat) {cs : Array Value} {n : Nat} (hcs : cs = (ints l).toArray) (hn : n = l.length) (hm : n ≤ maxLen) (hg : W.heap[g]? = some (.cells cs 3 (0, 0))) : W.ownsRow 0 3 1 (.slice (some ⟨g, 0, none⟩) n n) l.length (ints l) := by
  subst hcs hn
  exact ⟨by simp [ints], .inr ⟨g, l.length, (ints l).toArray, rfl, Nat.zero_le _, hg, Nat.le_refl _, hm, by simp [ints], (by rw [List.toList_toArray, Nat.mul_one]; exact List.take_of_length_le (by simp [ints]))⟩⟩
set_option maxRecDepth 100000 in
set_option maxHeartbeats 4000000 in
theorem awake_ok (w : World) : Calls Try.prog 18 #[] w fun e w' => e = .returned (.bool true) ∧ Below w.heap.size w w' := by
  have d1 : ∀ W : World, Calls Try.prog 23 #[.string ⟨#[38, 0, 20, 0, 0, 0, 0, 0, 0, 20, 5, 0, 0, 0, 0, 0, 0, 5, 126, 11, 16, 17, 4, 5, 4, 0, 0, 0, 1, 0, 0, 1, 4, 65, 46, 59, 49, 0, 98, 101, 104, 105, 110, 100]⟩] W fun e w' => e = .returned (.tuple #[.agg (recA exR), cN 38, cN 0]) ∧ Below W.heap.size W w' := exDec
  have n1 : ∀ W : World, Calls Try.prog 19 #[.agg (recA exR)] W fun e w' => e = .returned (.tuple #[.string ⟨#[38, 0, 20, 0, 0, 0, 0, 0, 0, 20, 5, 0, 0, 0, 0, 0, 0, 5, 126, 11, 16, 17, 4, 5, 4, 0, 0, 0, 1, 0, 0, 1, 4, 65, 46, 59, 49, 0]⟩, cN 0]) ∧ Below W.heap.size W w' := exEnc
  have d3 : ∀ W : World, Calls Try.prog 26 #[.string ((⟨#[38, 0, 21]⟩ : ByteArray) ++ (⟨#[38, 0, 20, 0, 0, 0, 0, 0, 0, 20, 5, 0, 0, 0, 0, 0, 0, 5, 126, 11, 16, 17, 4, 5, 4, 0, 0, 0, 1, 0, 0, 1, 4, 65, 46, 59, 49, 0]⟩ : ByteArray).extract 3 38)] W fun e w' => ∃ v, e = .returned v ∧ IL W [2] v w' := fun W => by
    rw [show (⟨#[38, 0, 21]⟩ : ByteArray) ++ (⟨#[38, 0, 20, 0, 0, 0, 0, 0, 0, 20, 5, 0, 0, 0, 0, 0, 0, 5, 126, 11, 16, 17, 4, 5, 4, 0, 0, 0, 1, 0, 0, 1, 4, 65, 46, 59, 49, 0]⟩ : ByteArray).extract 3 38 = exB3 by decide +kernel]
    exact exDiffer W
  go_enter Try.func18, Try.ntmps18
  go_wp2_with (first | (go_at_call 28; (with_reducible refine (example_ok _).mono ?_); rintro e w1 ⟨rfl, hB1⟩) | (go_at_call 19; (with_reducible refine (n1 _).mono ?_); rintro e w2 ⟨rfl, hB2⟩) | (go_at_call 23; (with_reducible refine (d1 _).mono ?_); rintro e w3 ⟨rfl, hB3⟩))
  have HA : (w3.alloc (.cells (recA exR) 23)).heap[w3.heap.size]? = some (.cells (recA exR) 23 (0, 0)) := World.alloc_heap_new _ _
  have hlt : w3.heap.size < (w3.alloc (.cells (recA exR) 23)).heap.size := lt_of_block HA
  have HB : Hid (Below w.heap.size w (w3.alloc (.cells (recA exR) 23))) := Lib.hid (bthen (bthen (bthen hB1 hB2) hB3) ((Below.refl _ _).alloc (Nat.le_refl _) _))
  have hm := recGuard
  have heq := fun W => rec_eql exR exR W
  rw [(recEq_iff exR exR).2 rfl] at heq
  apply region_below (VC _ :: VC _ :: VC _ :: VC _ :: VC _ :: VC _ :: VC _ :: VC _ :: VC _ :: VC _ :: VC _ :: VC _ :: VC _ :: VC _ :: VC _ :: VC _ :: VC _ :: VC _ :: VC _ :: VC _ :: VC _ :: VC _ :: VC _ :: VC _ :: VC _ :: VC _ :: VI [2] :: VS #[cN 2] 3 1 :: VC _ :: VC _ :: VC _ :: []) (by kernel_rfl) (by kernel_rfl) (by rintro ⟨_, _, h, _⟩; cases h)
  · repeat (first | exact trivial | (refine KeepsL_cons ?_ ?_; (first | apply VC_keeps | apply VS_keeps | apply VT_keeps | apply VI_keeps)))
  refine ops_cons ?_ ?_
  · intro us w1 hle hP K' hK
    simp only [predsV, vsel, VC, VS, VT, List.getD_eq_getElem?_getD, List.getElem?_cons_zero, List.getElem?_cons_succ, Option.getD_some, and_true, true_and, and_self] at hP
    simp only [putAll, List.map_cons, List.map_nil, Act.put, List.setIfInBounds_toArray, List.set_cons_succ, List.set_cons_zero, Nat.zero_add, Nat.reduceAdd] at hK ⊢
    simp only [vsel, VC, VS, VT, List.getD_eq_getElem?_getD, List.getElem?_cons_zero, List.getElem?_cons_succ, Option.getD_some] at hK
    try simp only [hP] at hK ⊢
    go_wp2
    exact hK _ _ rfl (Below.refl _ _)
  refine ops_cons ?_ ?_
  · intro us w1 hle hP K' hK
    simp only [predsV, vsel, VC, VS, VT, List.getD_eq_getElem?_getD, List.getElem?_cons_zero, List.getElem?_cons_succ, Option.getD_some, and_true, true_and, and_self] at hP
    simp only [putAll, List.map_cons, List.map_nil, Act.put, List.setIfInBounds_toArray, List.set_cons_succ, List.set_cons_zero, Nat.zero_add, Nat.reduceAdd] at hK ⊢
    simp only [vsel, VC, VS, VT, List.getD_eq_getElem?_getD, List.getElem?_cons_zero, List.getElem?_cons_succ, Option.getD_some] at hK
    try simp only [hP] at hK ⊢
    go_wp2
    exact hK _ _ rfl (Below.refl _ _)
  refine ops_cons ?_ ?_
  · intro us w1 hle hP K' hK
    simp only [predsV, vsel, VC, VS, VT, List.getD_eq_getElem?_getD, List.getElem?_cons_zero, List.getElem?_cons_succ, Option.getD_some, and_true, true_and, and_self] at hP
    simp only [putAll, List.map_cons, List.map_nil, Act.put, List.setIfInBounds_toArray, List.set_cons_succ, List.set_cons_zero, Nat.zero_add, Nat.reduceAdd] at hK ⊢
    simp only [vsel, VC, VS, VT, List.getD_eq_getElem?_getD, List.getElem?_cons_zero, List.getElem?_cons_succ, Option.getD_some] at hK
    try simp only [hP] at hK ⊢
    go_wp2
    exact hK _ _ rfl (Below.refl _ _)
  refine ops_cons ?_ ?_
  · intro us w1 hle hP K' hK
    simp only [predsV, vsel, VC, VS, VT, List.getD_eq_getElem?_getD, List.getElem?_cons_zero, List.getElem?_cons_succ, Option.getD_some, and_true, true_and, and_self] at hP
    simp only [putAll, List.map_cons, List.map_nil, Act.put, List.setIfInBounds_toArray, List.set_cons_succ, List.set_cons_zero, Nat.zero_add, Nat.reduceAdd] at hK ⊢
    simp only [vsel, VC, VS, VT, List.getD_eq_getElem?_getD, List.getElem?_cons_zero, List.getElem?_cons_succ, Option.getD_some] at hK
    try simp only [hP] at hK ⊢
    go_wp2
    exact hK _ _ rfl (Below.refl _ _)
  refine ops_cons ?_ ?_
  · intro us w1 hle hP K' hK
    simp only [predsV, vsel, VC, VS, VT, List.getD_eq_getElem?_getD, List.getElem?_cons_zero, List.getElem?_cons_succ, Option.getD_some, and_true, true_and, and_self] at hP
    simp only [putAll, List.map_cons, List.map_nil, Act.put, List.setIfInBounds_toArray, List.set_cons_succ, List.set_cons_zero, Nat.zero_add, Nat.reduceAdd] at hK ⊢
    simp only [vsel, VC, VS, VT, List.getD_eq_getElem?_getD, List.getElem?_cons_zero, List.getElem?_cons_succ, Option.getD_some] at hK
    try simp only [hP] at hK ⊢
    go_wp2
    exact hK _ _ rfl (Below.refl _ _)
  refine ops_cons ?_ ?_
  · intro us w1 hle hP K' hK
    simp only [predsV, vsel, VC, VS, VT, List.getD_eq_getElem?_getD, List.getElem?_cons_zero, List.getElem?_cons_succ, Option.getD_some, and_true, true_and, and_self] at hP
    simp only [putAll, List.map_cons, List.map_nil, Act.put, List.setIfInBounds_toArray, List.set_cons_succ, List.set_cons_zero, Nat.zero_add, Nat.reduceAdd] at hK ⊢
    simp only [vsel, VC, VS, VT, List.getD_eq_getElem?_getD, List.getElem?_cons_zero, List.getElem?_cons_succ, Option.getD_some] at hK
    try simp only [hP] at hK ⊢
    go_wp2
    exact hK _ _ rfl (Below.refl _ _)
  refine ops_cons ?_ ?_
  · intro us w1 hle hP K' hK
    simp only [predsV, vsel, VC, VS, VT, List.getD_eq_getElem?_getD, List.getElem?_cons_zero, List.getElem?_cons_succ, Option.getD_some, and_true, true_and, and_self] at hP
    simp only [putAll, List.map_cons, List.map_nil, Act.put, List.setIfInBounds_toArray, List.set_cons_succ, List.set_cons_zero, Nat.zero_add, Nat.reduceAdd] at hK ⊢
    simp only [vsel, VC, VS, VT, List.getD_eq_getElem?_getD, List.getElem?_cons_zero, List.getElem?_cons_succ, Option.getD_some] at hK
    try simp only [hP] at hK ⊢
    go_wp2
    exact hK _ _ rfl (Below.refl _ _)
  refine ops_cons ?_ ?_
  · intro us w1 hle hP K' hK
    simp only [predsV, vsel, VC, VS, VT, List.getD_eq_getElem?_getD, List.getElem?_cons_zero, List.getElem?_cons_succ, Option.getD_some, and_true, true_and, and_self] at hP
    simp only [putAll, List.map_cons, List.map_nil, Act.put, List.setIfInBounds_toArray, List.set_cons_succ, List.set_cons_zero, Nat.zero_add, Nat.reduceAdd] at hK ⊢
    simp only [vsel, VC, VS, VT, List.getD_eq_getElem?_getD, List.getElem?_cons_zero, List.getElem?_cons_succ, Option.getD_some] at hK
    try simp only [hP] at hK ⊢
    go_wp2
    exact hK _ _ rfl (Below.refl _ _)
  refine ops_cons ?_ ?_
  · intro us w1 hle hP K' hK
    simp only [predsV, vsel, VC, VS, VT, List.getD_eq_getElem?_getD, List.getElem?_cons_zero, List.getElem?_cons_succ, Option.getD_some, and_true, true_and, and_self] at hP
    simp only [putAll, List.map_cons, List.map_nil, Act.put, List.setIfInBounds_toArray, List.set_cons_succ, List.set_cons_zero, Nat.zero_add, Nat.reduceAdd] at hK ⊢
    simp only [vsel, VC, VS, VT, List.getD_eq_getElem?_getD, List.getElem?_cons_zero, List.getElem?_cons_succ, Option.getD_some] at hK
    try simp only [hP] at hK ⊢
    go_wp2
    exact hK _ _ rfl (Below.refl _ _)
  refine ops_cons ?_ ?_
  · intro us w1 hle hP K' hK
    simp only [predsV, vsel, VC, VS, VT, List.getD_eq_getElem?_getD, List.getElem?_cons_zero, List.getElem?_cons_succ, Option.getD_some, and_true, true_and, and_self] at hP
    simp only [putAll, List.map_cons, List.map_nil, Act.put, List.setIfInBounds_toArray, List.set_cons_succ, List.set_cons_zero, Nat.zero_add, Nat.reduceAdd] at hK ⊢
    simp only [vsel, VC, VS, VT, List.getD_eq_getElem?_getD, List.getElem?_cons_zero, List.getElem?_cons_succ, Option.getD_some] at hK
    try simp only [hP] at hK ⊢
    go_wp2
    exact hK _ _ rfl (Below.refl _ _)
  refine ops_cons ?_ ?_
  · intro us w1 hle hP K' hK
    simp only [predsV, vsel, VC, VS, VT, List.getD_eq_getElem?_getD, List.getElem?_cons_zero, List.getElem?_cons_succ, Option.getD_some, and_true, true_and, and_self] at hP
    simp only [putAll, List.map_cons, List.map_nil, Act.put, List.setIfInBounds_toArray, List.set_cons_succ, List.set_cons_zero, Nat.zero_add, Nat.reduceAdd] at hK ⊢
    simp only [vsel, VC, VS, VT, List.getD_eq_getElem?_getD, List.getElem?_cons_zero, List.getElem?_cons_succ, Option.getD_some] at hK
    try simp only [hP] at hK ⊢
    go_wp2
    exact hK _ _ rfl (Below.refl _ _)
  refine ops_cons ?_ ?_
  · intro us w1 hle hP K' hK
    simp only [predsV, vsel, VC, VS, VT, List.getD_eq_getElem?_getD, List.getElem?_cons_zero, List.getElem?_cons_succ, Option.getD_some, and_true, true_and, and_self] at hP
    simp only [putAll, List.map_cons, List.map_nil, Act.put, List.setIfInBounds_toArray, List.set_cons_succ, List.set_cons_zero, Nat.zero_add, Nat.reduceAdd] at hK ⊢
    simp only [vsel, VC, VS, VT, List.getD_eq_getElem?_getD, List.getElem?_cons_zero, List.getElem?_cons_succ, Option.getD_some] at hK
    try simp only [hP] at hK ⊢
    go_wp2
    exact hK _ _ rfl (Below.refl _ _)
  refine ops_cons ?_ ?_
  · intro us w1 hle hP K' hK
    simp only [predsV, vsel, VC, VS, VT, List.getD_eq_getElem?_getD, List.getElem?_cons_zero, List.getElem?_cons_succ, Option.getD_some, and_true, true_and, and_self] at hP
    simp only [putAll, List.map_cons, List.map_nil, Act.put, List.setIfInBounds_toArray, List.set_cons_succ, List.set_cons_zero, Nat.zero_add, Nat.reduceAdd] at hK ⊢
    simp only [vsel, VC, VS, VT, List.getD_eq_getElem?_getD, List.getElem?_cons_zero, List.getElem?_cons_succ, Option.getD_some] at hK
    try simp only [hP] at hK ⊢
    go_wp2
    exact hK _ _ rfl (Below.refl _ _)
  refine ops_cons ?_ ?_
  · intro us w1 hle hP K' hK
    simp only [predsV, vsel, VC, VS, VT, List.getD_eq_getElem?_getD, List.getElem?_cons_zero, List.getElem?_cons_succ, Option.getD_some, and_true, true_and, and_self] at hP
    simp only [putAll, List.map_cons, List.map_nil, Act.put, List.setIfInBounds_toArray, List.set_cons_succ, List.set_cons_zero, Nat.zero_add, Nat.reduceAdd] at hK ⊢
    simp only [vsel, VC, VS, VT, List.getD_eq_getElem?_getD, List.getElem?_cons_zero, List.getElem?_cons_succ, Option.getD_some] at hK
    try simp only [hP] at hK ⊢
    go_wp2
    exact hK _ _ rfl (Below.refl _ _)
  refine ops_cons ?_ ?_
  · intro us w1 hle hP K' hK
    simp only [predsV, vsel, VC, VS, VT, List.getD_eq_getElem?_getD, List.getElem?_cons_zero, List.getElem?_cons_succ, Option.getD_some, and_true, true_and, and_self] at hP
    simp only [putAll, List.map_cons, List.map_nil, Act.put, List.setIfInBounds_toArray, List.set_cons_succ, List.set_cons_zero, Nat.zero_add, Nat.reduceAdd] at hK ⊢
    simp only [vsel, VC, VS, VT, List.getD_eq_getElem?_getD, List.getElem?_cons_zero, List.getElem?_cons_succ, Option.getD_some] at hK
    try simp only [hP] at hK ⊢
    go_wp2
    exact hK _ _ rfl (Below.refl _ _)
  refine ops_cons ?_ ?_
  · intro us w1 hle hP K' hK
    simp only [predsV, vsel, VC, VS, VT, List.getD_eq_getElem?_getD, List.getElem?_cons_zero, List.getElem?_cons_succ, Option.getD_some, and_true, true_and, and_self] at hP
    simp only [putAll, List.map_cons, List.map_nil, Act.put, List.setIfInBounds_toArray, List.set_cons_succ, List.set_cons_zero, Nat.zero_add, Nat.reduceAdd] at hK ⊢
    simp only [vsel, VC, VS, VT, List.getD_eq_getElem?_getD, List.getElem?_cons_zero, List.getElem?_cons_succ, Option.getD_some] at hK
    try simp only [hP] at hK ⊢
    obtain ⟨q0, q1, q2, q3, q4, q5, q6, q7⟩ := cells8 ((hle.block _ hlt).trans HA)
    clear hle
    go_wp2
    exact hK _ _ rfl (Below.refl _ _)
  refine ops_cons ?_ ?_
  · intro us w1 hle hP K' hK
    simp only [predsV, vsel, VC, VS, VT, List.getD_eq_getElem?_getD, List.getElem?_cons_zero, List.getElem?_cons_succ, Option.getD_some, and_true, true_and, and_self] at hP
    simp only [putAll, List.map_cons, List.map_nil, Act.put, List.setIfInBounds_toArray, List.set_cons_succ, List.set_cons_zero, Nat.zero_add, Nat.reduceAdd] at hK ⊢
    simp only [vsel, VC, VS, VT, List.getD_eq_getElem?_getD, List.getElem?_cons_zero, List.getElem?_cons_succ, Option.getD_some] at hK
    try simp only [hP] at hK ⊢
    go_wp2_with fail
    with_reducible refine (example_ok _).mono ?_
    rintro e w5 ⟨rfl, hB5⟩
    go_wp2
    exact hK _ _ rfl hB5
  refine ops_cons ?_ ?_
  · intro us w1 hle hP K' hK
    simp only [predsV, vsel, VC, VS, VT, List.getD_eq_getElem?_getD, List.getElem?_cons_zero, List.getElem?_cons_succ, Option.getD_some, and_true, true_and, and_self] at hP
    simp only [putAll, List.map_cons, List.map_nil, Act.put, List.setIfInBounds_toArray, List.set_cons_succ, List.set_cons_zero, Nat.zero_add, Nat.reduceAdd] at hK ⊢
    simp only [vsel, VC, VS, VT, List.getD_eq_getElem?_getD, List.getElem?_cons_zero, List.getElem?_cons_succ, Option.getD_some] at hK
    try simp only [hP] at hK ⊢
    go_wp2
    exact hK _ _ rfl (Below.refl _ _)
  refine ops_cons ?_ ?_
  · intro us w1 hle hP K' hK
    simp only [predsV, vsel, VC, VS, VT, List.getD_eq_getElem?_getD, List.getElem?_cons_zero, List.getElem?_cons_succ, Option.getD_some, and_true, true_and, and_self] at hP
    simp only [putAll, List.map_cons, List.map_nil, Act.put, List.setIfInBounds_toArray, List.set_cons_succ, List.set_cons_zero, Nat.zero_add, Nat.reduceAdd] at hK ⊢
    simp only [vsel, VC, VS, VT, List.getD_eq_getElem?_getD, List.getElem?_cons_zero, List.getElem?_cons_succ, Option.getD_some] at hK
    try simp only [hP] at hK ⊢
    go_wp2
    exact hK _ _ rfl (Below.refl _ _)
  refine ops_cons ?_ ?_
  · intro us w1 hle hP K' hK
    simp only [predsV, vsel, VC, VS, VT, List.getD_eq_getElem?_getD, List.getElem?_cons_zero, List.getElem?_cons_succ, Option.getD_some, and_true, true_and, and_self] at hP
    simp only [putAll, List.map_cons, List.map_nil, Act.put, List.setIfInBounds_toArray, List.set_cons_succ, List.set_cons_zero, Nat.zero_add, Nat.reduceAdd] at hK ⊢
    simp only [vsel, VC, VS, VT, List.getD_eq_getElem?_getD, List.getElem?_cons_zero, List.getElem?_cons_succ, Option.getD_some] at hK
    try simp only [hP] at hK ⊢
    go_wp2
    exact hK _ _ rfl (Below.refl _ _)
  refine ops_cons ?_ ?_
  · intro us w1 hle hP K' hK
    simp only [predsV, vsel, VC, VS, VT, List.getD_eq_getElem?_getD, List.getElem?_cons_zero, List.getElem?_cons_succ, Option.getD_some, and_true, true_and, and_self] at hP
    simp only [putAll, List.map_cons, List.map_nil, Act.put, List.setIfInBounds_toArray, List.set_cons_succ, List.set_cons_zero, Nat.zero_add, Nat.reduceAdd] at hK ⊢
    simp only [vsel, VC, VS, VT, List.getD_eq_getElem?_getD, List.getElem?_cons_zero, List.getElem?_cons_succ, Option.getD_some] at hK
    try simp only [hP] at hK ⊢
    go_wp2_with fail
    with_reducible refine (exSize _).mono ?_
    rintro e w5 ⟨rfl, rfl⟩
    go_wp2
    exact hK _ _ rfl (Below.refl _ _)
  refine ops_cons ?_ ?_
  · intro us w1 hle hP K' hK
    simp only [predsV, vsel, VC, VS, VT, List.getD_eq_getElem?_getD, List.getElem?_cons_zero, List.getElem?_cons_succ, Option.getD_some, and_true, true_and, and_self] at hP
    simp only [putAll, List.map_cons, List.map_nil, Act.put, List.setIfInBounds_toArray, List.set_cons_succ, List.set_cons_zero, Nat.zero_add, Nat.reduceAdd] at hK ⊢
    simp only [vsel, VC, VS, VT, List.getD_eq_getElem?_getD, List.getElem?_cons_zero, List.getElem?_cons_succ, Option.getD_some] at hK
    try simp only [hP] at hK ⊢
    go_wp2
    exact hK _ _ rfl (Below.refl _ _)
  refine ops_cons ?_ ?_
  · intro us w1 hle hP K' hK
    simp only [predsV, vsel, VC, VS, VT, List.getD_eq_getElem?_getD, List.getElem?_cons_zero, List.getElem?_cons_succ, Option.getD_some, and_true, true_and, and_self] at hP
    simp only [putAll, List.map_cons, List.map_nil, Act.put, List.setIfInBounds_toArray, List.set_cons_succ, List.set_cons_zero, Nat.zero_add, Nat.reduceAdd] at hK ⊢
    simp only [vsel, VC, VS, VT, List.getD_eq_getElem?_getD, List.getElem?_cons_zero, List.getElem?_cons_succ, Option.getD_some] at hK
    try simp only [hP] at hK ⊢
    go_wp2
    exact hK _ _ rfl (Below.refl _ _)
  refine ops_cons ?_ ?_
  · intro us w1 hle hP K' hK
    simp only [predsV, vsel, VC, VS, VT, List.getD_eq_getElem?_getD, List.getElem?_cons_zero, List.getElem?_cons_succ, Option.getD_some, and_true, true_and, and_self] at hP
    simp only [putAll, List.map_cons, List.map_nil, Act.put, List.setIfInBounds_toArray, List.set_cons_succ, List.set_cons_zero, Nat.zero_add, Nat.reduceAdd] at hK ⊢
    simp only [vsel, VC, VS, VT, List.getD_eq_getElem?_getD, List.getElem?_cons_zero, List.getElem?_cons_succ, Option.getD_some] at hK
    try simp only [hP] at hK ⊢
    go_wp2
    exact hK _ _ rfl (Below.refl _ _)
  refine ops_cons ?_ ?_
  · intro us w1 hle hP K' hK
    simp only [predsV, vsel, VC, VS, VT, List.getD_eq_getElem?_getD, List.getElem?_cons_zero, List.getElem?_cons_succ, Option.getD_some, and_true, true_and, and_self] at hP
    simp only [putAll, List.map_cons, List.map_nil, Act.put, List.setIfInBounds_toArray, List.set_cons_succ, List.set_cons_zero, Nat.zero_add, Nat.reduceAdd] at hK ⊢
    simp only [vsel, VC, VS, VT, List.getD_eq_getElem?_getD, List.getElem?_cons_zero, List.getElem?_cons_succ, Option.getD_some] at hK
    try simp only [hP] at hK ⊢
    go_wp2
    exact hK _ _ rfl (Below.refl _ _)
  refine ops_cons ?_ ?_
  · intro us w1 hle hP K' hK
    simp only [predsV, vsel, VC, VS, VT, List.getD_eq_getElem?_getD, List.getElem?_cons_zero, List.getElem?_cons_succ, Option.getD_some, and_true, true_and, and_self] at hP
    simp only [putAll, List.map_cons, List.map_nil, Act.put, List.setIfInBounds_toArray, List.set_cons_succ, List.set_cons_zero, Nat.zero_add, Nat.reduceAdd] at hK ⊢
    simp only [vsel, VC, VS, VT, List.getD_eq_getElem?_getD, List.getElem?_cons_zero, List.getElem?_cons_succ, Option.getD_some] at hK
    try simp only [hP] at hK ⊢
    go_wp2
    exact hK _ _ rfl (Below.refl _ _)
  refine ops_cons ?_ ?_
  · intro us w1 hle hP K' hK
    simp only [predsV, vsel, VC, VS, VT, List.getD_eq_getElem?_getD, List.getElem?_cons_zero, List.getElem?_cons_succ, Option.getD_some, and_true, true_and, and_self] at hP
    simp only [putAll, List.map_cons, List.map_nil, Act.put, List.setIfInBounds_toArray, List.set_cons_succ, List.set_cons_zero, Nat.zero_add, Nat.reduceAdd] at hK ⊢
    simp only [vsel, VC, VS, VT, List.getD_eq_getElem?_getD, List.getElem?_cons_zero, List.getElem?_cons_succ, Option.getD_some] at hK
    try simp only [hP] at hK ⊢
    go_wp2_with fail
    with_reducible refine (d3 _).mono ?_
    rintro e w5 ⟨v, rfl, hI⟩
    go_wp2
    exact hK _ _ (own_base hI.1 (Nat.zero_le _)) hI.2
  refine ops_cons ?_ ?_
  · intro us w1 hle hP K' hK
    simp only [predsV, vsel, VC, VS, VT, List.getD_eq_getElem?_getD, List.getElem?_cons_zero, List.getElem?_cons_succ, Option.getD_some, and_true, true_and, and_self] at hP
    simp only [putAll, List.map_cons, List.map_nil, Act.put, List.setIfInBounds_toArray, List.set_cons_succ, List.set_cons_zero, Nat.zero_add, Nat.reduceAdd] at hK ⊢
    simp only [vsel, VC, VS, VT, List.getD_eq_getElem?_getD, List.getElem?_cons_zero, List.getElem?_cons_succ, Option.getD_some] at hK
    try simp only [hP] at hK ⊢
    go_wp2
    exact hK _ _ ⟨_, rfl, World.alloc_heap_new _ _⟩ ((Below.refl _ _).alloc (Nat.le_refl _) _)
  refine ops_cons ?_ ?_
  · intro us w1 hle hP K' hK
    simp only [predsV, vsel, VC, VS, VT, List.getD_eq_getElem?_getD, List.getElem?_cons_zero, List.getElem?_cons_succ, Option.getD_some, and_true, true_and, and_self] at hP
    simp only [putAll, List.map_cons, List.map_nil, Act.put, List.setIfInBounds_toArray, List.set_cons_succ, List.set_cons_zero, Nat.zero_add, Nat.reduceAdd] at hK ⊢
    simp only [vsel, VC, VS, VT, List.getD_eq_getElem?_getD, List.getElem?_cons_zero, List.getElem?_cons_succ, Option.getD_some] at hK
    try simp only [hP] at hK ⊢
    obtain ⟨hJ, ⟨g, hg1, hg2⟩, hr⟩ := hP
    have hI : w1.ownsRow 0 3 1 (us 26) [2].length (ints [2]) := hJ
    rw [hg1] at hK ⊢
    clear hg1
    go_wp2_with fail
    with_reducible refine (equal_own (l := [2]) (m := [2]) hI (own_row (n := 1) [2] rfl rfl (by decide) hg2) (by decide) (by decide)).mono ?_
    rintro e w6 ⟨rfl, hB6⟩
    go_wp2
    exact hK _ _ rfl hB6
  refine ops_cons ?_ ?_
  · intro us w1 hle hP K' hK
    simp only [predsV, vsel, VC, VS, VT, List.getD_eq_getElem?_getD, List.getElem?_cons_zero, List.getElem?_cons_succ, Option.getD_some, and_true, true_and, and_self] at hP
    simp only [putAll, List.map_cons, List.map_nil, Act.put, List.setIfInBounds_toArray, List.set_cons_succ, List.set_cons_zero, Nat.zero_add, Nat.reduceAdd] at hK ⊢
    simp only [vsel, VC, VS, VT, List.getD_eq_getElem?_getD, List.getElem?_cons_zero, List.getElem?_cons_succ, Option.getD_some] at hK
    try simp only [hP] at hK ⊢
    go_wp2
    exact hK _ _ rfl (Below.refl _ _)
  refine ops_cons ?_ ?_
  · intro us w1 hle hP K' hK
    simp only [predsV, vsel, VC, VS, VT, List.getD_eq_getElem?_getD, List.getElem?_cons_zero, List.getElem?_cons_succ, Option.getD_some, and_true, true_and, and_self] at hP
    simp only [putAll, List.map_cons, List.map_nil, Act.put, List.setIfInBounds_toArray, List.set_cons_succ, List.set_cons_zero, Nat.zero_add, Nat.reduceAdd] at hK ⊢
    simp only [vsel, VC, VS, VT, List.getD_eq_getElem?_getD, List.getElem?_cons_zero, List.getElem?_cons_succ, Option.getD_some] at hK
    try simp only [hP] at hK ⊢
    go_wp2
    exact hK _ _ rfl (Below.refl _ _)
  · exact ops_nil _ _
  · intro us w5 hle hV
    have h30 := hV 30 (by decide)
    simp only [vsel, VC, List.getD_eq_getElem?_getD, List.getElem?_cons_zero, List.getElem?_cons_succ, Option.getD_some] at h30
    have HBL : Hid (Below w.heap.size w w5) := Lib.hid (bthen HB.out (drew_left hle))
    clear hV hle
    simp only [putAll, List.map_cons, List.map_nil, Act.put, List.setIfInBounds_toArray, List.set_cons_succ, List.set_cons_zero, Nat.zero_add, Nat.reduceAdd, Exit.then]
    rw [h30]
    go_wp2
    go_ret
    exact ⟨rfl, HBL.out⟩
end Go.Proofs.Ytnmlephjhcmbhaa
