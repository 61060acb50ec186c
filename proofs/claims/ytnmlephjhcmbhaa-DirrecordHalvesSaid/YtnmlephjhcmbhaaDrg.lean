/- The reference of package dirrecord: Encode. -/
import Derived.Test.YtnmlephjhcmbhaaDrc
import Derived.Test.YtnmlephjhcmbhaaRgv
import Derived.Test.YtnmlephjhcmbhaaRfb
namespace Go.Proofs.Ytnmlephjhcmbhaa
set_option linter.unusedSimpArgs false
set_option linter.unusedVariables false
open Go Go.RowKit
set_option maxRecDepth 100000 in
set_option maxHeartbeats 4000000 in
theorem renc_good (r : Rec) (n : Nat) (d x1 x2 x3 : ByteArray) (w : World) (hi : ((r.id.size : Int) == 0) = false) (hu : ((r.use.size : Int) % 2 == 1) = false) (hn : ((n : Int) == 0) = false) (hd : d.size ≤ 7) (hid : r.id.size ≤ 254) (hus : r.use.size ≤ 254)
    (c1 : ∀ W : World, Calls Try.prog 22 #[cN r.id.size, cN r.use.size] W fun e w' => e = .returned (cN n) ∧ W = w')
    (c2 : ∀ W : World, Calls Try.prog 56 #[cN r.time, cN r.zone] W fun e w' => e = .returned (.tuple #[.string d, cN 0]) ∧ Below W.heap.size W w')
    (f1 : ∀ W : World, Calls Try.prog 57 #[cN r.lba, cN 4294967295] W fun e w' => e = .returned (.bool true) ∧ W = w')
    (f2 : ∀ W : World, Calls Try.prog 57 #[cN r.len, cN 4294967295] W fun e w' => e = .returned (.bool true) ∧ W = w')
    (f3 : ∀ W : World, Calls Try.prog 57 #[cN r.flags, cN 255] W fun e w' => e = .returned (.bool true) ∧ W = w')
    (f4 : ∀ W : World, Calls Try.prog 57 #[cN r.seq, cN 65535] W fun e w' => e = .returned (.bool true) ∧ W = w')
    (b1 : ∀ W : World, Calls Try.prog 58 #[cN r.lba, cN 4] W fun e w' => e = .returned (.string x1) ∧ Below W.heap.size W w')
    (b2 : ∀ W : World, Calls Try.prog 58 #[cN r.len, cN 4] W fun e w' => e = .returned (.string x2) ∧ Below W.heap.size W w')
    (b3 : ∀ W : World, Calls Try.prog 58 #[cN r.seq, cN 2] W fun e w' => e = .returned (.string x3) ∧ Below W.heap.size W w') 
    (z1 : x1.size ≤ 8) (z2 : x2.size ≤ 8) (z3 : x3.size ≤ 8) (o1 : outs [(r.lba, 4), (r.len, 4)] = x1.data.toList ++ x2.data.toList) (o2 : outs [(r.seq, 2)] = x3.data.toList) :
    Calls Try.prog 20 #[.agg (recA r)] w fun e w' => e = .returned (.tuple #[.string ⟨(encL r n d).toArray⟩, cN 0]) ∧ Below w.heap.size w w' := by
  have HO := Lib.hid (And.intro o1 o2)
  clear o1 o2
  have hp : (((r.id.size : Int) % 2 == 0) = true ∧ padB r.id.size = [0]) ∨ (((r.id.size : Int) % 2 == 0) = false ∧ padB r.id.size = []) := by
    rw [padB]
    rcases (by omega : r.id.size % 2 = 0 ∨ r.id.size % 2 = 1) with h | h
    · left; rw [if_pos h]; refine ⟨?_, rfl⟩; rw [beq_iff_eq]; omega
    · right; rw [if_neg (by omega)]; refine ⟨?_, rfl⟩; rw [beq_eq_false_iff_ne]; omega
  obtain ⟨R, hR⟩ : ∃ R, (⟨(encL r n d).toArray⟩ : ByteArray) = R := ⟨_, rfl⟩
  rw [hR]
  have HR := Lib.hid hR
  have HPP := Lib.hid hp
  clear hR hp
  have hb := bN_wrap n
  have hf := bN_wrap r.flags
  have hl := bN_wrap r.id.size
  go_enter Try.func20, Try.ntmps20
  have H0 : (w.alloc (.cells (recA r) 23)).heap[w.heap.size]? = some (.cells (recA r) 23 (0, 0)) := World.alloc_heap_new _ _
  go_wp2_with (first | (go_at_call 22; (with_reducible refine (c1 _).mono ?_); rintro e w1 ⟨rfl, rfl⟩) | (go_at_call 56; (with_reducible refine (c2 _).mono ?_); rintro e w1 ⟨rfl, hB⟩; have H1 := (hB.block w.heap.size (by simp)).trans H0; have k0 := Lib.cell_of_heap H1 0; have k1 := Lib.cell_of_heap H1 1; have k2 := Lib.cell_of_heap H1 2; have k5 := Lib.cell_of_heap H1 5; have k6 := Lib.cell_of_heap H1 6; have k7 := Lib.cell_of_heap H1 7; have HH1 := Lib.hid H1; have HB := Lib.hid hB; clear H1 hB) | (go_at_call 57; (with_reducible refine (f1 _).mono ?_); rintro e w1 ⟨rfl, rfl⟩) | (go_at_call 57; (with_reducible refine (f2 _).mono ?_); rintro e w1 ⟨rfl, rfl⟩) | (go_at_call 57; (with_reducible refine (f3 _).mono ?_); rintro e w1 ⟨rfl, rfl⟩) | (go_at_call 57; (with_reducible refine (f4 _).mono ?_); rintro e w1 ⟨rfl, rfl⟩))
  clear f1 f2 f3 f4 c1 c2 k0 k1 k2 k5 k6 k7 H0
  have hlt : w.heap.size < w1.heap.size := lt_of_block HH1.out
  apply region_below (VC _ :: VC _ :: VS #[.int .u8 ((bN n).toNat : Int), .int .u8 0] 5 2 :: VC _ :: VC _ :: VC _ :: VC _ :: VC _ :: VC _ :: VC _ :: VC _ :: VC _ :: VC _ :: VC _ :: VC _ :: VC _ :: VC _ :: VS #[.int .u8 ((bN r.flags).toNat : Int), .int .u8 0, .int .u8 0] 5 3 :: VC _ :: VC _ :: VC _ :: VC _ :: VC _ :: VC _ :: VC _ :: VC _ :: VC _ :: VC _ :: VS #[.int .u8 ((bN r.id.size).toNat : Int)] 5 1 :: VC _ :: VC _ :: VC _ :: VC _ :: VC _ :: VC _ :: []) (by kernel_rfl) (by kernel_rfl) (by rintro ⟨_, _, h, _⟩; cases h)
  · repeat (first | exact trivial | (refine KeepsL_cons ?_ ?_; (first | apply VC_keeps | apply VS_keeps | apply VT_keeps)))
  refine ops_cons ?_ ?_
  · intro us w1 hle hP K' hK
    simp only [predsV, vsel, VC, VS, VT, List.getD_eq_getElem?_getD, List.getElem?_cons_zero, List.getElem?_cons_succ, Option.getD_some, and_true, true_and, and_self] at hP
    simp only [putAll, List.map_cons, List.map_nil, Act.put, List.setIfInBounds_toArray, List.set_cons_succ, List.set_cons_zero, Nat.zero_add, Nat.reduceAdd] at hK ⊢
    simp only [vsel, VC, VS, VT, List.getD_eq_getElem?_getD, List.getElem?_cons_zero, List.getElem?_cons_succ, Option.getD_some] at hK
    try simp only [hP] at hK ⊢
    go_wp2
    exact hK _ _ rfl (Below.refl _ _)
  refine ops_cons ?_ ?_
  · intro us w1 hle hP K' hK
    simp only [predsV, vsel, VC, VS, VT, List.getD_eq_getElem?_getD, List.getElem?_cons_zero, List.getElem?_cons_succ, Option.getD_some, and_true, true_and, and_self] at hP
    simp only [putAll, List.map_cons, List.map_nil, Act.put, List.setIfInBounds_toArray, List.set_cons_succ, List.set_cons_zero, Nat.zero_add, Nat.reduceAdd] at hK ⊢
    simp only [vsel, VC, VS, VT, List.getD_eq_getElem?_getD, List.getElem?_cons_zero, List.getElem?_cons_succ, Option.getD_some] at hK
    try simp only [hP] at hK ⊢
    go_wp2
    exact hK _ _ rfl (Below.refl _ _)
  refine ops_cons ?_ ?_
  · intro us w1 hle hP K' hK
    simp only [predsV, vsel, VC, VS, VT, List.getD_eq_getElem?_getD, List.getElem?_cons_zero, List.getElem?_cons_succ, Option.getD_some, and_true, true_and, and_self] at hP
    simp only [putAll, List.map_cons, List.map_nil, Act.put, List.setIfInBounds_toArray, List.set_cons_succ, List.set_cons_zero, Nat.zero_add, Nat.reduceAdd] at hK ⊢
    simp only [vsel, VC, VS, VT, List.getD_eq_getElem?_getD, List.getElem?_cons_zero, List.getElem?_cons_succ, Option.getD_some] at hK
    try simp only [hP] at hK ⊢
    go_wp2
    exact hK _ _ ⟨_, rfl, World.alloc_heap_new _ _⟩ ((Below.refl _ _).alloc (Nat.le_refl _) _)
  refine ops_cons ?_ ?_
  · intro us w1 hle hP K' hK
    simp only [predsV, vsel, VC, VS, VT, List.getD_eq_getElem?_getD, List.getElem?_cons_zero, List.getElem?_cons_succ, Option.getD_some, and_true, true_and, and_self] at hP
    simp only [putAll, List.map_cons, List.map_nil, Act.put, List.setIfInBounds_toArray, List.set_cons_succ, List.set_cons_zero, Nat.zero_add, Nat.reduceAdd] at hK ⊢
    simp only [vsel, VC, VS, VT, List.getD_eq_getElem?_getD, List.getElem?_cons_zero, List.getElem?_cons_succ, Option.getD_some] at hK
    try simp only [hP] at hK ⊢
    obtain ⟨g, hg1, hg2⟩ := hP
    rw [hg1] at hK ⊢
    have hcv := row_string (P := Try.prog) (src := 37) (dst := 9) (n := 2) (cap := 2) (bs := [bN n, 0]) Try.underlying37 Try.underlying5 Try.underlying9 rfl hg2
    clear hg1 hg2
    go_wp2
    exact hK _ _ rfl (Below.refl _ _)
  refine ops_cons ?_ ?_
  · intro us w1 hle hP K' hK
    simp only [predsV, vsel, VC, VS, VT, List.getD_eq_getElem?_getD, List.getElem?_cons_zero, List.getElem?_cons_succ, Option.getD_some, and_true, true_and, and_self] at hP
    simp only [putAll, List.map_cons, List.map_nil, Act.put, List.setIfInBounds_toArray, List.set_cons_succ, List.set_cons_zero, Nat.zero_add, Nat.reduceAdd] at hK ⊢
    simp only [vsel, VC, VS, VT, List.getD_eq_getElem?_getD, List.getElem?_cons_zero, List.getElem?_cons_succ, Option.getD_some] at hK
    try simp only [hP] at hK ⊢
    have k1 := (Lib.cell_of_heap ((hle.block _ hlt).trans HH1.out) 1)
    clear hle
    go_wp2
    exact hK _ _ rfl (Below.refl _ _)
  refine ops_cons ?_ ?_
  · intro us w1 hle hP K' hK
    simp only [predsV, vsel, VC, VS, VT, List.getD_eq_getElem?_getD, List.getElem?_cons_zero, List.getElem?_cons_succ, Option.getD_some, and_true, true_and, and_self] at hP
    simp only [putAll, List.map_cons, List.map_nil, Act.put, List.setIfInBounds_toArray, List.set_cons_succ, List.set_cons_zero, Nat.zero_add, Nat.reduceAdd] at hK ⊢
    simp only [vsel, VC, VS, VT, List.getD_eq_getElem?_getD, List.getElem?_cons_zero, List.getElem?_cons_succ, Option.getD_some] at hK
    try simp only [hP] at hK ⊢
    have k1 := (Lib.cell_of_heap ((hle.block _ hlt).trans HH1.out) 1)
    go_wp2
    exact hK _ _ rfl (Below.refl _ _)
  refine ops_cons ?_ ?_
  · intro us w1 hle hP K' hK
    simp only [predsV, vsel, VC, VS, VT, List.getD_eq_getElem?_getD, List.getElem?_cons_zero, List.getElem?_cons_succ, Option.getD_some, and_true, true_and, and_self] at hP
    simp only [putAll, List.map_cons, List.map_nil, Act.put, List.setIfInBounds_toArray, List.set_cons_succ, List.set_cons_zero, Nat.zero_add, Nat.reduceAdd] at hK ⊢
    simp only [vsel, VC, VS, VT, List.getD_eq_getElem?_getD, List.getElem?_cons_zero, List.getElem?_cons_succ, Option.getD_some] at hK
    try simp only [hP] at hK ⊢
    go_wp2_with fail
    with_reducible refine (b1 _).mono ?_
    rintro e w5 ⟨rfl, hB5⟩
    go_wp2
    exact hK _ _ rfl hB5
  refine ops_cons ?_ ?_
  · intro us w1 hle hP K' hK
    simp only [predsV, vsel, VC, VS, VT, List.getD_eq_getElem?_getD, List.getElem?_cons_zero, List.getElem?_cons_succ, Option.getD_some, and_true, true_and, and_self] at hP
    simp only [putAll, List.map_cons, List.map_nil, Act.put, List.setIfInBounds_toArray, List.set_cons_succ, List.set_cons_zero, Nat.zero_add, Nat.reduceAdd] at hK ⊢
    simp only [vsel, VC, VS, VT, List.getD_eq_getElem?_getD, List.getElem?_cons_zero, List.getElem?_cons_succ, Option.getD_some] at hK
    try simp only [hP] at hK ⊢
    go_wp2
    exact hK _ _ rfl (Below.refl _ _)
  refine ops_cons ?_ ?_
  · intro us w1 hle hP K' hK
    simp only [predsV, vsel, VC, VS, VT, List.getD_eq_getElem?_getD, List.getElem?_cons_zero, List.getElem?_cons_succ, Option.getD_some, and_true, true_and, and_self] at hP
    simp only [putAll, List.map_cons, List.map_nil, Act.put, List.setIfInBounds_toArray, List.set_cons_succ, List.set_cons_zero, Nat.zero_add, Nat.reduceAdd] at hK ⊢
    simp only [vsel, VC, VS, VT, List.getD_eq_getElem?_getD, List.getElem?_cons_zero, List.getElem?_cons_succ, Option.getD_some] at hK
    try simp only [hP] at hK ⊢
    go_wp2
    exact hK _ _ rfl (Below.refl _ _)
  refine ops_cons ?_ ?_
  · intro us w1 hle hP K' hK
    simp only [predsV, vsel, VC, VS, VT, List.getD_eq_getElem?_getD, List.getElem?_cons_zero, List.getElem?_cons_succ, Option.getD_some, and_true, true_and, and_self] at hP
    simp only [putAll, List.map_cons, List.map_nil, Act.put, List.setIfInBounds_toArray, List.set_cons_succ, List.set_cons_zero, Nat.zero_add, Nat.reduceAdd] at hK ⊢
    simp only [vsel, VC, VS, VT, List.getD_eq_getElem?_getD, List.getElem?_cons_zero, List.getElem?_cons_succ, Option.getD_some] at hK
    try simp only [hP] at hK ⊢
    have k2 := (Lib.cell_of_heap ((hle.block _ hlt).trans HH1.out) 2)
    go_wp2
    exact hK _ _ rfl (Below.refl _ _)
  refine ops_cons ?_ ?_
  · intro us w1 hle hP K' hK
    simp only [predsV, vsel, VC, VS, VT, List.getD_eq_getElem?_getD, List.getElem?_cons_zero, List.getElem?_cons_succ, Option.getD_some, and_true, true_and, and_self] at hP
    simp only [putAll, List.map_cons, List.map_nil, Act.put, List.setIfInBounds_toArray, List.set_cons_succ, List.set_cons_zero, Nat.zero_add, Nat.reduceAdd] at hK ⊢
    simp only [vsel, VC, VS, VT, List.getD_eq_getElem?_getD, List.getElem?_cons_zero, List.getElem?_cons_succ, Option.getD_some] at hK
    try simp only [hP] at hK ⊢
    go_wp2_with fail
    with_reducible refine (b2 _).mono ?_
    rintro e w5 ⟨rfl, hB5⟩
    go_wp2
    exact hK _ _ rfl hB5
  refine ops_cons ?_ ?_
  · intro us w1 hle hP K' hK
    simp only [predsV, vsel, VC, VS, VT, List.getD_eq_getElem?_getD, List.getElem?_cons_zero, List.getElem?_cons_succ, Option.getD_some, and_true, true_and, and_self] at hP
    simp only [putAll, List.map_cons, List.map_nil, Act.put, List.setIfInBounds_toArray, List.set_cons_succ, List.set_cons_zero, Nat.zero_add, Nat.reduceAdd] at hK ⊢
    simp only [vsel, VC, VS, VT, List.getD_eq_getElem?_getD, List.getElem?_cons_zero, List.getElem?_cons_succ, Option.getD_some] at hK
    try simp only [hP] at hK ⊢
    go_wp2
    exact hK _ _ rfl (Below.refl _ _)
  refine ops_cons ?_ ?_
  · intro us w1 hle hP K' hK
    simp only [predsV, vsel, VC, VS, VT, List.getD_eq_getElem?_getD, List.getElem?_cons_zero, List.getElem?_cons_succ, Option.getD_some, and_true, true_and, and_self] at hP
    simp only [putAll, List.map_cons, List.map_nil, Act.put, List.setIfInBounds_toArray, List.set_cons_succ, List.set_cons_zero, Nat.zero_add, Nat.reduceAdd] at hK ⊢
    simp only [vsel, VC, VS, VT, List.getD_eq_getElem?_getD, List.getElem?_cons_zero, List.getElem?_cons_succ, Option.getD_some] at hK
    try simp only [hP] at hK ⊢
    go_wp2
    exact hK _ _ rfl (Below.refl _ _)
  refine ops_cons ?_ ?_
  · intro us w1 hle hP K' hK
    simp only [predsV, vsel, VC, VS, VT, List.getD_eq_getElem?_getD, List.getElem?_cons_zero, List.getElem?_cons_succ, Option.getD_some, and_true, true_and, and_self] at hP
    simp only [putAll, List.map_cons, List.map_nil, Act.put, List.setIfInBounds_toArray, List.set_cons_succ, List.set_cons_zero, Nat.zero_add, Nat.reduceAdd] at hK ⊢
    simp only [vsel, VC, VS, VT, List.getD_eq_getElem?_getD, List.getElem?_cons_zero, List.getElem?_cons_succ, Option.getD_some] at hK
    try simp only [hP] at hK ⊢
    go_wp2
    exact hK _ _ rfl (Below.refl _ _)
  refine ops_cons ?_ ?_
  · intro us w1 hle hP K' hK
    simp only [predsV, vsel, VC, VS, VT, List.getD_eq_getElem?_getD, List.getElem?_cons_zero, List.getElem?_cons_succ, Option.getD_some, and_true, true_and, and_self] at hP
    simp only [putAll, List.map_cons, List.map_nil, Act.put, List.setIfInBounds_toArray, List.set_cons_succ, List.set_cons_zero, Nat.zero_add, Nat.reduceAdd] at hK ⊢
    simp only [vsel, VC, VS, VT, List.getD_eq_getElem?_getD, List.getElem?_cons_zero, List.getElem?_cons_succ, Option.getD_some] at hK
    try simp only [hP] at hK ⊢
    go_wp2
    exact hK _ _ rfl (Below.refl _ _)
  refine ops_cons ?_ ?_
  · intro us w1 hle hP K' hK
    simp only [predsV, vsel, VC, VS, VT, List.getD_eq_getElem?_getD, List.getElem?_cons_zero, List.getElem?_cons_succ, Option.getD_some, and_true, true_and, and_self] at hP
    simp only [putAll, List.map_cons, List.map_nil, Act.put, List.setIfInBounds_toArray, List.set_cons_succ, List.set_cons_zero, Nat.zero_add, Nat.reduceAdd] at hK ⊢
    simp only [vsel, VC, VS, VT, List.getD_eq_getElem?_getD, List.getElem?_cons_zero, List.getElem?_cons_succ, Option.getD_some] at hK
    try simp only [hP] at hK ⊢
    have k5 := (Lib.cell_of_heap ((hle.block _ hlt).trans HH1.out) 5)
    go_wp2
    exact hK _ _ rfl (Below.refl _ _)
  refine ops_cons ?_ ?_
  · intro us w1 hle hP K' hK
    simp only [predsV, vsel, VC, VS, VT, List.getD_eq_getElem?_getD, List.getElem?_cons_zero, List.getElem?_cons_succ, Option.getD_some, and_true, true_and, and_self] at hP
    simp only [putAll, List.map_cons, List.map_nil, Act.put, List.setIfInBounds_toArray, List.set_cons_succ, List.set_cons_zero, Nat.zero_add, Nat.reduceAdd] at hK ⊢
    simp only [vsel, VC, VS, VT, List.getD_eq_getElem?_getD, List.getElem?_cons_zero, List.getElem?_cons_succ, Option.getD_some] at hK
    try simp only [hP] at hK ⊢
    go_wp2
    exact hK _ _ rfl (Below.refl _ _)
  refine ops_cons ?_ ?_
  · intro us w1 hle hP K' hK
    simp only [predsV, vsel, VC, VS, VT, List.getD_eq_getElem?_getD, List.getElem?_cons_zero, List.getElem?_cons_succ, Option.getD_some, and_true, true_and, and_self] at hP
    simp only [putAll, List.map_cons, List.map_nil, Act.put, List.setIfInBounds_toArray, List.set_cons_succ, List.set_cons_zero, Nat.zero_add, Nat.reduceAdd] at hK ⊢
    simp only [vsel, VC, VS, VT, List.getD_eq_getElem?_getD, List.getElem?_cons_zero, List.getElem?_cons_succ, Option.getD_some] at hK
    try simp only [hP] at hK ⊢
    go_wp2
    exact hK _ _ ⟨_, rfl, World.alloc_heap_new _ _⟩ ((Below.refl _ _).alloc (Nat.le_refl _) _)
  refine ops_cons ?_ ?_
  · intro us w1 hle hP K' hK
    simp only [predsV, vsel, VC, VS, VT, List.getD_eq_getElem?_getD, List.getElem?_cons_zero, List.getElem?_cons_succ, Option.getD_some, and_true, true_and, and_self] at hP
    simp only [putAll, List.map_cons, List.map_nil, Act.put, List.setIfInBounds_toArray, List.set_cons_succ, List.set_cons_zero, Nat.zero_add, Nat.reduceAdd] at hK ⊢
    simp only [vsel, VC, VS, VT, List.getD_eq_getElem?_getD, List.getElem?_cons_zero, List.getElem?_cons_succ, Option.getD_some] at hK
    try simp only [hP] at hK ⊢
    obtain ⟨g, hg1, hg2⟩ := hP
    rw [hg1] at hK ⊢
    have hcv := row_string (P := Try.prog) (src := 37) (dst := 9) (n := 3) (cap := 3) (bs := [bN r.flags, 0, 0]) Try.underlying37 Try.underlying5 Try.underlying9 rfl hg2
    clear hg1 hg2
    go_wp2
    exact hK _ _ rfl (Below.refl _ _)
  refine ops_cons ?_ ?_
  · intro us w1 hle hP K' hK
    simp only [predsV, vsel, VC, VS, VT, List.getD_eq_getElem?_getD, List.getElem?_cons_zero, List.getElem?_cons_succ, Option.getD_some, and_true, true_and, and_self] at hP
    simp only [putAll, List.map_cons, List.map_nil, Act.put, List.setIfInBounds_toArray, List.set_cons_succ, List.set_cons_zero, Nat.zero_add, Nat.reduceAdd] at hK ⊢
    simp only [vsel, VC, VS, VT, List.getD_eq_getElem?_getD, List.getElem?_cons_zero, List.getElem?_cons_succ, Option.getD_some] at hK
    try simp only [hP] at hK ⊢
    go_wp2
    exact hK _ _ rfl (Below.refl _ _)
  refine ops_cons ?_ ?_
  · intro us w1 hle hP K' hK
    simp only [predsV, vsel, VC, VS, VT, List.getD_eq_getElem?_getD, List.getElem?_cons_zero, List.getElem?_cons_succ, Option.getD_some, and_true, true_and, and_self] at hP
    simp only [putAll, List.map_cons, List.map_nil, Act.put, List.setIfInBounds_toArray, List.set_cons_succ, List.set_cons_zero, Nat.zero_add, Nat.reduceAdd] at hK ⊢
    simp only [vsel, VC, VS, VT, List.getD_eq_getElem?_getD, List.getElem?_cons_zero, List.getElem?_cons_succ, Option.getD_some] at hK
    try simp only [hP] at hK ⊢
    go_wp2
    exact hK _ _ rfl (Below.refl _ _)
  refine ops_cons ?_ ?_
  · intro us w1 hle hP K' hK
    simp only [predsV, vsel, VC, VS, VT, List.getD_eq_getElem?_getD, List.getElem?_cons_zero, List.getElem?_cons_succ, Option.getD_some, and_true, true_and, and_self] at hP
    simp only [putAll, List.map_cons, List.map_nil, Act.put, List.setIfInBounds_toArray, List.set_cons_succ, List.set_cons_zero, Nat.zero_add, Nat.reduceAdd] at hK ⊢
    simp only [vsel, VC, VS, VT, List.getD_eq_getElem?_getD, List.getElem?_cons_zero, List.getElem?_cons_succ, Option.getD_some] at hK
    try simp only [hP] at hK ⊢
    have k6 := (Lib.cell_of_heap ((hle.block _ hlt).trans HH1.out) 6)
    go_wp2
    exact hK _ _ rfl (Below.refl _ _)
  refine ops_cons ?_ ?_
  · intro us w1 hle hP K' hK
    simp only [predsV, vsel, VC, VS, VT, List.getD_eq_getElem?_getD, List.getElem?_cons_zero, List.getElem?_cons_succ, Option.getD_some, and_true, true_and, and_self] at hP
    simp only [putAll, List.map_cons, List.map_nil, Act.put, List.setIfInBounds_toArray, List.set_cons_succ, List.set_cons_zero, Nat.zero_add, Nat.reduceAdd] at hK ⊢
    simp only [vsel, VC, VS, VT, List.getD_eq_getElem?_getD, List.getElem?_cons_zero, List.getElem?_cons_succ, Option.getD_some] at hK
    try simp only [hP] at hK ⊢
    go_wp2_with fail
    with_reducible refine (b3 _).mono ?_
    rintro e w5 ⟨rfl, hB5⟩
    go_wp2
    exact hK _ _ rfl hB5
  refine ops_cons ?_ ?_
  · intro us w1 hle hP K' hK
    simp only [predsV, vsel, VC, VS, VT, List.getD_eq_getElem?_getD, List.getElem?_cons_zero, List.getElem?_cons_succ, Option.getD_some, and_true, true_and, and_self] at hP
    simp only [putAll, List.map_cons, List.map_nil, Act.put, List.setIfInBounds_toArray, List.set_cons_succ, List.set_cons_zero, Nat.zero_add, Nat.reduceAdd] at hK ⊢
    simp only [vsel, VC, VS, VT, List.getD_eq_getElem?_getD, List.getElem?_cons_zero, List.getElem?_cons_succ, Option.getD_some] at hK
    try simp only [hP] at hK ⊢
    go_wp2
    exact hK _ _ rfl (Below.refl _ _)
  refine ops_cons ?_ ?_
  · intro us w1 hle hP K' hK
    simp only [predsV, vsel, VC, VS, VT, List.getD_eq_getElem?_getD, List.getElem?_cons_zero, List.getElem?_cons_succ, Option.getD_some, and_true, true_and, and_self] at hP
    simp only [putAll, List.map_cons, List.map_nil, Act.put, List.setIfInBounds_toArray, List.set_cons_succ, List.set_cons_zero, Nat.zero_add, Nat.reduceAdd] at hK ⊢
    simp only [vsel, VC, VS, VT, List.getD_eq_getElem?_getD, List.getElem?_cons_zero, List.getElem?_cons_succ, Option.getD_some] at hK
    try simp only [hP] at hK ⊢
    go_wp2
    exact hK _ _ rfl (Below.refl _ _)
  refine ops_cons ?_ ?_
  · intro us w1 hle hP K' hK
    simp only [predsV, vsel, VC, VS, VT, List.getD_eq_getElem?_getD, List.getElem?_cons_zero, List.getElem?_cons_succ, Option.getD_some, and_true, true_and, and_self] at hP
    simp only [putAll, List.map_cons, List.map_nil, Act.put, List.setIfInBounds_toArray, List.set_cons_succ, List.set_cons_zero, Nat.zero_add, Nat.reduceAdd] at hK ⊢
    simp only [vsel, VC, VS, VT, List.getD_eq_getElem?_getD, List.getElem?_cons_zero, List.getElem?_cons_succ, Option.getD_some] at hK
    try simp only [hP] at hK ⊢
    have k0 := (Lib.cell_of_heap ((hle.block _ hlt).trans HH1.out) 0)
    go_wp2
    exact hK _ _ rfl (Below.refl _ _)
  refine ops_cons ?_ ?_
  · intro us w1 hle hP K' hK
    simp only [predsV, vsel, VC, VS, VT, List.getD_eq_getElem?_getD, List.getElem?_cons_zero, List.getElem?_cons_succ, Option.getD_some, and_true, true_and, and_self] at hP
    simp only [putAll, List.map_cons, List.map_nil, Act.put, List.setIfInBounds_toArray, List.set_cons_succ, List.set_cons_zero, Nat.zero_add, Nat.reduceAdd] at hK ⊢
    simp only [vsel, VC, VS, VT, List.getD_eq_getElem?_getD, List.getElem?_cons_zero, List.getElem?_cons_succ, Option.getD_some] at hK
    try simp only [hP] at hK ⊢
    go_wp2
    exact hK _ _ rfl (Below.refl _ _)
  refine ops_cons ?_ ?_
  · intro us w1 hle hP K' hK
    simp only [predsV, vsel, VC, VS, VT, List.getD_eq_getElem?_getD, List.getElem?_cons_zero, List.getElem?_cons_succ, Option.getD_some, and_true, true_and, and_self] at hP
    simp only [putAll, List.map_cons, List.map_nil, Act.put, List.setIfInBounds_toArray, List.set_cons_succ, List.set_cons_zero, Nat.zero_add, Nat.reduceAdd] at hK ⊢
    simp only [vsel, VC, VS, VT, List.getD_eq_getElem?_getD, List.getElem?_cons_zero, List.getElem?_cons_succ, Option.getD_some] at hK
    try simp only [hP] at hK ⊢
    go_wp2
    exact hK _ _ rfl (Below.refl _ _)
  refine ops_cons ?_ ?_
  · intro us w1 hle hP K' hK
    simp only [predsV, vsel, VC, VS, VT, List.getD_eq_getElem?_getD, List.getElem?_cons_zero, List.getElem?_cons_succ, Option.getD_some, and_true, true_and, and_self] at hP
    simp only [putAll, List.map_cons, List.map_nil, Act.put, List.setIfInBounds_toArray, List.set_cons_succ, List.set_cons_zero, Nat.zero_add, Nat.reduceAdd] at hK ⊢
    simp only [vsel, VC, VS, VT, List.getD_eq_getElem?_getD, List.getElem?_cons_zero, List.getElem?_cons_succ, Option.getD_some] at hK
    try simp only [hP] at hK ⊢
    go_wp2
    exact hK _ _ ⟨_, rfl, World.alloc_heap_new _ _⟩ ((Below.refl _ _).alloc (Nat.le_refl _) _)
  refine ops_cons ?_ ?_
  · intro us w1 hle hP K' hK
    simp only [predsV, vsel, VC, VS, VT, List.getD_eq_getElem?_getD, List.getElem?_cons_zero, List.getElem?_cons_succ, Option.getD_some, and_true, true_and, and_self] at hP
    simp only [putAll, List.map_cons, List.map_nil, Act.put, List.setIfInBounds_toArray, List.set_cons_succ, List.set_cons_zero, Nat.zero_add, Nat.reduceAdd] at hK ⊢
    simp only [vsel, VC, VS, VT, List.getD_eq_getElem?_getD, List.getElem?_cons_zero, List.getElem?_cons_succ, Option.getD_some] at hK
    try simp only [hP] at hK ⊢
    obtain ⟨g, hg1, hg2⟩ := hP
    rw [hg1] at hK ⊢
    have hcv := row_string (P := Try.prog) (src := 37) (dst := 9) (n := 1) (cap := 1) (bs := [bN r.id.size]) Try.underlying37 Try.underlying5 Try.underlying9 rfl hg2
    clear hg1 hg2
    go_wp2
    exact hK _ _ rfl (Below.refl _ _)
  refine ops_cons ?_ ?_
  · intro us w1 hle hP K' hK
    simp only [predsV, vsel, VC, VS, VT, List.getD_eq_getElem?_getD, List.getElem?_cons_zero, List.getElem?_cons_succ, Option.getD_some, and_true, true_and, and_self] at hP
    simp only [putAll, List.map_cons, List.map_nil, Act.put, List.setIfInBounds_toArray, List.set_cons_succ, List.set_cons_zero, Nat.zero_add, Nat.reduceAdd] at hK ⊢
    simp only [vsel, VC, VS, VT, List.getD_eq_getElem?_getD, List.getElem?_cons_zero, List.getElem?_cons_succ, Option.getD_some] at hK
    try simp only [hP] at hK ⊢
    go_wp2
    exact hK _ _ rfl (Below.refl _ _)
  refine ops_cons ?_ ?_
  · intro us w1 hle hP K' hK
    simp only [predsV, vsel, VC, VS, VT, List.getD_eq_getElem?_getD, List.getElem?_cons_zero, List.getElem?_cons_succ, Option.getD_some, and_true, true_and, and_self] at hP
    simp only [putAll, List.map_cons, List.map_nil, Act.put, List.setIfInBounds_toArray, List.set_cons_succ, List.set_cons_zero, Nat.zero_add, Nat.reduceAdd] at hK ⊢
    simp only [vsel, VC, VS, VT, List.getD_eq_getElem?_getD, List.getElem?_cons_zero, List.getElem?_cons_succ, Option.getD_some] at hK
    try simp only [hP] at hK ⊢
    go_wp2
    exact hK _ _ rfl (Below.refl _ _)
  refine ops_cons ?_ ?_
  · intro us w1 hle hP K' hK
    simp only [predsV, vsel, VC, VS, VT, List.getD_eq_getElem?_getD, List.getElem?_cons_zero, List.getElem?_cons_succ, Option.getD_some, and_true, true_and, and_self] at hP
    simp only [putAll, List.map_cons, List.map_nil, Act.put, List.setIfInBounds_toArray, List.set_cons_succ, List.set_cons_zero, Nat.zero_add, Nat.reduceAdd] at hK ⊢
    simp only [vsel, VC, VS, VT, List.getD_eq_getElem?_getD, List.getElem?_cons_zero, List.getElem?_cons_succ, Option.getD_some] at hK
    try simp only [hP] at hK ⊢
    have k0 := (Lib.cell_of_heap ((hle.block _ hlt).trans HH1.out) 0)
    go_wp2
    exact hK _ _ rfl (Below.refl _ _)
  refine ops_cons ?_ ?_
  · intro us w1 hle hP K' hK
    simp only [predsV, vsel, VC, VS, VT, List.getD_eq_getElem?_getD, List.getElem?_cons_zero, List.getElem?_cons_succ, Option.getD_some, and_true, true_and, and_self] at hP
    simp only [putAll, List.map_cons, List.map_nil, Act.put, List.setIfInBounds_toArray, List.set_cons_succ, List.set_cons_zero, Nat.zero_add, Nat.reduceAdd] at hK ⊢
    simp only [vsel, VC, VS, VT, List.getD_eq_getElem?_getD, List.getElem?_cons_zero, List.getElem?_cons_succ, Option.getD_some] at hK
    try simp only [hP] at hK ⊢
    go_wp2
    exact hK _ _ rfl (Below.refl _ _)
  refine ops_cons ?_ ?_
  · intro us w1 hle hP K' hK
    simp only [predsV, vsel, VC, VS, VT, List.getD_eq_getElem?_getD, List.getElem?_cons_zero, List.getElem?_cons_succ, Option.getD_some, and_true, true_and, and_self] at hP
    simp only [putAll, List.map_cons, List.map_nil, Act.put, List.setIfInBounds_toArray, List.set_cons_succ, List.set_cons_zero, Nat.zero_add, Nat.reduceAdd] at hK ⊢
    simp only [vsel, VC, VS, VT, List.getD_eq_getElem?_getD, List.getElem?_cons_zero, List.getElem?_cons_succ, Option.getD_some] at hK
    try simp only [hP] at hK ⊢
    go_wp2
    exact hK _ _ rfl (Below.refl _ _)
  · exact ops_nil _ _
  · intro us w5 hle hV
    have h34 := hV 34 (by decide)
    simp only [vsel, VC, List.getD_eq_getElem?_getD, List.getElem?_cons_zero, List.getElem?_cons_succ, Option.getD_some] at h34
    have k0 : w5.cell? ⟨w.heap.size, 0, none⟩ = some (.string r.id) := (Lib.cell_of_heap ((hle.block _ hlt).trans HH1.out) 0)
    have k7 : w5.cell? ⟨w.heap.size, 7, none⟩ = some (.string r.use) := (Lib.cell_of_heap ((hle.block _ hlt).trans HH1.out) 7)
    have HBL : Hid (Below w.heap.size w w5) := Lib.hid (bthen (((Below.refl _ w).alloc (Nat.le_refl _) _).trans (HB.out.mono (by simp))) (drew_left hle))
    clear hV hle
    simp only [putAll, List.map_cons, List.map_nil, Act.put, List.setIfInBounds_toArray, List.set_cons_succ, List.set_cons_zero, Nat.zero_add, Nat.reduceAdd, Exit.then]
    have h34b : ∃ S : ByteArray, us 34 = .string S ∧ Hid (S.data.toList = ((encH r n d ++ [bN r.id.size]) ++ r.id.data.toList)) ∧ S.size ≤ 1000 := by
      refine ⟨_, h34, Lib.hid ?_, ?_⟩
      · simp only [encH, HO.out.1, HO.out.2, ByteArray.data_append, Array.toList_append, List.append_assoc]
      · simp only [ByteArray.size_append]
        have e1 : (⟨#[bN n, 0]⟩ : ByteArray).size = 2 := rfl
        have e2 : (⟨#[bN r.flags, 0, 0]⟩ : ByteArray).size = 3 := rfl
        have e3 : (⟨#[bN r.id.size]⟩ : ByteArray).size = 1 := rfl
        omega
    clear h34
    obtain ⟨S, h34, HS, hS⟩ := h34b
    rw [h34]
    clear h34
    generalize us 33 = u33
    rcases HPP.out with ⟨hp, hp2⟩ | ⟨hp, hp2⟩
    · have hfin : Hid (S ++ (⟨#[0]⟩ : ByteArray) ++ r.use = R) := Lib.hid (by
        rw [← HR.out]
        apply ByteArray.ext
        apply Array.toList_inj.1
        simp only [encL, hp2, ByteArray.data_append, Array.toList_append, HS.out, List.append_assoc, List.toList_toArray])
      clear hp2
      have hs1 : S.size + 1 ≤ 2000 := by omega
      go_wp2
      go_ret2
      refine ⟨?_, HBL.out⟩
      rw [← hfin.out]
      rfl
    · have hfin : Hid (S ++ r.use = R) := Lib.hid (by
        rw [← HR.out]
        apply ByteArray.ext
        apply Array.toList_inj.1
        simp only [encL, hp2, ByteArray.data_append, Array.toList_append, HS.out, List.append_assoc, List.toList_toArray, List.nil_append])
      clear hp2
      go_wp2
      go_ret2
      refine ⟨?_, HBL.out⟩
      rw [← hfin.out]
      rfl
end Go.Proofs.Ytnmlephjhcmbhaa
