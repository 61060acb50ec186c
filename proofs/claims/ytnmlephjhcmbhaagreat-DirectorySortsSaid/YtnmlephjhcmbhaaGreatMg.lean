/- The reference of package dirrecord: Encode. The reference of package dirrecord: Encode, where a number is out of range; what both Encodes give for any record. -/
import Derived.Test.YtnmlephjhcmbhaaGreatMf
import Derived.Test.YtnmlephjhcmbhaaGreatMa
import Derived.Test.YtnmlephjhcmbhaaGreatMc
namespace Go.Proofs.YtnmlephjhcmbhaaGreat
set_option linter.unusedSimpArgs false
set_option linter.unusedVariables false
open Go Go.RowKit
set_option maxRecDepth 100000 in
set_option maxHeartbeats 4000000 in
theorem renc_good (r : Rec) (n : Nat) (d x1 x2 x3 : ByteArray) (w : World) (hi : ((r.id.size : Int) == 0) = false) (hu : ((r.use.size : Int) % 2 == 1) = false) (hn : ((n : Int) == 0) = false) (hd : d.size ≤ 7) (hid : r.id.size ≤ 254) (hus : r.use.size ≤ 254)
    (c1 : ∀ W : World, Calls Tryz.prog 26 #[cN r.id.size, cN r.use.size] W fun e w' => e = .returned (cN n) ∧ W = w')
    (c2 : ∀ W : World, Calls Tryz.prog 72 #[cN r.time, cN r.zone] W fun e w' => e = .returned (.tuple #[.string d, cN 0]) ∧ Below W.heap.size W w')
    (f1 : ∀ W : World, Calls Tryz.prog 73 #[cN r.lba, cN 4294967295] W fun e w' => e = .returned (.bool true) ∧ W = w')
    (f2 : ∀ W : World, Calls Tryz.prog 73 #[cN r.len, cN 4294967295] W fun e w' => e = .returned (.bool true) ∧ W = w')
    (f3 : ∀ W : World, Calls Tryz.prog 73 #[cN r.flags, cN 255] W fun e w' => e = .returned (.bool true) ∧ W = w')
    (f4 : ∀ W : World, Calls Tryz.prog 73 #[cN r.seq, cN 65535] W fun e w' => e = .returned (.bool true) ∧ W = w')
    (b1 : ∀ W : World, Calls Tryz.prog 74 #[cN r.lba, cN 4] W fun e w' => e = .returned (.string x1) ∧ Below W.heap.size W w')
    (b2 : ∀ W : World, Calls Tryz.prog 74 #[cN r.len, cN 4] W fun e w' => e = .returned (.string x2) ∧ Below W.heap.size W w')
    (b3 : ∀ W : World, Calls Tryz.prog 74 #[cN r.seq, cN 2] W fun e w' => e = .returned (.string x3) ∧ Below W.heap.size W w') 
    (z1 : x1.size ≤ 8) (z2 : x2.size ≤ 8) (z3 : x3.size ≤ 8) (o1 : outs [(r.lba, 4), (r.len, 4)] = x1.data.toList ++ x2.data.toList) (o2 : outs [(r.seq, 2)] = x3.data.toList) :
    Calls Tryz.prog 49 #[.agg (recA r)] w fun e w' => e = .returned (.tuple #[.string ⟨(encL r n d).toArray⟩, cN 0]) ∧ Below w.heap.size w w' := by
  have HO := Lib.hid (And.intro o1 o2)
  clear o1 o2
  have hp : (((r.id.size : Int) % 2 == 0) = true ∧ padB r.id.size = [0]) ∨ (((r.id.size : Int) % 2 == 0) = false ∧ padB r.id.size = []) := by
    rw [padB]
    rcases (by omega : r.id.size % 2 = 0 ∨ r.id.size % 2 = 1) with h | h
    · left; rw [if_pos h]; refine ⟨?_, rfl⟩; rw [beq_iff_eq]; omega
    · right; rw [if_neg (by omega)]; refine ⟨?_, rfl⟩; rw [beq_eq_false_iff_ne]; omega
  obtain ⟨R, hR⟩ : ∃ R, (⟨(encL r n d).toArray⟩ : ByteArray) = R := ⟨_, rfl⟩
  rw [hR]
  have HR := Lib.hid hR
  have HPP := Lib.hid hp
  clear hR hp
  have hb := bN_wrap n
  have hf := bN_wrap r.flags
  have hl := bN_wrap r.id.size
  go_enter Tryz.func49, Tryz.ntmps49
  have H0 : (w.alloc (.cells (recA r) 45)).heap[w.heap.size]? = some (.cells (recA r) 45 (0, 0)) := World.alloc_heap_new _ _
  go_wp2_with (first | (go_at_call 26; (with_reducible refine (c1 _).mono ?_); rintro e w1 ⟨rfl, rfl⟩) | (go_at_call 72; (with_reducible refine (c2 _).mono ?_); rintro e w1 ⟨rfl, hB⟩; have H1 := (hB.block w.heap.size (by simp)).trans H0; have k0 := Lib.cell_of_heap H1 0; have k1 := Lib.cell_of_heap H1 1; have k2 := Lib.cell_of_heap H1 2; have k5 := Lib.cell_of_heap H1 5; have k6 := Lib.cell_of_heap H1 6; have k7 := Lib.cell_of_heap H1 7; have HH1 := Lib.hid H1; have HB := Lib.hid hB; clear H1 hB) | (go_at_call 73; (with_reducible refine (f1 _).mono ?_); rintro e w1 ⟨rfl, rfl⟩) | (go_at_call 73; (with_reducible refine (f2 _).mono ?_); rintro e w1 ⟨rfl, rfl⟩) | (go_at_call 73; (with_reducible refine (f3 _).mono ?_); rintro e w1 ⟨rfl, rfl⟩) | (go_at_call 73; (with_reducible refine (f4 _).mono ?_); rintro e w1 ⟨rfl, rfl⟩))
  clear f1 f2 f3 f4 c1 c2 k0 k1 k2 k5 k6 k7 H0
  have hlt : w.heap.size < w1.heap.size := lt_of_block HH1.out
  apply region_below (VC _ :: VC _ :: VS #[.int .u8 ((bN n).toNat : Int), .int .u8 0] 5 2 :: VC _ :: VC _ :: VC _ :: VC _ :: VC _ :: VC _ :: VC _ :: VC _ :: VC _ :: VC _ :: VC _ :: VC _ :: VC _ :: VC _ :: VS #[.int .u8 ((bN r.flags).toNat : Int), .int .u8 0, .int .u8 0] 5 3 :: VC _ :: VC _ :: VC _ :: VC _ :: VC _ :: VC _ :: VC _ :: VC _ :: VC _ :: VC _ :: VS #[.int .u8 ((bN r.id.size).toNat : Int)] 5 1 :: VC _ :: VC _ :: VC _ :: VC _ :: VC _ :: VC _ :: []) (by kernel_rfl) (by kernel_rfl) (by rintro ⟨_, _, h, _⟩; cases h)
  · repeat (first | exact trivial | (refine KeepsL_cons ?_ ?_; (first | apply VC_keeps | apply VS_keeps | apply VT_keeps)))
  refine ops_cons ?_ ?_
  · intro us w1 hle hP K' hK
    simp only [predsV, vsel, VC, VS, VT, List.getD_eq_getElem?_getD, List.getElem?_cons_zero, List.getElem?_cons_succ, Option.getD_some, and_true, true_and, and_self] at hP
    simp only [putAll, List.map_cons, List.map_nil, Act.put, List.setIfInBounds_toArray, List.set_cons_succ, List.set_cons_zero, Nat.zero_add, Nat.reduceAdd] at hK ⊢
    simp only [vsel, VC, VS, VT, List.getD_eq_getElem?_getD, List.getElem?_cons_zero, List.getElem?_cons_succ, Option.getD_some] at hK
    try simp only [hP] at hK ⊢
    go_wp2
    exact hK _ _ rfl (Below.refl _ _)
  refine ops_cons ?_ ?_
  · intro us w1 hle hP K' hK
    simp only [predsV, vsel, VC, VS, VT, List.getD_eq_getElem?_getD, List.getElem?_cons_zero, List.getElem?_cons_succ, Option.getD_some, and_true, true_and, and_self] at hP
    simp only [putAll, List.map_cons, List.map_nil, Act.put, List.setIfInBounds_toArray, List.set_cons_succ, List.set_cons_zero, Nat.zero_add, Nat.reduceAdd] at hK ⊢
    simp only [vsel, VC, VS, VT, List.getD_eq_getElem?_getD, List.getElem?_cons_zero, List.getElem?_cons_succ, Option.getD_some] at hK
    try simp only [hP] at hK ⊢
    go_wp2
    exact hK _ _ rfl (Below.refl _ _)
  refine ops_cons ?_ ?_
  · intro us w1 hle hP K' hK
    simp only [predsV, vsel, VC, VS, VT, List.getD_eq_getElem?_getD, List.getElem?_cons_zero, List.getElem?_cons_succ, Option.getD_some, and_true, true_and, and_self] at hP
    simp only [putAll, List.map_cons, List.map_nil, Act.put, List.setIfInBounds_toArray, List.set_cons_succ, List.set_cons_zero, Nat.zero_add, Nat.reduceAdd] at hK ⊢
    simp only [vsel, VC, VS, VT, List.getD_eq_getElem?_getD, List.getElem?_cons_zero, List.getElem?_cons_succ, Option.getD_some] at hK
    try simp only [hP] at hK ⊢
    go_wp2
    exact hK _ _ ⟨_, rfl, World.alloc_heap_new _ _⟩ ((Below.refl _ _).alloc (Nat.le_refl _) _)
  refine ops_cons ?_ ?_
  · intro us w1 hle hP K' hK
    simp only [predsV, vsel, VC, VS, VT, List.getD_eq_getElem?_getD, List.getElem?_cons_zero, List.getElem?_cons_succ, Option.getD_some, and_true, true_and, and_self] at hP
    simp only [putAll, List.map_cons, List.map_nil, Act.put, List.setIfInBounds_toArray, List.set_cons_succ, List.set_cons_zero, Nat.zero_add, Nat.reduceAdd] at hK ⊢
    simp only [vsel, VC, VS, VT, List.getD_eq_getElem?_getD, List.getElem?_cons_zero, List.getElem?_cons_succ, Option.getD_some] at hK
    try simp only [hP] at hK ⊢
    obtain ⟨g, hg1, hg2⟩ := hP
    rw [hg1] at hK ⊢
    have hcv := row_string (P := Tryz.prog) (src := 69) (dst := 9) (n := 2) (cap := 2) (bs := [bN n, 0]) Tryz.underlying69 Tryz.underlying5 Tryz.underlying9 rfl hg2
    clear hg1 hg2
    go_wp2
    exact hK _ _ rfl (Below.refl _ _)
  refine ops_cons ?_ ?_
  · intro us w1 hle hP K' hK
    simp only [predsV, vsel, VC, VS, VT, List.getD_eq_getElem?_getD, List.getElem?_cons_zero, List.getElem?_cons_succ, Option.getD_some, and_true, true_and, and_self] at hP
    simp only [putAll, List.map_cons, List.map_nil, Act.put, List.setIfInBounds_toArray, List.set_cons_succ, List.set_cons_zero, Nat.zero_add, Nat.reduceAdd] at hK ⊢
    simp only [vsel, VC, VS, VT, List.getD_eq_getElem?_getD, List.getElem?_cons_zero, List.getElem?_cons_succ, Option.getD_some] at hK
    try simp only [hP] at hK ⊢
    have k1 := (Lib.cell_of_heap ((hle.block _ hlt).trans HH1.out) 1)
    clear hle
    go_wp2
    exact hK _ _ rfl (Below.refl _ _)
  refine ops_cons ?_ ?_
  · intro us w1 hle hP K' hK
    simp only [predsV, vsel, VC, VS, VT, List.getD_eq_getElem?_getD, List.getElem?_cons_zero, List.getElem?_cons_succ, Option.getD_some, and_true, true_and, and_self] at hP
    simp only [putAll, List.map_cons, List.map_nil, Act.put, List.setIfInBounds_toArray, List.set_cons_succ, List.set_cons_zero, Nat.zero_add, Nat.reduceAdd] at hK ⊢
    simp only [vsel, VC, VS, VT, List.getD_eq_getElem?_getD, List.getElem?_cons_zero, List.getElem?_cons_succ, Option.getD_some] at hK
    try simp only [hP] at hK ⊢
    have k1 := (Lib.cell_of_heap ((hle.block _ hlt).trans HH1.out) 1)
    go_wp2
    exact hK _ _ rfl (Below.refl _ _)
  refine ops_cons ?_ ?_
  · intro us w1 hle hP K' hK
    simp only [predsV, vsel, VC, VS, VT, List.getD_eq_getElem?_getD, List.getElem?_cons_zero, List.getElem?_cons_succ, Option.getD_some, and_true, true_and, and_self] at hP
    simp only [putAll, List.map_cons, List.map_nil, Act.put, List.setIfInBounds_toArray, List.set_cons_succ, List.set_cons_zero, Nat.zero_add, Nat.reduceAdd] at hK ⊢
    simp only [vsel, VC, VS, VT, List.getD_eq_getElem?_getD, List.getElem?_cons_zero, List.getElem?_cons_succ, Option.getD_some] at hK
    try simp only [hP] at hK ⊢
    go_wp2_with fail
    with_reducible refine (b1 _).mono ?_
    rintro e w5 ⟨rfl, hB5⟩
    go_wp2
    exact hK _ _ rfl hB5
  refine ops_cons ?_ ?_
  · intro us w1 hle hP K' hK
    simp only [predsV, vsel, VC, VS, VT, List.getD_eq_getElem?_getD, List.getElem?_cons_zero, List.getElem?_cons_succ, Option.getD_some, and_true, true_and, and_self] at hP
    simp only [putAll, List.map_cons, List.map_nil, Act.put, List.setIfInBounds_toArray, List.set_cons_succ, List.set_cons_zero, Nat.zero_add, Nat.reduceAdd] at hK ⊢
    simp only [vsel, VC, VS, VT, List.getD_eq_getElem?_getD, List.getElem?_cons_zero, List.getElem?_cons_succ, Option.getD_some] at hK
    try simp only [hP] at hK ⊢
    go_wp2
    exact hK _ _ rfl (Below.refl _ _)
  refine ops_cons ?_ ?_
  · intro us w1 hle hP K' hK
    simp only [predsV, vsel, VC, VS, VT, List.getD_eq_getElem?_getD, List.getElem?_cons_zero, List.getElem?_cons_succ, Option.getD_some, and_true, true_and, and_self] at hP
    simp only [putAll, List.map_cons, List.map_nil, Act.put, List.setIfInBounds_toArray, List.set_cons_succ, List.set_cons_zero, Nat.zero_add, Nat.reduceAdd] at hK ⊢
    simp only [vsel, VC, VS, VT, List.getD_eq_getElem?_getD, List.getElem?_cons_zero, List.getElem?_cons_succ, Option.getD_some] at hK
    try simp only [hP] at hK ⊢
    go_wp2
    exact hK _ _ rfl (Below.refl _ _)
  refine ops_cons ?_ ?_
  · intro us w1 hle hP K' hK
    simp only [predsV, vsel, VC, VS, VT, List.getD_eq_getElem?_getD, List.getElem?_cons_zero, List.getElem?_cons_succ, Option.getD_some, and_true, true_and, and_self] at hP
    simp only [putAll, List.map_cons, List.map_nil, Act.put, List.setIfInBounds_toArray, List.set_cons_succ, List.set_cons_zero, Nat.zero_add, Nat.reduceAdd] at hK ⊢
    simp only [vsel, VC, VS, VT, List.getD_eq_getElem?_getD, List.getElem?_cons_zero, List.getElem?_cons_succ, Option.getD_some] at hK
    try simp only [hP] at hK ⊢
    have k2 := (Lib.cell_of_heap ((hle.block _ hlt).trans HH1.out) 2)
    go_wp2
    exact hK _ _ rfl (Below.refl _ _)
  refine ops_cons ?_ ?_
  · intro us w1 hle hP K' hK
    simp only [predsV, vsel, VC, VS, VT, List.getD_eq_getElem?_getD, List.getElem?_cons_zero, List.getElem?_cons_succ, Option.getD_some, and_true, true_and, and_self] at hP
    simp only [putAll, List.map_cons, List.map_nil, Act.put, List.setIfInBounds_toArray, List.set_cons_succ, List.set_cons_zero, Nat.zero_add, Nat.reduceAdd] at hK ⊢
    simp only [vsel, VC, VS, VT, List.getD_eq_getElem?_getD, List.getElem?_cons_zero, List.getElem?_cons_succ, Option.getD_some] at hK
    try simp only [hP] at hK ⊢
    go_wp2_with fail
    with_reducible refine (b2 _).mono ?_
    rintro e w5 ⟨rfl, hB5⟩
    go_wp2
    exact hK _ _ rfl hB5
  refine ops_cons ?_ ?_
  · intro us w1 hle hP K' hK
    simp only [predsV, vsel, VC, VS, VT, List.getD_eq_getElem?_getD, List.getElem?_cons_zero, List.getElem?_cons_succ, Option.getD_some, and_true, true_and, and_self] at hP
    simp only [putAll, List.map_cons, List.map_nil, Act.put, List.setIfInBounds_toArray, List.set_cons_succ, List.set_cons_zero, Nat.zero_add, Nat.reduceAdd] at hK ⊢
    simp only [vsel, VC, VS, VT, List.getD_eq_getElem?_getD, List.getElem?_cons_zero, List.getElem?_cons_succ, Option.getD_some] at hK
    try simp only [hP] at hK ⊢
    go_wp2
    exact hK _ _ rfl (Below.refl _ _)
  refine ops_cons ?_ ?_
  · intro us w1 hle hP K' hK
    simp only [predsV, vsel, VC, VS, VT, List.getD_eq_getElem?_getD, List.getElem?_cons_zero, List.getElem?_cons_succ, Option.getD_some, and_true, true_and, and_self] at hP
    simp only [putAll, List.map_cons, List.map_nil, Act.put, List.setIfInBounds_toArray, List.set_cons_succ, List.set_cons_zero, Nat.zero_add, Nat.reduceAdd] at hK ⊢
    simp only [vsel, VC, VS, VT, List.getD_eq_getElem?_getD, List.getElem?_cons_zero, List.getElem?_cons_succ, Option.getD_some] at hK
    try simp only [hP] at hK ⊢
    go_wp2
    exact hK _ _ rfl (Below.refl _ _)
  refine ops_cons ?_ ?_
  · intro us w1 hle hP K' hK
    simp only [predsV, vsel, VC, VS, VT, List.getD_eq_getElem?_getD, List.getElem?_cons_zero, List.getElem?_cons_succ, Option.getD_some, and_true, true_and, and_self] at hP
    simp only [putAll, List.map_cons, List.map_nil, Act.put, List.setIfInBounds_toArray, List.set_cons_succ, List.set_cons_zero, Nat.zero_add, Nat.reduceAdd] at hK ⊢
    simp only [vsel, VC, VS, VT, List.getD_eq_getElem?_getD, List.getElem?_cons_zero, List.getElem?_cons_succ, Option.getD_some] at hK
    try simp only [hP] at hK ⊢
    go_wp2
    exact hK _ _ rfl (Below.refl _ _)
  refine ops_cons ?_ ?_
  · intro us w1 hle hP K' hK
    simp only [predsV, vsel, VC, VS, VT, List.getD_eq_getElem?_getD, List.getElem?_cons_zero, List.getElem?_cons_succ, Option.getD_some, and_true, true_and, and_self] at hP
    simp only [putAll, List.map_cons, List.map_nil, Act.put, List.setIfInBounds_toArray, List.set_cons_succ, List.set_cons_zero, Nat.zero_add, Nat.reduceAdd] at hK ⊢
    simp only [vsel, VC, VS, VT, List.getD_eq_getElem?_getD, List.getElem?_cons_zero, List.getElem?_cons_succ, Option.getD_some] at hK
    try simp only [hP] at hK ⊢
    go_wp2
    exact hK _ _ rfl (Below.refl _ _)
  refine ops_cons ?_ ?_
  · intro us w1 hle hP K' hK
    simp only [predsV, vsel, VC, VS, VT, List.getD_eq_getElem?_getD, List.getElem?_cons_zero, List.getElem?_cons_succ, Option.getD_some, and_true, true_and, and_self] at hP
    simp only [putAll, List.map_cons, List.map_nil, Act.put, List.setIfInBounds_toArray, List.set_cons_succ, List.set_cons_zero, Nat.zero_add, Nat.reduceAdd] at hK ⊢
    simp only [vsel, VC, VS, VT, List.getD_eq_getElem?_getD, List.getElem?_cons_zero, List.getElem?_cons_succ, Option.getD_some] at hK
    try simp only [hP] at hK ⊢
    have k5 := (Lib.cell_of_heap ((hle.block _ hlt).trans HH1.out) 5)
    go_wp2
    exact hK _ _ rfl (Below.refl _ _)
  refine ops_cons ?_ ?_
  · intro us w1 hle hP K' hK
    simp only [predsV, vsel, VC, VS, VT, List.getD_eq_getElem?_getD, List.getElem?_cons_zero, List.getElem?_cons_succ, Option.getD_some, and_true, true_and, and_self] at hP
    simp only [putAll, List.map_cons, List.map_nil, Act.put, List.setIfInBounds_toArray, List.set_cons_succ, List.set_cons_zero, Nat.zero_add, Nat.reduceAdd] at hK ⊢
    simp only [vsel, VC, VS, VT, List.getD_eq_getElem?_getD, List.getElem?_cons_zero, List.getElem?_cons_succ, Option.getD_some] at hK
    try simp only [hP] at hK ⊢
    go_wp2
    exact hK _ _ rfl (Below.refl _ _)
  refine ops_cons ?_ ?_
  · intro us w1 hle hP K' hK
    simp only [predsV, vsel, VC, VS, VT, List.getD_eq_getElem?_getD, List.getElem?_cons_zero, List.getElem?_cons_succ, Option.getD_some, and_true, true_and, and_self] at hP
    simp only [putAll, List.map_cons, List.map_nil, Act.put, List.setIfInBounds_toArray, List.set_cons_succ, List.set_cons_zero, Nat.zero_add, Nat.reduceAdd] at hK ⊢
    simp only [vsel, VC, VS, VT, List.getD_eq_getElem?_getD, List.getElem?_cons_zero, List.getElem?_cons_succ, Option.getD_some] at hK
    try simp only [hP] at hK ⊢
    go_wp2
    exact hK _ _ ⟨_, rfl, World.alloc_heap_new _ _⟩ ((Below.refl _ _).alloc (Nat.le_refl _) _)
  refine ops_cons ?_ ?_
  · intro us w1 hle hP K' hK
    simp only [predsV, vsel, VC, VS, VT, List.getD_eq_getElem?_getD, List.getElem?_cons_zero, List.getElem?_cons_succ, Option.getD_some, and_true, true_and, and_self] at hP
    simp only [putAll, List.map_cons, List.map_nil, Act.put, List.setIfInBounds_toArray, List.set_cons_succ, List.set_cons_zero, Nat.zero_add, Nat.reduceAdd] at hK ⊢
    simp only [vsel, VC, VS, VT, List.getD_eq_getElem?_getD, List.getElem?_cons_zero, List.getElem?_cons_succ, Option.getD_some] at hK
    try simp only [hP] at hK ⊢
    obtain ⟨g, hg1, hg2⟩ := hP
    rw [hg1] at hK ⊢
    have hcv := row_string (P := Tryz.prog) (src := 69) (dst := 9) (n := 3) (cap := 3) (bs := [bN r.flags, 0, 0]) Tryz.underlying69 Tryz.underlying5 Tryz.underlying9 rfl hg2
    clear hg1 hg2
    go_wp2
    exact hK _ _ rfl (Below.refl _ _)
  refine ops_cons ?_ ?_
  · intro us w1 hle hP K' hK
    simp only [predsV, vsel, VC, VS, VT, List.getD_eq_getElem?_getD, List.getElem?_cons_zero, List.getElem?_cons_succ, Option.getD_some, and_true, true_and, and_self] at hP
    simp only [putAll, List.map_cons, List.map_nil, Act.put, List.setIfInBounds_toArray, List.set_cons_succ, List.set_cons_zero, Nat.zero_add, Nat.reduceAdd] at hK ⊢
    simp only [vsel, VC, VS, VT, List.getD_eq_getElem?_getD, List.getElem?_cons_zero, List.getElem?_cons_succ, Option.getD_some] at hK
    try simp only [hP] at hK ⊢
    go_wp2
    exact hK _ _ rfl (Below.refl _ _)
  refine ops_cons ?_ ?_
  · intro us w1 hle hP K' hK
    simp only [predsV, vsel, VC, VS, VT, List.getD_eq_getElem?_getD, List.getElem?_cons_zero, List.getElem?_cons_succ, Option.getD_some, and_true, true_and, and_self] at hP
    simp only [putAll, List.map_cons, List.map_nil, Act.put, List.setIfInBounds_toArray, List.set_cons_succ, List.set_cons_zero, Nat.zero_add, Nat.reduceAdd] at hK ⊢
    simp only [vsel, VC, VS, VT, List.getD_eq_getElem?_getD, List.getElem?_cons_zero, List.getElem?_cons_succ, Option.getD_some] at hK
    try simp only [hP] at hK ⊢
    go_wp2
    exact hK _ _ rfl (Below.refl _ _)
  refine ops_cons ?_ ?_
  · intro us w1 hle hP K' hK
    simp only [predsV, vsel, VC, VS, VT, List.getD_eq_getElem?_getD, List.getElem?_cons_zero, List.getElem?_cons_succ, Option.getD_some, and_true, true_and, and_self] at hP
    simp only [putAll, List.map_cons, List.map_nil, Act.put, List.setIfInBounds_toArray, List.set_cons_succ, List.set_cons_zero, Nat.zero_add, Nat.reduceAdd] at hK ⊢
    simp only [vsel, VC, VS, VT, List.getD_eq_getElem?_getD, List.getElem?_cons_zero, List.getElem?_cons_succ, Option.getD_some] at hK
    try simp only [hP] at hK ⊢
    have k6 := (Lib.cell_of_heap ((hle.block _ hlt).trans HH1.out) 6)
    go_wp2
    exact hK _ _ rfl (Below.refl _ _)
  refine ops_cons ?_ ?_
  · intro us w1 hle hP K' hK
    simp only [predsV, vsel, VC, VS, VT, List.getD_eq_getElem?_getD, List.getElem?_cons_zero, List.getElem?_cons_succ, Option.getD_some, and_true, true_and, and_self] at hP
    simp only [putAll, List.map_cons, List.map_nil, Act.put, List.setIfInBounds_toArray, List.set_cons_succ, List.set_cons_zero, Nat.zero_add, Nat.reduceAdd] at hK ⊢
    simp only [vsel, VC, VS, VT, List.getD_eq_getElem?_getD, List.getElem?_cons_zero, List.getElem?_cons_succ, Option.getD_some] at hK
    try simp only [hP] at hK ⊢
    go_wp2_with fail
    with_reducible refine (b3 _).mono ?_
    rintro e w5 ⟨rfl, hB5⟩
    go_wp2
    exact hK _ _ rfl hB5
  refine ops_cons ?_ ?_
  · intro us w1 hle hP K' hK
    simp only [predsV, vsel, VC, VS, VT, List.getD_eq_getElem?_getD, List.getElem?_cons_zero, List.getElem?_cons_succ, Option.getD_some, and_true, true_and, and_self] at hP
    simp only [putAll, List.map_cons, List.map_nil, Act.put, List.setIfInBounds_toArray, List.set_cons_succ, List.set_cons_zero, Nat.zero_add, Nat.reduceAdd] at hK ⊢
    simp only [vsel, VC, VS, VT, List.getD_eq_getElem?_getD, List.getElem?_cons_zero, List.getElem?_cons_succ, Option.getD_some] at hK
    try simp only [hP] at hK ⊢
    go_wp2
    exact hK _ _ rfl (Below.refl _ _)
  refine ops_cons ?_ ?_
  · intro us w1 hle hP K' hK
    simp only [predsV, vsel, VC, VS, VT, List.getD_eq_getElem?_getD, List.getElem?_cons_zero, List.getElem?_cons_succ, Option.getD_some, and_true, true_and, and_self] at hP
    simp only [putAll, List.map_cons, List.map_nil, Act.put, List.setIfInBounds_toArray, List.set_cons_succ, List.set_cons_zero, Nat.zero_add, Nat.reduceAdd] at hK ⊢
    simp only [vsel, VC, VS, VT, List.getD_eq_getElem?_getD, List.getElem?_cons_zero, List.getElem?_cons_succ, Option.getD_some] at hK
    try simp only [hP] at hK ⊢
    go_wp2
    exact hK _ _ rfl (Below.refl _ _)
  refine ops_cons ?_ ?_
  · intro us w1 hle hP K' hK
    simp only [predsV, vsel, VC, VS, VT, List.getD_eq_getElem?_getD, List.getElem?_cons_zero, List.getElem?_cons_succ, Option.getD_some, and_true, true_and, and_self] at hP
    simp only [putAll, List.map_cons, List.map_nil, Act.put, List.setIfInBounds_toArray, List.set_cons_succ, List.set_cons_zero, Nat.zero_add, Nat.reduceAdd] at hK ⊢
    simp only [vsel, VC, VS, VT, List.getD_eq_getElem?_getD, List.getElem?_cons_zero, List.getElem?_cons_succ, Option.getD_some] at hK
    try simp only [hP] at hK ⊢
    have k0 := (Lib.cell_of_heap ((hle.block _ hlt).trans HH1.out) 0)
    go_wp2
    exact hK _ _ rfl (Below.refl _ _)
  refine ops_cons ?_ ?_
  · intro us w1 hle hP K' hK
    simp only [predsV, vsel, VC, VS, VT, List.getD_eq_getElem?_getD, List.getElem?_cons_zero, List.getElem?_cons_succ, Option.getD_some, and_true, true_and, and_self] at hP
    simp only [putAll, List.map_cons, List.map_nil, Act.put, List.setIfInBounds_toArray, List.set_cons_succ, List.set_cons_zero, Nat.zero_add, Nat.reduceAdd] at hK ⊢
    simp only [vsel, VC, VS, VT, List.getD_eq_getElem?_getD, List.getElem?_cons_zero, List.getElem?_cons_succ, Option.getD_some] at hK
    try simp only [hP] at hK ⊢
    go_wp2
    exact hK _ _ rfl (Below.refl _ _)
  refine ops_cons ?_ ?_
  · intro us w1 hle hP K' hK
    simp only [predsV, vsel, VC, VS, VT, List.getD_eq_getElem?_getD, List.getElem?_cons_zero, List.getElem?_cons_succ, Option.getD_some, and_true, true_and, and_self] at hP
    simp only [putAll, List.map_cons, List.map_nil, Act.put, List.setIfInBounds_toArray, List.set_cons_succ, List.set_cons_zero, Nat.zero_add, Nat.reduceAdd] at hK ⊢
    simp only [vsel, VC, VS, VT, List.getD_eq_getElem?_getD, List.getElem?_cons_zero, List.getElem?_cons_succ, Option.getD_some] at hK
    try simp only [hP] at hK ⊢
    go_wp2
    exact hK _ _ rfl (Below.refl _ _)
  refine ops_cons ?_ ?_
  · intro us w1 hle hP K' hK
    simp only [predsV, vsel, VC, VS, VT, List.getD_eq_getElem?_getD, List.getElem?_cons_zero, List.getElem?_cons_succ, Option.getD_some, and_true, true_and, and_self] at hP
    simp only [putAll, List.map_cons, List.map_nil, Act.put, List.setIfInBounds_toArray, List.set_cons_succ, List.set_cons_zero, Nat.zero_add, Nat.reduceAdd] at hK ⊢
    simp only [vsel, VC, VS, VT, List.getD_eq_getElem?_getD, List.getElem?_cons_zero, List.getElem?_cons_succ, Option.getD_some] at hK
    try simp only [hP] at hK ⊢
    go_wp2
    exact hK _ _ ⟨_, rfl, World.alloc_heap_new _ _⟩ ((Below.refl _ _).alloc (Nat.le_refl _) _)
  refine ops_cons ?_ ?_
  · intro us w1 hle hP K' hK
    simp only [predsV, vsel, VC, VS, VT, List.getD_eq_getElem?_getD, List.getElem?_cons_zero, List.getElem?_cons_succ, Option.getD_some, and_true, true_and, and_self] at hP
    simp only [putAll, List.map_cons, List.map_nil, Act.put, List.setIfInBounds_toArray, List.set_cons_succ, List.set_cons_zero, Nat.zero_add, Nat.reduceAdd] at hK ⊢
    simp only [vsel, VC, VS, VT, List.getD_eq_getElem?_getD, List.getElem?_cons_zero, List.getElem?_cons_succ, Option.getD_some] at hK
    try simp only [hP] at hK ⊢
    obtain ⟨g, hg1, hg2⟩ := hP
    rw [hg1] at hK ⊢
    have hcv := row_string (P := Tryz.prog) (src := 69) (dst := 9) (n := 1) (cap := 1) (bs := [bN r.id.size]) Tryz.underlying69 Tryz.underlying5 Tryz.underlying9 rfl hg2
    clear hg1 hg2
    go_wp2
    exact hK _ _ rfl (Below.refl _ _)
  refine ops_cons ?_ ?_
  · intro us w1 hle hP K' hK
    simp only [predsV, vsel, VC, VS, VT, List.getD_eq_getElem?_getD, List.getElem?_cons_zero, List.getElem?_cons_succ, Option.getD_some, and_true, true_and, and_self] at hP
    simp only [putAll, List.map_cons, List.map_nil, Act.put, List.setIfInBounds_toArray, List.set_cons_succ, List.set_cons_zero, Nat.zero_add, Nat.reduceAdd] at hK ⊢
    simp only [vsel, VC, VS, VT, List.getD_eq_getElem?_getD, List.getElem?_cons_zero, List.getElem?_cons_succ, Option.getD_some] at hK
    try simp only [hP] at hK ⊢
    go_wp2
    exact hK _ _ rfl (Below.refl _ _)
  refine ops_cons ?_ ?_
  · intro us w1 hle hP K' hK
    simp only [predsV, vsel, VC, VS, VT, List.getD_eq_getElem?_getD, List.getElem?_cons_zero, List.getElem?_cons_succ, Option.getD_some, and_true, true_and, and_self] at hP
    simp only [putAll, List.map_cons, List.map_nil, Act.put, List.setIfInBounds_toArray, List.set_cons_succ, List.set_cons_zero, Nat.zero_add, Nat.reduceAdd] at hK ⊢
    simp only [vsel, VC, VS, VT, List.getD_eq_getElem?_getD, List.getElem?_cons_zero, List.getElem?_cons_succ, Option.getD_some] at hK
    try simp only [hP] at hK ⊢
    go_wp2
    exact hK _ _ rfl (Below.refl _ _)
  refine ops_cons ?_ ?_
  · intro us w1 hle hP K' hK
    simp only [predsV, vsel, VC, VS, VT, List.getD_eq_getElem?_getD, List.getElem?_cons_zero, List.getElem?_cons_succ, Option.getD_some, and_true, true_and, and_self] at hP
    simp only [putAll, List.map_cons, List.map_nil, Act.put, List.setIfInBounds_toArray, List.set_cons_succ, List.set_cons_zero, Nat.zero_add, Nat.reduceAdd] at hK ⊢
    simp only [vsel, VC, VS, VT, List.getD_eq_getElem?_getD, List.getElem?_cons_zero, List.getElem?_cons_succ, Option.getD_some] at hK
    try simp only [hP] at hK ⊢
    have k0 := (Lib.cell_of_heap ((hle.block _ hlt).trans HH1.out) 0)
    go_wp2
    exact hK _ _ rfl (Below.refl _ _)
  refine ops_cons ?_ ?_
  · intro us w1 hle hP K' hK
    simp only [predsV, vsel, VC, VS, VT, List.getD_eq_getElem?_getD, List.getElem?_cons_zero, List.getElem?_cons_succ, Option.getD_some, and_true, true_and, and_self] at hP
    simp only [putAll, List.map_cons, List.map_nil, Act.put, List.setIfInBounds_toArray, List.set_cons_succ, List.set_cons_zero, Nat.zero_add, Nat.reduceAdd] at hK ⊢
    simp only [vsel, VC, VS, VT, List.getD_eq_getElem?_getD, List.getElem?_cons_zero, List.getElem?_cons_succ, Option.getD_some] at hK
    try simp only [hP] at hK ⊢
    go_wp2
    exact hK _ _ rfl (Below.refl _ _)
  refine ops_cons ?_ ?_
  · intro us w1 hle hP K' hK
    simp only [predsV, vsel, VC, VS, VT, List.getD_eq_getElem?_getD, List.getElem?_cons_zero, List.getElem?_cons_succ, Option.getD_some, and_true, true_and, and_self] at hP
    simp only [putAll, List.map_cons, List.map_nil, Act.put, List.setIfInBounds_toArray, List.set_cons_succ, List.set_cons_zero, Nat.zero_add, Nat.reduceAdd] at hK ⊢
    simp only [vsel, VC, VS, VT, List.getD_eq_getElem?_getD, List.getElem?_cons_zero, List.getElem?_cons_succ, Option.getD_some] at hK
    try simp only [hP] at hK ⊢
    go_wp2
    exact hK _ _ rfl (Below.refl _ _)
  · exact ops_nil _ _
  · intro us w5 hle hV
    have h34 := hV 34 (by decide)
    simp only [vsel, VC, List.getD_eq_getElem?_getD, List.getElem?_cons_zero, List.getElem?_cons_succ, Option.getD_some] at h34
    have k0 : w5.cell? ⟨w.heap.size, 0, none⟩ = some (.string r.id) := (Lib.cell_of_heap ((hle.block _ hlt).trans HH1.out) 0)
    have k7 : w5.cell? ⟨w.heap.size, 7, none⟩ = some (.string r.use) := (Lib.cell_of_heap ((hle.block _ hlt).trans HH1.out) 7)
    have HBL : Hid (Below w.heap.size w w5) := Lib.hid (bthen (((Below.refl _ w).alloc (Nat.le_refl _) _).trans (HB.out.mono (by simp))) (drew_left hle))
    clear hV hle
    simp only [putAll, List.map_cons, List.map_nil, Act.put, List.setIfInBounds_toArray, List.set_cons_succ, List.set_cons_zero, Nat.zero_add, Nat.reduceAdd, Exit.then]
    have h34b : ∃ S : ByteArray, us 34 = .string S ∧ Hid (S.data.toList = ((encH r n d ++ [bN r.id.size]) ++ r.id.data.toList)) ∧ S.size ≤ 1000 := by
      refine ⟨_, h34, Lib.hid ?_, ?_⟩
      · simp only [encH, HO.out.1, HO.out.2, ByteArray.data_append, Array.toList_append, List.append_assoc]
      · simp only [ByteArray.size_append]
        have e1 : (⟨#[bN n, 0]⟩ : ByteArray).size = 2 := rfl
        have e2 : (⟨#[bN r.flags, 0, 0]⟩ : ByteArray).size = 3 := rfl
        have e3 : (⟨#[bN r.id.size]⟩ : ByteArray).size = 1 := rfl
        omega
    clear h34
    obtain ⟨S, h34, HS, hS⟩ := h34b
    rw [h34]
    clear h34
    generalize us 33 = u33
    rcases HPP.out with ⟨hp, hp2⟩ | ⟨hp, hp2⟩
    · have hfin : Hid (S ++ (⟨#[0]⟩ : ByteArray) ++ r.use = R) := Lib.hid (by
        rw [← HR.out]
        apply ByteArray.ext
        apply Array.toList_inj.1
        simp only [encL, hp2, ByteArray.data_append, Array.toList_append, HS.out, List.append_assoc, List.toList_toArray])
      clear hp2
      have hs1 : S.size + 1 ≤ 2000 := by omega
      go_wp2
      go_ret2
      refine ⟨?_, HBL.out⟩
      rw [← hfin.out]
      rfl
    · have hfin : Hid (S ++ r.use = R) := Lib.hid (by
        rw [← HR.out]
        apply ByteArray.ext
        apply Array.toList_inj.1
        simp only [encL, hp2, ByteArray.data_append, Array.toList_append, HS.out, List.append_assoc, List.toList_toArray, List.nil_append])
      clear hp2
      go_wp2
      go_ret2
      refine ⟨?_, HBL.out⟩
      rw [← hfin.out]
      rfl
end Go.Proofs.YtnmlephjhcmbhaaGreat
namespace Go.Proofs.YtnmlephjhcmbhaaGreat
set_option linter.unusedSimpArgs false
set_option linter.unusedVariables false
open Go Go.RowKit
set_option maxRecDepth 100000 in
set_option maxHeartbeats 2000000 in
theorem renc_bad (r : Rec) (n : Nat) (d : ByteArray) (de : Int) (v1 v2 v3 v4 : Bool) (w : World) (hi : ((r.id.size : Int) == 0) = false) (hu : ((r.use.size : Int) % 2 == 1) = false) (hn : ((n : Int) == 0) = false)
    (c1 : ∀ W : World, Calls Tryz.prog 26 #[cN r.id.size, cN r.use.size] W fun e w' => e = .returned (cN n) ∧ W = w')
    (c2 : ∀ W : World, Calls Tryz.prog 72 #[cN r.time, cN r.zone] W fun e w' => e = .returned (.tuple #[.string d, cN de]) ∧ Below W.heap.size W w')
    (f1 : ∀ W : World, Calls Tryz.prog 73 #[cN r.lba, cN 4294967295] W fun e w' => e = .returned (.bool v1) ∧ W = w')
    (f2 : ∀ W : World, Calls Tryz.prog 73 #[cN r.len, cN 4294967295] W fun e w' => e = .returned (.bool v2) ∧ W = w')
    (f3 : ∀ W : World, Calls Tryz.prog 73 #[cN r.flags, cN 255] W fun e w' => e = .returned (.bool v3) ∧ W = w')
    (f4 : ∀ W : World, Calls Tryz.prog 73 #[cN r.seq, cN 65535] W fun e w' => e = .returned (.bool v4) ∧ W = w')
    (h : v1 = false ∨ (v1 = true ∧ v2 = false) ∨ (v1 = true ∧ v2 = true ∧ v3 = false) ∨ (v1 = true ∧ v2 = true ∧ v3 = true ∧ v4 = false) ∨ (v1 = true ∧ v2 = true ∧ v3 = true ∧ v4 = true ∧ de = 2)) :
    Calls Tryz.prog 49 #[.agg (recA r)] w fun e w' => e = .returned (.tuple #[.string ByteArray.empty, cN 2]) ∧ Below w.heap.size w w' := by
  rcases h with rfl | ⟨rfl, rfl⟩ | ⟨rfl, rfl, rfl⟩ | ⟨rfl, rfl, rfl, rfl⟩ | ⟨rfl, rfl, rfl, rfl, rfl⟩
  all_goals
    go_enter Tryz.func49, Tryz.ntmps49
    have H0 : (w.alloc (.cells (recA r) 45)).heap[w.heap.size]? = some (.cells (recA r) 45 (0, 0)) := World.alloc_heap_new _ _
    go_wp2_with (first | (go_at_call 26; (with_reducible refine (c1 _).mono ?_); rintro e w1 ⟨rfl, rfl⟩) | (go_at_call 72; (with_reducible refine (c2 _).mono ?_); rintro e w1 ⟨rfl, hB⟩; have H1 := (hB.block w.heap.size (by simp)).trans H0; have k0 := Lib.cell_of_heap H1 0; have k1 := Lib.cell_of_heap H1 1; have k2 := Lib.cell_of_heap H1 2; have k5 := Lib.cell_of_heap H1 5; have k6 := Lib.cell_of_heap H1 6; have k7 := Lib.cell_of_heap H1 7; have HB := Lib.hid hB; clear H1 hB) | (go_at_call 73; (with_reducible refine (f1 _).mono ?_); rintro e w1 ⟨rfl, rfl⟩) | (go_at_call 73; (with_reducible refine (f2 _).mono ?_); rintro e w1 ⟨rfl, rfl⟩) | (go_at_call 73; (with_reducible refine (f3 _).mono ?_); rintro e w1 ⟨rfl, rfl⟩) | (go_at_call 73; (with_reducible refine (f4 _).mono ?_); rintro e w1 ⟨rfl, rfl⟩))
    go_ret2
    exact ⟨rfl, ((Below.refl _ w).alloc (Nat.le_refl _) _).trans (HB.out.mono (by simp))⟩
/-- The error of Encode, for the date's error; the string, for the date. -/
def errM (r : Rec) (de : Int) : Int := if r.id.size = 0 ∨ r.use.size % 2 = 1 then 1 else if sizeI r.id.size r.use.size = 0 then 7 else if encX r de = 0 ∧ 0 ≤ r.flags ∧ r.flags ≤ 255 then 0 else 2
def strM (r : Rec) (d : ByteArray) (de : Int) : ByteArray := if errM r de = 0 then ⟨(encL r (sizeI r.id.size r.use.size) d).toArray⟩ else ByteArray.empty
theorem sizeI_le (i u : Int) : sizeI i u = 0 ∨ (34 ≤ sizeI i u ∧ sizeI i u ≤ 254 ∧ 1 ≤ i ∧ i ≤ 254 ∧ 0 ≤ u ∧ u ≤ 254) := by
  unfold sizeI
  split
  · right; omega
  · left; rfl
set_option maxRecDepth 100000 in
set_option maxHeartbeats 400000 in
theorem enc_arg1 (r : Rec) (w : World) (hi : r.id.toList.isEmpty = true) : Calls Tryz.prog 48 #[.agg (recA r)] w fun e w' => e = .returned (.tuple #[.string ByteArray.empty, cN 1]) ∧ Below w.heap.size w w' := by
  go_enter Tryz.func48, Tryz.ntmps48
  go_wp2
  go_ret2
  exact ⟨rfl, (Below.refl _ w).alloc (Nat.le_refl _) _⟩
set_option maxRecDepth 100000 in
set_option maxHeartbeats 400000 in
theorem enc_arg2 (r : Rec) (w : World) (hi : r.id.toList.isEmpty = false) (hu : ((r.use.size : Int) % 2 != 0) = true) : Calls Tryz.prog 48 #[.agg (recA r)] w fun e w' => e = .returned (.tuple #[.string ByteArray.empty, cN 1]) ∧ Below w.heap.size w w' := by
  go_enter Tryz.func48, Tryz.ntmps48
  go_wp2
  go_ret2
  exact ⟨rfl, (Below.refl _ w).alloc (Nat.le_refl _) _⟩
set_option maxRecDepth 100000 in
set_option maxHeartbeats 400000 in
theorem enc_large (r : Rec) (w : World) (hi : r.id.toList.isEmpty = false) (hu : ((r.use.size : Int) % 2 != 0) = false)
    (c1 : ∀ W : World, Calls Tryz.prog 66 #[cN r.id.size, cN r.use.size] W fun e w' => e = .returned (cN 0) ∧ W = w') : Calls Tryz.prog 48 #[.agg (recA r)] w fun e w' => e = .returned (.tuple #[.string ByteArray.empty, cN 7]) ∧ Below w.heap.size w w' := by
  go_enter Tryz.func48, Tryz.ntmps48
  go_wp2_with (go_at_call 66; (with_reducible refine (c1 _).mono ?_); rintro e w1 ⟨rfl, rfl⟩)
  go_ret2
  exact ⟨rfl, (Below.refl _ w).alloc (Nat.le_refl _) _⟩
set_option maxRecDepth 100000 in
set_option maxHeartbeats 400000 in
theorem renc_arg1 (r : Rec) (w : World) (hi : ((r.id.size : Int) == 0) = true) : Calls Tryz.prog 49 #[.agg (recA r)] w fun e w' => e = .returned (.tuple #[.string ByteArray.empty, cN 1]) ∧ Below w.heap.size w w' := by
  go_enter Tryz.func49, Tryz.ntmps49
  go_wp2
  go_ret2
  exact ⟨rfl, (Below.refl _ w).alloc (Nat.le_refl _) _⟩
set_option maxRecDepth 100000 in
set_option maxHeartbeats 400000 in
theorem renc_arg2 (r : Rec) (w : World) (hi : ((r.id.size : Int) == 0) = false) (hu : ((r.use.size : Int) % 2 == 1) = true) : Calls Tryz.prog 49 #[.agg (recA r)] w fun e w' => e = .returned (.tuple #[.string ByteArray.empty, cN 1]) ∧ Below w.heap.size w w' := by
  go_enter Tryz.func49, Tryz.ntmps49
  go_wp2
  go_ret2
  exact ⟨rfl, (Below.refl _ w).alloc (Nat.le_refl _) _⟩
set_option maxRecDepth 100000 in
set_option maxHeartbeats 400000 in
theorem renc_large (r : Rec) (w : World) (hi : ((r.id.size : Int) == 0) = false) (hu : ((r.use.size : Int) % 2 == 1) = false)
    (c1 : ∀ W : World, Calls Tryz.prog 26 #[cN r.id.size, cN r.use.size] W fun e w' => e = .returned (cN 0) ∧ W = w') : Calls Tryz.prog 49 #[.agg (recA r)] w fun e w' => e = .returned (.tuple #[.string ByteArray.empty, cN 7]) ∧ Below w.heap.size w w' := by
  go_enter Tryz.func49, Tryz.ntmps49
  go_wp2_with (go_at_call 26; (with_reducible refine (c1 _).mono ?_); rintro e w1 ⟨rfl, rfl⟩)
  go_ret2
  exact ⟨rfl, (Below.refl _ w).alloc (Nat.le_refl _) _⟩
theorem str_empty (s : ByteArray) : s.toList.isEmpty = decide (s.size = 0) := by
  rw [ByteArray.toList_eq]
  rw [Bool.eq_iff_iff, decide_eq_true_iff, List.isEmpty_iff_length_eq_zero]
  exact Iff.rfl
theorem encX_zero (r : Rec) (de : Int) : encX r de = 0 ↔ de = 0 ∧ inR r.lba 4 = true ∧ inR r.len 4 = true ∧ inR r.seq 2 = true := by
  simp only [encX, wrongs]
  cases inR r.lba 4 <;> cases inR r.len 4 <;> cases inR r.seq 2 <;> simp
theorem errM_arg (r : Rec) (d : ByteArray) (de : Int) (h : r.id.size = 0 ∨ r.use.size % 2 = 1) : errM r de = 1 ∧ strM r d de = ByteArray.empty := by
  have E : errM r de = 1 := by rw [errM, if_pos h]
  exact ⟨E, by rw [strM, E]; rfl⟩
theorem errM_large (r : Rec) (d : ByteArray) (de : Int) (h : ¬ (r.id.size = 0 ∨ r.use.size % 2 = 1)) (h1 : sizeI r.id.size r.use.size = 0) : errM r de = 7 ∧ strM r d de = ByteArray.empty := by
  have E : errM r de = 7 := by rw [errM, if_neg h, if_pos h1]
  exact ⟨E, by rw [strM, E]; rfl⟩
theorem errM_good (r : Rec) (d : ByteArray) (de : Int) (h : ¬ (r.id.size = 0 ∨ r.use.size % 2 = 1)) (h1 : ¬ sizeI r.id.size r.use.size = 0) (h2 : encX r de = 0 ∧ 0 ≤ r.flags ∧ r.flags ≤ 255) : errM r de = 0 ∧ strM r d de = ⟨(encL r (sizeI r.id.size r.use.size) d).toArray⟩ := by
  have E : errM r de = 0 := by rw [errM, if_neg h, if_neg h1, if_pos h2]
  exact ⟨E, by rw [strM, E, if_pos rfl]⟩
theorem errM_range (r : Rec) (d : ByteArray) (de : Int) (h : ¬ (r.id.size = 0 ∨ r.use.size % 2 = 1)) (h1 : ¬ sizeI r.id.size r.use.size = 0) (h2 : ¬ (encX r de = 0 ∧ 0 ≤ r.flags ∧ r.flags ≤ 255)) : errM r de = 2 ∧ strM r d de = ByteArray.empty := by
  have E : errM r de = 2 := by rw [errM, if_neg h, if_neg h1, if_neg h2]
  exact ⟨E, by rw [strM, E]; rfl⟩
theorem encode_ok (r : Rec) (d : ByteArray) (de : Int) (w : World) (hde : de = 0 ∨ de = 2) (hd : d.size ≤ 7) (hid : r.id.size ≤ maxLen) (hus : r.use.size ≤ maxLen)
    (c2 : ∀ W : World, Calls Tryz.prog 67 #[cN r.time, cN r.zone] W fun e w' => e = .returned (.tuple #[.string d, cN de]) ∧ Below W.heap.size W w') :
    Calls Tryz.prog 48 #[.agg (recA r)] w fun e w' => e = .returned (.tuple #[.string (strM r d de), cN (errM r de)]) ∧ Below w.heap.size w w' := by
  by_cases h0 : r.id.size = 0
  · rw [(errM_arg r d de (.inl h0)).1, (errM_arg r d de (.inl h0)).2]
    exact enc_arg1 r w (by rw [str_empty, decide_eq_true h0])
  have hi : r.id.toList.isEmpty = false := by rw [str_empty, decide_eq_false h0]
  by_cases h1 : r.use.size % 2 = 1
  · rw [(errM_arg r d de (.inr h1)).1, (errM_arg r d de (.inr h1)).2]
    exact enc_arg2 r w hi (by rw [bne_iff_ne]; omega)
  have hu : ((r.use.size : Int) % 2 != 0) = false := by rw [bne_eq_false_iff_eq]; omega
  have hno : ¬ (r.id.size = 0 ∨ r.use.size % 2 = 1) := fun h => h.elim h0 h1
  have c1 := fun W => size_ok r.id.size r.use.size W
  rcases sizeI_le r.id.size r.use.size with hs | hs
  · rw [(errM_large r d de hno hs).1, (errM_large r d de hno hs).2]
    rw [hs] at c1
    exact enc_large r w hi hu c1
  obtain ⟨n, hn⟩ : ∃ n : Nat, sizeI r.id.size r.use.size = n := ⟨(sizeI r.id.size r.use.size).toNat, by omega⟩
  have hs0 : ¬ sizeI r.id.size r.use.size = 0 := by omega
  rw [hn] at c1 hs
  have hn0 : ((n : Int) == 0) = false := by rw [beq_eq_false_iff_ne]; omega
  by_cases hg : encX r de = 0 ∧ 0 ≤ r.flags ∧ r.flags ≤ 255
  · rw [(errM_good r d de hno hs0 hg).1, (errM_good r d de hno hs0 hg).2, hn]
    exact enc_good r n d de w hi hu hn0 hd (by omega) (by omega) c1 c2 hg.1 hg.2.1 hg.2.2
  · rw [(errM_range r d de hno hs0 hg).1, (errM_range r d de hno hs0 hg).2]
    rcases encX_cases r hde with hx | hx
    · exact enc_bad2 r n d de w hi hu hn0 hd c1 c2 hx (by omega)
    · exact enc_bad1 r n d de w hi hu hn0 hd c1 c2 hx
theorem inR_dec (z : Int) (k : Nat) (m : Int) (hm : (2 : Int) ^ (8 * k) = m + 1) : decide (0 ≤ z ∧ z ≤ m) = inR z k := by
  rw [inR, hm, decide_eq_decide]
  omega
theorem outs_two (r : Rec) : outs [(r.lba, 4), (r.len, 4)] = (eB r.lba 4).data.toList ++ (eB r.len 4).data.toList := by simp [outs]
theorem outs_one (r : Rec) : outs [(r.seq, 2)] = (eB r.seq 2).data.toList := by simp [outs]
theorem rboth_eB (z : Int) (k : Nat) (hk : k = 1 ∨ k = 2 ∨ k = 4) (h : inR z k = true) (W : World) : Calls Tryz.prog 74 #[cN z, cN k] W fun e w' => e = .returned (.string (eB z k)) ∧ Below W.heap.size W w' := by
  have h' := h
  rw [inR, decide_eq_true_iff] at h'
  have e : z = (z.toNat : Int) := by omega
  have := rboth20_ok z.toNat k W hk (by rw [← e]; exact h'.2)
  rw [← e] at this
  rw [eB, if_pos h]
  exact this
theorem bad_cases {v1 v2 v3 v4 : Bool} {de : Int} {p : Prop} (hde : de = 0 ∨ de = 2) (hp : v3 = true ↔ p) (hg : ¬ ((de = 0 ∧ v1 = true ∧ v2 = true ∧ v4 = true) ∧ p)) :
    v1 = false ∨ (v1 = true ∧ v2 = false) ∨ (v1 = true ∧ v2 = true ∧ v3 = false) ∨ (v1 = true ∧ v2 = true ∧ v3 = true ∧ v4 = false) ∨ (v1 = true ∧ v2 = true ∧ v3 = true ∧ v4 = true ∧ de = 2) := by
  rw [← hp] at hg
  clear hp
  rcases hde with rfl | rfl
  · cases v1 <;> cases v2 <;> cases v3 <;> cases v4 <;> simp at hg ⊢
  · cases v1 <;> cases v2 <;> cases v3 <;> cases v4 <;> simp
theorem rencode_ok (r : Rec) (d : ByteArray) (de : Int) (w : World) (hde : de = 0 ∨ de = 2) (hd : d.size ≤ 7) (hid : r.id.size ≤ maxLen) (hus : r.use.size ≤ maxLen)
    (c2 : ∀ W : World, Calls Tryz.prog 72 #[cN r.time, cN r.zone] W fun e w' => e = .returned (.tuple #[.string d, cN de]) ∧ Below W.heap.size W w') :
    Calls Tryz.prog 49 #[.agg (recA r)] w fun e w' => e = .returned (.tuple #[.string (strM r d de), cN (errM r de)]) ∧ Below w.heap.size w w' := by
  by_cases h0 : r.id.size = 0
  · rw [(errM_arg r d de (.inl h0)).1, (errM_arg r d de (.inl h0)).2]
    exact renc_arg1 r w (by rw [beq_iff_eq]; omega)
  have hi : ((r.id.size : Int) == 0) = false := by rw [beq_eq_false_iff_ne]; omega
  by_cases h1 : r.use.size % 2 = 1
  · rw [(errM_arg r d de (.inr h1)).1, (errM_arg r d de (.inr h1)).2]
    exact renc_arg2 r w hi (by rw [beq_iff_eq]; omega)
  have hu : ((r.use.size : Int) % 2 == 1) = false := by rw [beq_eq_false_iff_ne]; omega
  have hno : ¬ (r.id.size = 0 ∨ r.use.size % 2 = 1) := fun h => h.elim h0 h1
  have c1 := fun W => rsize_ok r.id.size r.use.size W
  rcases sizeI_le r.id.size r.use.size with hs | hs
  · rw [(errM_large r d de hno hs).1, (errM_large r d de hno hs).2]
    rw [hs] at c1
    exact renc_large r w hi hu c1
  obtain ⟨n, hn⟩ : ∃ n : Nat, sizeI r.id.size r.use.size = n := ⟨(sizeI r.id.size r.use.size).toNat, by omega⟩
  have hs0 : ¬ sizeI r.id.size r.use.size = 0 := by omega
  rw [hn] at c1 hs
  have hn0 : ((n : Int) == 0) = false := by rw [beq_eq_false_iff_ne]; omega
  have f1 := fun W => fits20_ok r.lba 4294967295 W
  have f2 := fun W => fits20_ok r.len 4294967295 W
  have f3 := fun W => fits20_ok r.flags 255 W
  have f4 := fun W => fits20_ok r.seq 65535 W
  rw [inR_dec _ 4 _ (by decide)] at f1 f2
  rw [inR_dec _ 2 _ (by decide)] at f4
  by_cases hg : encX r de = 0 ∧ 0 ≤ r.flags ∧ r.flags ≤ 255
  · rw [(errM_good r d de hno hs0 hg).1, (errM_good r d de hno hs0 hg).2, hn]
    obtain ⟨hx, hf0, hf1⟩ := hg
    rw [encX_zero] at hx
    obtain ⟨rfl, i1, i2, i3⟩ := hx
    rw [i1] at f1
    rw [i2] at f2
    rw [i3] at f4
    rw [decide_eq_true ⟨hf0, hf1⟩] at f3
    exact renc_good r n d (eB r.lba 4) (eB r.len 4) (eB r.seq 2) w hi hu hn0 hd (by omega) (by omega) c1 c2 f1 f2 f3 f4 (rboth_eB _ 4 (by decide) i1) (rboth_eB _ 4 (by decide) i2) (rboth_eB _ 2 (by decide) i3)
      (eB_size _ 4) (eB_size _ 4) (Nat.le_trans (eB_size _ 2) (by decide)) (outs_two r) (outs_one r)
  · rw [(errM_range r d de hno hs0 hg).1, (errM_range r d de hno hs0 hg).2]
    refine renc_bad r n d de _ _ _ _ w hi hu hn0 c1 c2 f1 f2 f3 f4 ?_
    rw [encX_zero] at hg
    exact bad_cases hde decide_eq_true_iff hg
end Go.Proofs.YtnmlephjhcmbhaaGreat
