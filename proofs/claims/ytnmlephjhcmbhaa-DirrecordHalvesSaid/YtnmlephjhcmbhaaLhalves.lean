/- DirrecordHalves: for every input the law returns true and leaves its arguments as they were. No condition. -/
import Derived.Test.YtnmlephjhcmbhaaRows
import Derived.Test.YtnmlephjhcmbhaaCl7
import Derived.Test.YtnmlephjhcmbhaaDrv
import Derived.Test.YtnmlephjhcmbhaaOpn
import Derived.Test.YtnmlephjhcmbhaaRgw
import Derived.WalkKit
import Derived.ProofKit
import Derived.OpenShut
import Derived.ShutString
import Derived.ChangeOld
import Derived.Below
namespace Go.Proofs.Ytnmlephjhcmbhaa.dirrecordHalves
set_option linter.unusedSimpArgs false
set_option linter.unusedVariables false
open Go Go.ChangeShapes Go.WideShapes Go.ChangeAt Go.RowKit
open Go.ChangeMaps (open_string shut_string)
set_option maxRecDepth 100000 in
set_option maxHeartbeats 1000000 in
theorem walk_bad (r : Rec) (a b c e0 : Int) (w : World) (he : (e0 != 0) = true)
    (c1 : ∀ W : World, Calls Try.prog 19 #[.agg (recA r)] W fun e w' => e = .returned (.tuple #[.string ByteArray.empty, cN e0]) ∧ Below W.heap.size W w') :
    Calls Try.prog 7 #[.agg (recA r), .int .u8 a, .int .u8 b, .int .u8 c] w fun e w' => e = .returned (.bool true) ∧ Below w.heap.size w w' := by
  go_enter Try.func7, Try.ntmps7
  go_wp2_with (first | (go_at_call 18; (with_reducible refine (awake_ok _).mono ?_); rintro e w1 ⟨rfl, hB1⟩; have H1 := cr8n w r hB1; obtain ⟨q0, q1, q2, q3, q4, q5, q6, q7⟩ := cells8 H1) | (go_at_call 19; (with_reducible refine (c1 _).mono ?_); rintro e w2 ⟨rfl, hB2⟩))
  go_ret
  exact ⟨rfl, bthen (bthen (bal (Below.refl _ w) _) hB1) hB2⟩
set_option maxRecDepth 100000 in
set_option maxHeartbeats 1000000 in
theorem walk_none (r : Rec) (a b : Int) (s : ByteArray) (w : World) (hz : (34 : Int) ≤ s.size)
    (c1 : ∀ W : World, Calls Try.prog 19 #[.agg (recA r)] W fun e w' => e = .returned (.tuple #[.string s, cN 0]) ∧ Below W.heap.size W w') :
    Calls Try.prog 7 #[.agg (recA r), .int .u8 a, .int .u8 b, .int .u8 0] w fun e w' => e = .returned (.bool true) ∧ Below w.heap.size w w' := by
  go_enter Try.func7, Try.ntmps7
  go_wp2_with (first | (go_at_call 18; (with_reducible refine (awake_ok _).mono ?_); rintro e w1 ⟨rfl, hB1⟩; have H1 := cr8n w r hB1; obtain ⟨q0, q1, q2, q3, q4, q5, q6, q7⟩ := cells8 H1) | (go_at_call 19; (with_reducible refine (c1 _).mono ?_); rintro e w2 ⟨rfl, hB2⟩))
  go_ret
  exact ⟨rfl, bthen (bthen (bal (Below.refl _ w) _) hB1) hB2⟩
def VP (cs : Array Value) (T : TypeId) (i : Nat) : World → Value → Prop := fun w v => ∃ g : Nat, v = .pointer (some ⟨g, i, none⟩) ∧ w.heap[g]? = some (.cells cs T (0, 0))
theorem VP_keeps (cs : Array Value) (T : TypeId) (i : Nat) : Keeps (VP cs T i) := fun w w' v hB ⟨g, hv, hg⟩ => ⟨g, hv, (hB.block _ (lt_of_block hg)).trans hg⟩
theorem row_string' {P : Program} {w : World} {B e src dst : Nat} {bs : List UInt8} {tl : List Value} {m : Nat × Nat} {n cap : Nat}
    (hs : P.underlying src = some (.slice e)) (he : P.underlying e = some (.int .u8)) (hd : P.underlying dst = some .string) (hn : bs.length = n)
    (h : w.heap[B]? = some (.cells (cb bs ++ tl).toArray e m)) : (convert src dst (.slice (some ⟨B, 0, none⟩) n cap)).run P w = .ok (.string ⟨bs.toArray⟩) w := by
  rw [run_convert_bytes_arg (P := P) w src e hs he B 0 n cap (bs.map fun b => (b.toNat : Int)) (by simpa using hn) ?_ dst hd]
  · congr 2
    simp only [strOfNums, List.map_map]
    congr 2
    rw [show ((fun n : Int => UInt8.ofNat n.toNat) ∘ fun b : UInt8 => (b.toNat : Int)) = id from by funext b; simp]
    simp
  · intro i hi
    rw [Nat.zero_add, cell_of_row w _ _ _ _ _ h, List.getElem?_toArray, List.getElem?_append_left (by rw [cb_length]; omega)]
    simp [cb, List.getElem?_eq_getElem (show i < bs.length by omega)]
/-- A string's bytes as a slice of the call's own, one byte changed. -/
theorem bytes_changed (s : ByteArray) (j : Nat) (x : UInt8) (W : World) (hj : j < s.size) :
    ∃ (cap : Nat) (cs cs' : Array Value) (f : Nat × Nat), s.size ≤ cap ∧ (convert 9 37 (.string s)).run Try.prog W = .ok (.slice (some ⟨W.heap.size, 0, none⟩) s.size cap) (W.alloc (.cells cs 5 f)).drew
      ∧ (W.alloc (.cells cs 5 f)).drew.cell? ⟨W.heap.size, j, none⟩ = some (.int .u8 ((sU s j).toNat : Int)) ∧ (W.alloc (.cells cs 5 f)).drew.frozen? ⟨W.heap.size, j, none⟩ = false
      ∧ ((W.alloc (.cells cs 5 f)).setCell ⟨W.heap.size, j, none⟩ (.int .u8 (x.toNat : Int))).drew.heap[W.heap.size]? = some (.cells cs' 5 f)
      ∧ ∀ W' : World, W'.heap[W.heap.size]? = some (.cells cs' 5 f) → (convert 37 9 (.slice (some ⟨W.heap.size, 0, none⟩) s.size cap)).run Try.prog W' = .ok (.string ⟨(s.data.toList.set j x).toArray⟩) W' := by
  obtain ⟨cap, tl, m, hc, hm, hcv⟩ := str_bytes (P := Try.prog) (src := 9) (dst := 37) (e := 5) Try.underlying9 Try.underlying37 Try.underlying5 s W
  have hl : s.data.toList.length = s.size := list_size s
  have h6 : (W.alloc (.cells (cb s.data.toList ++ tl).toArray 5 (m, m + 1))).drew.heap[W.heap.size]? = some (.cells (cb s.data.toList ++ tl).toArray 5 (m, m + 1)) := World.alloc_heap_new W _
  have hset := cb_set s.data.toList tl j x (by omega)
  refine ⟨cap, _, (cb (s.data.toList.set j x) ++ tl).toArray, _, hc, hcv, ?_, ?_, ?_, fun W' h' => ?_⟩
  · rw [cell_of_row _ _ _ _ _ _ h6, List.getElem?_toArray, List.getElem?_append_left (by rw [cb_length]; omega), cb_get _ _ (by omega)]
    rfl
  · simp only [World.frozen?, h6]
    rw [Bool.and_eq_false_iff]
    left
    rw [decide_eq_false_iff_not]
    omega
  · rw [← hset]
    exact row_set j _ h6
  · exact row_string' (P := Try.prog) (src := 37) (dst := 9) Try.underlying37 Try.underlying5 Try.underlying9 (by rw [List.length_set]; exact hl) h'
set_option maxRecDepth 100000 in
set_option maxHeartbeats 4000000 in
theorem walk_0 (r : Rec) (a b k : Nat) (v2 : Int) (y : UInt8) (s t1 t2 : ByteArray) (w : World)
    (hz : 34 ≤ s.size) (hz2 : s.size < 256) (hy : y ≠ 0) (ha : a < 256) (hb : b < 256) (hq : (a : Int) % 3 = 0) (hk : (b : Int) % 4 = (k : Int)) (hk4 : k < 4) (ht1 : (⟨(s.data.toList.set (6 + k) (sU s (6 + k) ^^^ y)).toArray⟩ : ByteArray) = t1)
    (hxv : bits BinOp.xor IntKind.i64 r.lba (IntKind.i64.wrap ((y.toNat : Int) * 2 ^ (8 * k))) = v2) (ht2 : (⟨(s.data.toList.set (2 + k) (sU s (2 + k) ^^^ y)).toArray⟩ : ByteArray) = t2)
    (c1 : ∀ W : World, Calls Try.prog 19 #[.agg (recA r)] W fun e w' => e = .returned (.tuple #[.string s, cN 0]) ∧ Below W.heap.size W w')
    (c3 : ∀ W : World, Calls Try.prog 23 #[.string t1] W fun e w' => e = .returned (.tuple #[.agg (recA r), cN s.size, cN 0]) ∧ Below W.heap.size W w')
    (c4 : ∀ W : World, Calls Try.prog 26 #[.string t1] W fun e w' => ∃ v, e = .returned v ∧ IL W [2] v w')
    (c5 : ∀ W : World, Calls Try.prog 23 #[.string t2] W fun e w' => e = .returned (.tuple #[.agg (recA ⟨r.id, v2, r.len, r.time, r.zone, r.flags, r.seq, r.use⟩), cN s.size, cN 0]) ∧ Below W.heap.size W w')
    (c6 : ∀ W : World, Calls Try.prog 26 #[.string t2] W fun e w' => ∃ v, e = .returned v ∧ IL W [2] v w') :
    Calls Try.prog 7 #[.agg (recA r), .int .u8 (a : Int), .int .u8 (b : Int), .int .u8 (y.toNat : Int)] w fun e w' => e = .returned (.bool true) ∧ Below w.heap.size w w' := by
  have hm := recGuard
  have hne := recEq_neq r
  have hq2 : Int.tmod (a : Int) 3 = 0 := by rw [Int.tmod_eq_emod_of_nonneg (by omega)]; exact hq
  have hk2 : Int.tmod (b : Int) 4 = (k : Int) := by rw [Int.tmod_eq_emod_of_nonneg (by omega)]; exact hk
  have hz0 : (34 : Int) ≤ (s.size : Int) := by omega
  have y0 : ((y.toNat : Int) == 0) = false := by rw [beq_eq_false_iff_ne]; exact fun e => hy (UInt8.toNat_inj.1 (by simpa using e))
  go_enter Try.func7, Try.ntmps7
  go_wp2_with (first | (go_at_call 18; (with_reducible refine (awake_ok _).mono ?_); rintro e w1 ⟨rfl, hB1⟩; have H1 := cr8n w r hB1; obtain ⟨q0, q1, q2, q3, q4, q5, q6, q7⟩ := cells8 H1) | (go_at_call 19; (with_reducible refine (c1 _).mono ?_); rintro e w2 ⟨rfl, hB2⟩; have H2 := cr8 H1 hB2))
  apply region_belowW (VS #[cN 2, cN 10, cN 28] 3 3 :: VC _ :: VC (.int .u8 0) :: VP #[cN 2, cN 10, cN 28] 3 0 :: VC (cN 2) :: VS #[cN 4, cN 4, cN 2] 3 3 :: VC _ :: VC (.int .u8 0) :: VP #[cN 4, cN 4, cN 2] 3 0 :: VC (cN 4) :: VC _ :: VC _ :: []) (by kernel_rfl) (by kernel_rfl) (by rintro ⟨_, _, h, _⟩; cases h)
  · repeat (first | exact trivial | (refine KeepsL_cons ?_ ?_; (first | apply VC_keeps | apply VS_keeps | apply VP_keeps)))
  refine ops_cons ?_ ?_
  · intro us w1 hle hP K' hK
    simp only [predsV, vsel, VC, VS, VT, List.getD_eq_getElem?_getD, List.getElem?_cons_zero, List.getElem?_cons_succ, Option.getD_some, and_true, true_and, and_self] at hP
    simp only [putAll, List.map_cons, List.map_nil, Act.put, List.setIfInBounds_toArray, List.set_cons_succ, List.set_cons_zero, Nat.zero_add, Nat.reduceAdd] at hK ⊢
    simp only [vsel, VC, VS, VT, List.getD_eq_getElem?_getD, List.getElem?_cons_zero, List.getElem?_cons_succ, Option.getD_some] at hK
    try simp only [hP] at hK ⊢
    go_wp2
    exact hK _ _ ⟨_, rfl, World.alloc_heap_new _ _⟩ ((Below.refl _ _).alloc (Nat.le_refl _) _)
  refine ops_cons ?_ ?_
  · intro us w1 hle hP K' hK
    simp only [predsV, vsel, VC, VS, VT, List.getD_eq_getElem?_getD, List.getElem?_cons_zero, List.getElem?_cons_succ, Option.getD_some, and_true, true_and, and_self] at hP
    simp only [putAll, List.map_cons, List.map_nil, Act.put, List.setIfInBounds_toArray, List.set_cons_succ, List.set_cons_zero, Nat.zero_add, Nat.reduceAdd] at hK ⊢
    simp only [vsel, VC, VS, VT, List.getD_eq_getElem?_getD, List.getElem?_cons_zero, List.getElem?_cons_succ, Option.getD_some] at hK
    try simp only [hP] at hK ⊢
    go_wp2
    exact hK _ _ rfl (Below.refl _ _)
  refine ops_cons ?_ ?_
  · intro us w1 hle hP K' hK
    simp only [predsV, vsel, VC, VS, VT, List.getD_eq_getElem?_getD, List.getElem?_cons_zero, List.getElem?_cons_succ, Option.getD_some, and_true, true_and, and_self] at hP
    simp only [putAll, List.map_cons, List.map_nil, Act.put, List.setIfInBounds_toArray, List.set_cons_succ, List.set_cons_zero, Nat.zero_add, Nat.reduceAdd] at hK ⊢
    simp only [vsel, VC, VS, VT, List.getD_eq_getElem?_getD, List.getElem?_cons_zero, List.getElem?_cons_succ, Option.getD_some] at hK
    try simp only [hP] at hK ⊢
    go_wp2
    exact hK _ _ rfl (Below.refl _ _)
  refine ops_cons ?_ ?_
  · intro us w1 hle hP K' hK
    simp only [predsV, vsel, VC, VS, VT, List.getD_eq_getElem?_getD, List.getElem?_cons_zero, List.getElem?_cons_succ, Option.getD_some, and_true, true_and, and_self] at hP
    simp only [putAll, List.map_cons, List.map_nil, Act.put, List.setIfInBounds_toArray, List.set_cons_succ, List.set_cons_zero, Nat.zero_add, Nat.reduceAdd] at hK ⊢
    simp only [vsel, VC, VS, VT, List.getD_eq_getElem?_getD, List.getElem?_cons_zero, List.getElem?_cons_succ, Option.getD_some] at hK
    try simp only [hP] at hK ⊢
    obtain ⟨⟨g, hg1, hg2⟩, hr⟩ := hP
    rw [hg1] at hK ⊢
    go_wp2
    exact hK _ _ ⟨g, rfl, hg2⟩ (Below.refl _ _)
  refine ops_cons ?_ ?_
  · intro us w1 hle hP K' hK
    simp only [predsV, vsel, VC, VS, VT, List.getD_eq_getElem?_getD, List.getElem?_cons_zero, List.getElem?_cons_succ, Option.getD_some, and_true, true_and, and_self] at hP
    simp only [putAll, List.map_cons, List.map_nil, Act.put, List.setIfInBounds_toArray, List.set_cons_succ, List.set_cons_zero, Nat.zero_add, Nat.reduceAdd] at hK ⊢
    simp only [vsel, VC, VS, VT, List.getD_eq_getElem?_getD, List.getElem?_cons_zero, List.getElem?_cons_succ, Option.getD_some] at hK
    try simp only [hP] at hK ⊢
    obtain ⟨g, hg1, hg2⟩ := hP
    rw [hg1] at hK ⊢
    have hc := Lib.cell_of_heap hg2 0
    go_wp2
    exact hK _ _ rfl (Below.refl _ _)
  refine ops_cons ?_ ?_
  · intro us w1 hle hP K' hK
    simp only [predsV, vsel, VC, VS, VT, List.getD_eq_getElem?_getD, List.getElem?_cons_zero, List.getElem?_cons_succ, Option.getD_some, and_true, true_and, and_self] at hP
    simp only [putAll, List.map_cons, List.map_nil, Act.put, List.setIfInBounds_toArray, List.set_cons_succ, List.set_cons_zero, Nat.zero_add, Nat.reduceAdd] at hK ⊢
    simp only [vsel, VC, VS, VT, List.getD_eq_getElem?_getD, List.getElem?_cons_zero, List.getElem?_cons_succ, Option.getD_some] at hK
    try simp only [hP] at hK ⊢
    go_wp2
    exact hK _ _ ⟨_, rfl, World.alloc_heap_new _ _⟩ ((Below.refl _ _).alloc (Nat.le_refl _) _)
  refine ops_cons ?_ ?_
  · intro us w1 hle hP K' hK
    simp only [predsV, vsel, VC, VS, VT, List.getD_eq_getElem?_getD, List.getElem?_cons_zero, List.getElem?_cons_succ, Option.getD_some, and_true, true_and, and_self] at hP
    simp only [putAll, List.map_cons, List.map_nil, Act.put, List.setIfInBounds_toArray, List.set_cons_succ, List.set_cons_zero, Nat.zero_add, Nat.reduceAdd] at hK ⊢
    simp only [vsel, VC, VS, VT, List.getD_eq_getElem?_getD, List.getElem?_cons_zero, List.getElem?_cons_succ, Option.getD_some] at hK
    try simp only [hP] at hK ⊢
    go_wp2
    exact hK _ _ rfl (Below.refl _ _)
  refine ops_cons ?_ ?_
  · intro us w1 hle hP K' hK
    simp only [predsV, vsel, VC, VS, VT, List.getD_eq_getElem?_getD, List.getElem?_cons_zero, List.getElem?_cons_succ, Option.getD_some, and_true, true_and, and_self] at hP
    simp only [putAll, List.map_cons, List.map_nil, Act.put, List.setIfInBounds_toArray, List.set_cons_succ, List.set_cons_zero, Nat.zero_add, Nat.reduceAdd] at hK ⊢
    simp only [vsel, VC, VS, VT, List.getD_eq_getElem?_getD, List.getElem?_cons_zero, List.getElem?_cons_succ, Option.getD_some] at hK
    try simp only [hP] at hK ⊢
    go_wp2
    exact hK _ _ rfl (Below.refl _ _)
  refine ops_cons ?_ ?_
  · intro us w1 hle hP K' hK
    simp only [predsV, vsel, VC, VS, VT, List.getD_eq_getElem?_getD, List.getElem?_cons_zero, List.getElem?_cons_succ, Option.getD_some, and_true, true_and, and_self] at hP
    simp only [putAll, List.map_cons, List.map_nil, Act.put, List.setIfInBounds_toArray, List.set_cons_succ, List.set_cons_zero, Nat.zero_add, Nat.reduceAdd] at hK ⊢
    simp only [vsel, VC, VS, VT, List.getD_eq_getElem?_getD, List.getElem?_cons_zero, List.getElem?_cons_succ, Option.getD_some] at hK
    try simp only [hP] at hK ⊢
    obtain ⟨⟨g, hg1, hg2⟩, hr⟩ := hP
    rw [hg1] at hK ⊢
    go_wp2
    exact hK _ _ ⟨g, rfl, hg2⟩ (Below.refl _ _)
  refine ops_cons ?_ ?_
  · intro us w1 hle hP K' hK
    simp only [predsV, vsel, VC, VS, VT, List.getD_eq_getElem?_getD, List.getElem?_cons_zero, List.getElem?_cons_succ, Option.getD_some, and_true, true_and, and_self] at hP
    simp only [putAll, List.map_cons, List.map_nil, Act.put, List.setIfInBounds_toArray, List.set_cons_succ, List.set_cons_zero, Nat.zero_add, Nat.reduceAdd] at hK ⊢
    simp only [vsel, VC, VS, VT, List.getD_eq_getElem?_getD, List.getElem?_cons_zero, List.getElem?_cons_succ, Option.getD_some] at hK
    try simp only [hP] at hK ⊢
    obtain ⟨g, hg1, hg2⟩ := hP
    rw [hg1] at hK ⊢
    have hc := Lib.cell_of_heap hg2 0
    go_wp2
    exact hK _ _ rfl (Below.refl _ _)
  refine ops_cons ?_ ?_
  · intro us w1 hle hP K' hK
    simp only [predsV, vsel, VC, VS, VT, List.getD_eq_getElem?_getD, List.getElem?_cons_zero, List.getElem?_cons_succ, Option.getD_some, and_true, true_and, and_self] at hP
    simp only [putAll, List.map_cons, List.map_nil, Act.put, List.setIfInBounds_toArray, List.set_cons_succ, List.set_cons_zero, Nat.zero_add, Nat.reduceAdd] at hK ⊢
    simp only [vsel, VC, VS, VT, List.getD_eq_getElem?_getD, List.getElem?_cons_zero, List.getElem?_cons_succ, Option.getD_some] at hK
    try simp only [hP] at hK ⊢
    go_wp2
    exact hK _ _ rfl (Below.refl _ _)
  refine ops_cons ?_ ?_
  · intro us w1 hle hP K' hK
    simp only [predsV, vsel, VC, VS, VT, List.getD_eq_getElem?_getD, List.getElem?_cons_zero, List.getElem?_cons_succ, Option.getD_some, and_true, true_and, and_self] at hP
    simp only [putAll, List.map_cons, List.map_nil, Act.put, List.setIfInBounds_toArray, List.set_cons_succ, List.set_cons_zero, Nat.zero_add, Nat.reduceAdd] at hK ⊢
    simp only [vsel, VC, VS, VT, List.getD_eq_getElem?_getD, List.getElem?_cons_zero, List.getElem?_cons_succ, Option.getD_some] at hK
    try simp only [hP] at hK ⊢
    go_wp2
    exact hK _ _ rfl (Below.refl _ _)
  · exact ops_nil _ _
  · intro us w5 hle hV
    have h10 := hV 10 (by decide)
    have h11 := hV 11 (by decide)
    simp only [vsel, VC, List.getD_eq_getElem?_getD, List.getElem?_cons_zero, List.getElem?_cons_succ, Option.getD_some] at h10 h11
    have H5 := cr8 H2 (drew_left hle)
    have HB : Hid (Below w.heap.size w w5) := Lib.hid (bthen (bthen (bthen (bal (Below.refl _ w) _) hB1) hB2) (drew_left hle))
    clear hV hle
    simp only [putAll, List.map_cons, List.map_nil, Act.put, List.setIfInBounds_toArray, List.set_cons_succ, List.set_cons_zero, Nat.zero_add, Nat.reduceAdd, Exit.then]
    rw [h10, h11]
    have a1 : IntKind.i64.wrap (6 + (k : Int)) = 6 + (k : Int) := by rw [IntKind.wrap_i64]; omega
    have a2 : 0 ≤ 6 + (k : Int) := by omega
    have a3 : 6 + (k : Int) < (s.size : Int) := by omega
    have a4 : (6 + (k : Int)).toNat = 6 + k := by omega
    have b1 : IntKind.i64.wrap (b : Int) = (b : Int) := by rw [IntKind.wrap_i64]; omega
    go_wp2
    obtain ⟨cap, cs, cs', fz, hc1, hc2, hc3, hc4, hc5, hc6⟩ := bytes_changed s (6 + k) (sU s (6 + k) ^^^ y) w5 (by omega)
    have hxor : bits BinOp.xor IntKind.u8 ((sU s (6 + k)).toNat : Int) (y.toNat : Int) = ((sU s (6 + k) ^^^ y).toNat : Int) := by
      rw [u8_xor_nat _ _ (UInt8.toNat_lt _) (UInt8.toNat_lt _), UInt8.toNat_xor]
    simp only [ht1] at hc6
    generalize sU s (6 + k) = x0 at *
    generalize x0 ^^^ y = x1 at *
    rw [hc2]
    go_wp2
    rw [hc6 _ hc5]
    have hB7 : Below w5.heap.size w5 ((w5.alloc (.cells cs 5 fz)).setCell ⟨w5.heap.size, 6 + k, none⟩ (.int .u8 (x1.toNat : Int))).drew := (((Below.refl _ w5).alloc (Nat.le_refl _) _).setCell (p := ⟨w5.heap.size, 6 + k, none⟩) (Nat.le_refl _) _).drew
    have H7 := cr8 H5 hB7
    clear hc2 hc3 hc4
    go_wp2_with (first | (go_at_call 23; (with_reducible refine (c3 _).mono ?_); rintro e w8 ⟨rfl, hB8⟩; have G8 := (hB8.block _ (lt_of_block hc5)).trans hc5; have G9 := (Lib.alloc_old w8 (.cells (recA r) 23) _ (lt_of_block G8)).trans G8; have hc8 := hc6 _ G9; have H8 := cr8a (cr8 H7 hB8) (.cells (recA r) 23); obtain ⟨p0, p1, p2, p3, p4, p5, p6, p7⟩ := cells8 H8) | (go_at_call 26; (with_reducible refine (c4 _).mono ?_); rintro e w9 ⟨vv, rfl, hI⟩; have hE1 := (hI.below ((Below.refl _ w9).alloc (Nat.le_refl _) (.cells #[cN 2] 3))).1; have hE2 := own_row (cs := #[cN 2]) (n := 1) [2] rfl rfl (by decide) (World.alloc_heap_new w9 (.cells #[cN 2] 3))))
    refine (equal_own hE1 hE2 (by decide) (by decide)).mono ?_
    rintro e w10 ⟨rfl, hB10⟩
    have hT : ([2] == [2]) = true := by decide
    rw [hT]
    have hB9' : Below (w8.alloc (.cells (recA r) 23)).heap.size (w8.alloc (.cells (recA r) 23)) w10 := bthen (bal hI.2 _) hB10
    have H10 := cr8 H8 hB9'
    have H15 := cr8 (World.alloc_heap_new w8 (.cells (recA r) 23)) hB9'
    have H7' : Hid (w.heap.size < w8.heap.size) := Lib.hid (Nat.lt_of_lt_of_le (lt_of_block H7) hB8.size)
    have H15' : Hid (w8.heap.size < w10.heap.size) := Lib.hid (lt_of_block H15)
    have HC : Hid (Below w.heap.size w w10) := Lib.hid (bthen (bthen (bthen HB.out hB7) (bal hB8 _)) hB9')
    clear hB9' hI hE1 hE2 hB10 hB8 hB7 H8 H7 G8 G9 hc8 hc5 hc6 hT p0 p1 p2 p3 p4 p5 p6 p7
    go_wp2
    obtain ⟨cap2, cs2, cs2', fz2, hd1, hd2, hd3, hd4, hd5, hd6⟩ := bytes_changed s (2 + k) (sU s (2 + k) ^^^ y) w10 (by omega)
    have hxor2 : bits BinOp.xor IntKind.u8 ((sU s (2 + k)).toNat : Int) (y.toNat : Int) = ((sU s (2 + k) ^^^ y).toNat : Int) := by
      rw [u8_xor_nat _ _ (UInt8.toNat_lt _) (UInt8.toNat_lt _), UInt8.toNat_xor]
    simp only [ht2] at hd6
    have e1 : IntKind.i64.wrap (2 + (k : Int)) = 2 + (k : Int) := by rw [IntKind.wrap_i64]; omega
    have e2 : 0 ≤ 2 + (k : Int) := by omega
    have e3 : 2 + (k : Int) < (s.size : Int) := by omega
    have e4 : (2 + (k : Int)).toNat = 2 + k := by omega
    generalize sU s (2 + k) = x2 at *
    generalize x2 ^^^ y = x3 at *
    rw [hd2]
    go_wp2
    rw [hd6 _ hd5]
    have hB12 : Below w10.heap.size w10 ((w10.alloc (.cells cs2 5 fz2)).setCell ⟨w10.heap.size, 2 + k, none⟩ (.int .u8 (x3.toNat : Int))).drew := (((Below.refl _ w10).alloc (Nat.le_refl _) _).setCell (p := ⟨w10.heap.size, 2 + k, none⟩) (Nat.le_refl _) _).drew
    have H12 := cr8 H10 hB12
    have K12 := cr8 H15 hB12
    clear hd2 hd3 hd4
    go_upto_region 16 with (go_at_call 23; (with_reducible refine (c5 _).mono ?_); rintro e w13 ⟨rfl, hB13⟩; have G13 := (hB13.block _ (lt_of_block hd5)).trans hd5; have H13 := cr8 H12 hB13; have K13 := cr8 K12 hB13; obtain ⟨p0, p1, p2, p3, p4, p5, p6, p7⟩ := cells8 K13; have fz := fun j => Lib.frozen_of_heap K13 j)
    obtain ⟨W14, hW⟩ : ∃ W14, put8 w13 w8.heap.size (.string r.id) (cN v2) (cN r.len) (cN r.time) (cN r.zone) (cN r.flags) (cN r.seq) (.string r.use) = W14 := ⟨_, rfl⟩
    show Code.wp Try.prog _ _ _ (put8 w13 w8.heap.size (.string r.id) (cN v2) (cN r.len) (cN r.time) (cN r.zone) (cN r.flags) (cN r.seq) (.string r.use))
    have hn1 : w.heap.size ≠ w8.heap.size := by have := H7'.out; omega
    have hn2 : w10.heap.size ≠ w8.heap.size := by have := H15'.out; omega
    have M15 := set8 K13 (.string r.id) (cN v2) (cN r.len) (cN r.time) (cN r.zone) (cN r.flags) (cN r.seq) (.string r.use)
    have M4 := other8 H13 hn1 (.string r.id) (cN v2) (cN r.len) (cN r.time) (cN r.zone) (cN r.flags) (cN r.seq) (.string r.use)
    have MG := other8 G13 hn2 (.string r.id) (cN v2) (cN r.len) (cN r.time) (cN r.zone) (cN r.flags) (cN r.seq) (.string r.use)
    have MB := below8 (bthen (bthen HC.out hB12) hB13) (Nat.le_of_lt (by have := H7'.out; omega)) (.string r.id) (cN v2) (cN r.len) (cN r.time) (cN r.zone) (cN r.flags) (cN r.seq) (.string r.use)
    rw [hW] at M15 M4 MG MB ⊢
    have MC : Hid (Below w.heap.size w W14) := Lib.hid MB
    clear MB hW K13 H13 G13 hB13 hB12 hd5 H12 K12 fz H10 H15 hB1 hB2 H5 HC HB p0 p1 p2 p3 p4 p5 p6 p7 q0 q1 q2 q3 q4 q5 q6 q7 H1 H2 hc1 hd1 hxor hxor2
    obtain ⟨p0, p1, p2, p3, p4, p5, p6, p7⟩ := cells8 M4
    go_upto_region 18 with (fail)
    obtain ⟨W16, hW⟩ : ∃ W16, (W14.alloc (.cells (recA r) 23)).alloc (.cells #[.pointer (some ⟨W14.heap.size, 1, none⟩), .pointer (some ⟨W14.heap.size, 2, none⟩), .pointer (some ⟨W14.heap.size, 6, none⟩)] 38) = W16 := ⟨_, rfl⟩
    show Code.wp Try.prog _ _ _ ((W14.alloc (.cells (recA r) 23)).alloc (.cells #[.pointer (some ⟨W14.heap.size, 1, none⟩), .pointer (some ⟨W14.heap.size, 2, none⟩), .pointer (some ⟨W14.heap.size, 6, none⟩)] 38))
    have N18 : ((W14.alloc (.cells (recA r) 23)).alloc (.cells #[.pointer (some ⟨W14.heap.size, 1, none⟩), .pointer (some ⟨W14.heap.size, 2, none⟩), .pointer (some ⟨W14.heap.size, 6, none⟩)] 38)).heap[W14.heap.size]? = some (.cells (recA r) 23 (0, 0)) := (Lib.alloc_old _ _ _ (by simp)).trans (World.alloc_heap_new W14 _)
    have N15 : ((W14.alloc (.cells (recA r) 23)).alloc (.cells #[.pointer (some ⟨W14.heap.size, 1, none⟩), .pointer (some ⟨W14.heap.size, 2, none⟩), .pointer (some ⟨W14.heap.size, 6, none⟩)] 38)).heap[w8.heap.size]? = _ := (Lib.alloc_old _ _ _ (by have := lt_of_block M15; simp; omega)).trans ((Lib.alloc_old W14 _ _ (lt_of_block M15)).trans M15)
    have NG : ((W14.alloc (.cells (recA r) 23)).alloc (.cells #[.pointer (some ⟨W14.heap.size, 1, none⟩), .pointer (some ⟨W14.heap.size, 2, none⟩), .pointer (some ⟨W14.heap.size, 6, none⟩)] 38)).heap[w10.heap.size]? = _ := (Lib.alloc_old _ _ _ (by have := lt_of_block MG; simp; omega)).trans ((Lib.alloc_old W14 _ _ (lt_of_block MG)).trans MG)
    have NB : Below w.heap.size w ((W14.alloc (.cells (recA r) 23)).alloc (.cells #[.pointer (some ⟨W14.heap.size, 1, none⟩), .pointer (some ⟨W14.heap.size, 2, none⟩), .pointer (some ⟨W14.heap.size, 6, none⟩)] 38)) := bal (bal MC.out _) _
    have hn3 : w8.heap.size ≠ W14.heap.size := by have := lt_of_block M15; omega
    have hn4 : w10.heap.size ≠ W14.heap.size := by have := lt_of_block MG; omega
    rw [hW] at N18 N15 NG NB ⊢
    have hle : w.heap.size ≤ W14.heap.size := MC.out.size
    have NC : Hid (Below w.heap.size w W16) := Lib.hid NB
    clear hW NB MC M15 MG M4 p0 p1 p2 p3 p4 p5 p6 p7
    generalize W14.heap.size = B at *
    obtain ⟨p0, p1, p2, p3, p4, p5, p6, p7⟩ := cells8 N18
    have f0 := Lib.frozen_of_heap N18 1
    have g1 : IntKind.i64.wrap (8 * (k : Int)) = 8 * (k : Int) := by rw [IntKind.wrap_i64]; omega
    have g2 : (0 : Int) ≤ 8 * (k : Int) := by omega
    have g3 : (8 * (k : Int)).toNat = 8 * k := by omega
    have g4 : IntKind.i64.wrap (y.toNat : Int) = (y.toNat : Int) := by have := UInt8.toNat_lt y; rw [IntKind.wrap_i64]; omega
    refine region_sch (fun w' => w' = W16.drew) [(true, 0), (true, 1), (true, 2), (true, 3), (true, 4), (true, 5), (true, 6), (true, 7), (true, 8), (true, 9)] [10] (by kernel_rfl) (by kernel_rfl) (by rintro ⟨_, _, h, _⟩; cases h) (fun _ _ d _ _ h => by cases d <;> exact h) rfl ?_
    simp only [pickM, pickT, List.filterMap_cons, List.filterMap_nil, List.getElem?_cons_zero, List.getElem?_cons_succ, Option.map_some]
    repeat (refine m_float ⟨?_, .inl ⟨?_, .inl ?_⟩, fun K' hK => ?_⟩; rotate_left; (first | rfl | (go_simp; done)); (intro w' hS; subst hS; go_simp; try rfl); (simp only [Act.put, List.setIfInBounds_toArray, List.set_cons_succ, List.set_cons_zero]; refine hK _ ?_; clear hK K'))
    refine m_nil ?_
    show wpList Try.prog _ _ (List.cons _ _) _ _
    go_upto_region 19 with (fail)
    obtain ⟨W17, hW⟩ : ∃ W17, (W16.setCell ⟨B, 1, none⟩ (.int .i64 v2)).drew = W17 := ⟨_, rfl⟩
    have L18 : (W16.setCell ⟨B, 1, none⟩ (.int .i64 v2)).drew.heap[B]? = some (.cells #[.string r.id, cN v2, cN r.len, cN r.time, cN r.zone, cN r.flags, cN r.seq, .string r.use] 23 (0, 0)) := row_set 1 (.int .i64 v2) N18
    have L15 : (W16.setCell ⟨B, 1, none⟩ (.int .i64 v2)).drew.heap[w8.heap.size]? = some (.cells #[.string r.id, cN v2, cN r.len, cN r.time, cN r.zone, cN r.flags, cN r.seq, .string r.use] 23 (0, 0)) := row_other 1 (.int .i64 v2) N15 hn3
    have LG : (W16.setCell ⟨B, 1, none⟩ (.int .i64 v2)).drew.heap[w10.heap.size]? = some (.cells cs2' 5 fz2) := row_other 1 (.int .i64 v2) NG hn4
    have LB : Below w.heap.size w (W16.setCell ⟨B, 1, none⟩ (.int .i64 v2)).drew := (NC.out.setCell (p := ⟨B, 1, none⟩) hle _).drew
    rw [hW] at L18 L15 LG LB ⊢
    have LC : Hid (Below w.heap.size w W17) := Lib.hid LB
    have hcv := hd6 _ LG
    clear hW LB NC N18 N15 NG LG p0 p1 p2 p3 p4 p5 p6 p7 f0 hd6 hxv
    obtain ⟨p0, p1, p2, p3, p4, p5, p6, p7⟩ := cells8 L18
    obtain ⟨q0, q1, q2, q3, q4, q5, q6, q7⟩ := cells8 L15
    have heq : ∀ W : World, (binOp .eql 23 (.agg #[.string r.id, cN v2, cN r.len, cN r.time, cN r.zone, cN r.flags, cN r.seq, .string r.use]) (.agg #[.string r.id, cN v2, cN r.len, cN r.time, cN r.zone, cN r.flags, cN r.seq, .string r.use])).run Try.prog W = .ok (.bool true) W := fun W => by
      have := rec_eql (⟨r.id, v2, r.len, r.time, r.zone, r.flags, r.seq, r.use⟩ : Rec) ⟨r.id, v2, r.len, r.time, r.zone, r.flags, r.seq, r.use⟩ W
      rwa [recEq_refl] at this
    go_wp2_with (go_at_call 26; (with_reducible refine (c6 _).mono ?_); rintro e w18 ⟨vv2, rfl, hI2⟩; have hE3 := (hI2.below ((Below.refl _ w18).alloc (Nat.le_refl _) (.cells #[cN 2] 3))).1; have hE4 := own_row (cs := #[cN 2]) (n := 1) [2] rfl rfl (by decide) (World.alloc_heap_new w18 (.cells #[cN 2] 3)))
    refine (equal_own hE3 hE4 (by decide) (by decide)).mono ?_
    rintro e w19 ⟨rfl, hB19⟩
    have hT : ([2] == [2]) = true := by decide
    rw [hT]
    go_wp2
    go_ret
    exact ⟨rfl, bthen (bal (bthen LC.out hI2.2) _) hB19⟩
set_option maxRecDepth 100000 in
set_option maxHeartbeats 4000000 in
theorem walk_1 (r : Rec) (a b k : Nat) (v2 : Int) (y : UInt8) (s t1 t2 : ByteArray) (w : World)
    (hz : 34 ≤ s.size) (hz2 : s.size < 256) (hy : y ≠ 0) (ha : a < 256) (hb : b < 256) (hq : (a : Int) % 3 = 1) (hk : (b : Int) % 4 = (k : Int)) (hk4 : k < 4) (ht1 : (⟨(s.data.toList.set (14 + k) (sU s (14 + k) ^^^ y)).toArray⟩ : ByteArray) = t1)
    (hxv : bits BinOp.xor IntKind.i64 r.len (IntKind.i64.wrap ((y.toNat : Int) * 2 ^ (8 * k))) = v2) (ht2 : (⟨(s.data.toList.set (10 + k) (sU s (10 + k) ^^^ y)).toArray⟩ : ByteArray) = t2)
    (c1 : ∀ W : World, Calls Try.prog 19 #[.agg (recA r)] W fun e w' => e = .returned (.tuple #[.string s, cN 0]) ∧ Below W.heap.size W w')
    (c3 : ∀ W : World, Calls Try.prog 23 #[.string t1] W fun e w' => e = .returned (.tuple #[.agg (recA r), cN s.size, cN 0]) ∧ Below W.heap.size W w')
    (c4 : ∀ W : World, Calls Try.prog 26 #[.string t1] W fun e w' => ∃ v, e = .returned v ∧ IL W [10] v w')
    (c5 : ∀ W : World, Calls Try.prog 23 #[.string t2] W fun e w' => e = .returned (.tuple #[.agg (recA ⟨r.id, r.lba, v2, r.time, r.zone, r.flags, r.seq, r.use⟩), cN s.size, cN 0]) ∧ Below W.heap.size W w')
    (c6 : ∀ W : World, Calls Try.prog 26 #[.string t2] W fun e w' => ∃ v, e = .returned v ∧ IL W [10] v w') :
    Calls Try.prog 7 #[.agg (recA r), .int .u8 (a : Int), .int .u8 (b : Int), .int .u8 (y.toNat : Int)] w fun e w' => e = .returned (.bool true) ∧ Below w.heap.size w w' := by
  have hm := recGuard
  have hne := recEq_neq r
  have hq2 : Int.tmod (a : Int) 3 = 1 := by rw [Int.tmod_eq_emod_of_nonneg (by omega)]; exact hq
  have hk2 : Int.tmod (b : Int) 4 = (k : Int) := by rw [Int.tmod_eq_emod_of_nonneg (by omega)]; exact hk
  have hz0 : (34 : Int) ≤ (s.size : Int) := by omega
  have y0 : ((y.toNat : Int) == 0) = false := by rw [beq_eq_false_iff_ne]; exact fun e => hy (UInt8.toNat_inj.1 (by simpa using e))
  go_enter Try.func7, Try.ntmps7
  go_wp2_with (first | (go_at_call 18; (with_reducible refine (awake_ok _).mono ?_); rintro e w1 ⟨rfl, hB1⟩; have H1 := cr8n w r hB1; obtain ⟨q0, q1, q2, q3, q4, q5, q6, q7⟩ := cells8 H1) | (go_at_call 19; (with_reducible refine (c1 _).mono ?_); rintro e w2 ⟨rfl, hB2⟩; have H2 := cr8 H1 hB2))
  apply region_belowW (VS #[cN 2, cN 10, cN 28] 3 3 :: VC _ :: VC (.int .u8 1) :: VP #[cN 2, cN 10, cN 28] 3 1 :: VC (cN 10) :: VS #[cN 4, cN 4, cN 2] 3 3 :: VC _ :: VC (.int .u8 1) :: VP #[cN 4, cN 4, cN 2] 3 1 :: VC (cN 4) :: VC _ :: VC _ :: []) (by kernel_rfl) (by kernel_rfl) (by rintro ⟨_, _, h, _⟩; cases h)
  · repeat (first | exact trivial | (refine KeepsL_cons ?_ ?_; (first | apply VC_keeps | apply VS_keeps | apply VP_keeps)))
  refine ops_cons ?_ ?_
  · intro us w1 hle hP K' hK
    simp only [predsV, vsel, VC, VS, VT, List.getD_eq_getElem?_getD, List.getElem?_cons_zero, List.getElem?_cons_succ, Option.getD_some, and_true, true_and, and_self] at hP
    simp only [putAll, List.map_cons, List.map_nil, Act.put, List.setIfInBounds_toArray, List.set_cons_succ, List.set_cons_zero, Nat.zero_add, Nat.reduceAdd] at hK ⊢
    simp only [vsel, VC, VS, VT, List.getD_eq_getElem?_getD, List.getElem?_cons_zero, List.getElem?_cons_succ, Option.getD_some] at hK
    try simp only [hP] at hK ⊢
    go_wp2
    exact hK _ _ ⟨_, rfl, World.alloc_heap_new _ _⟩ ((Below.refl _ _).alloc (Nat.le_refl _) _)
  refine ops_cons ?_ ?_
  · intro us w1 hle hP K' hK
    simp only [predsV, vsel, VC, VS, VT, List.getD_eq_getElem?_getD, List.getElem?_cons_zero, List.getElem?_cons_succ, Option.getD_some, and_true, true_and, and_self] at hP
    simp only [putAll, List.map_cons, List.map_nil, Act.put, List.setIfInBounds_toArray, List.set_cons_succ, List.set_cons_zero, Nat.zero_add, Nat.reduceAdd] at hK ⊢
    simp only [vsel, VC, VS, VT, List.getD_eq_getElem?_getD, List.getElem?_cons_zero, List.getElem?_cons_succ, Option.getD_some] at hK
    try simp only [hP] at hK ⊢
    go_wp2
    exact hK _ _ rfl (Below.refl _ _)
  refine ops_cons ?_ ?_
  · intro us w1 hle hP K' hK
    simp only [predsV, vsel, VC, VS, VT, List.getD_eq_getElem?_getD, List.getElem?_cons_zero, List.getElem?_cons_succ, Option.getD_some, and_true, true_and, and_self] at hP
    simp only [putAll, List.map_cons, List.map_nil, Act.put, List.setIfInBounds_toArray, List.set_cons_succ, List.set_cons_zero, Nat.zero_add, Nat.reduceAdd] at hK ⊢
    simp only [vsel, VC, VS, VT, List.getD_eq_getElem?_getD, List.getElem?_cons_zero, List.getElem?_cons_succ, Option.getD_some] at hK
    try simp only [hP] at hK ⊢
    go_wp2
    exact hK _ _ rfl (Below.refl _ _)
  refine ops_cons ?_ ?_
  · intro us w1 hle hP K' hK
    simp only [predsV, vsel, VC, VS, VT, List.getD_eq_getElem?_getD, List.getElem?_cons_zero, List.getElem?_cons_succ, Option.getD_some, and_true, true_and, and_self] at hP
    simp only [putAll, List.map_cons, List.map_nil, Act.put, List.setIfInBounds_toArray, List.set_cons_succ, List.set_cons_zero, Nat.zero_add, Nat.reduceAdd] at hK ⊢
    simp only [vsel, VC, VS, VT, List.getD_eq_getElem?_getD, List.getElem?_cons_zero, List.getElem?_cons_succ, Option.getD_some] at hK
    try simp only [hP] at hK ⊢
    obtain ⟨⟨g, hg1, hg2⟩, hr⟩ := hP
    rw [hg1] at hK ⊢
    go_wp2
    exact hK _ _ ⟨g, rfl, hg2⟩ (Below.refl _ _)
  refine ops_cons ?_ ?_
  · intro us w1 hle hP K' hK
    simp only [predsV, vsel, VC, VS, VT, List.getD_eq_getElem?_getD, List.getElem?_cons_zero, List.getElem?_cons_succ, Option.getD_some, and_true, true_and, and_self] at hP
    simp only [putAll, List.map_cons, List.map_nil, Act.put, List.setIfInBounds_toArray, List.set_cons_succ, List.set_cons_zero, Nat.zero_add, Nat.reduceAdd] at hK ⊢
    simp only [vsel, VC, VS, VT, List.getD_eq_getElem?_getD, List.getElem?_cons_zero, List.getElem?_cons_succ, Option.getD_some] at hK
    try simp only [hP] at hK ⊢
    obtain ⟨g, hg1, hg2⟩ := hP
    rw [hg1] at hK ⊢
    have hc := Lib.cell_of_heap hg2 1
    go_wp2
    exact hK _ _ rfl (Below.refl _ _)
  refine ops_cons ?_ ?_
  · intro us w1 hle hP K' hK
    simp only [predsV, vsel, VC, VS, VT, List.getD_eq_getElem?_getD, List.getElem?_cons_zero, List.getElem?_cons_succ, Option.getD_some, and_true, true_and, and_self] at hP
    simp only [putAll, List.map_cons, List.map_nil, Act.put, List.setIfInBounds_toArray, List.set_cons_succ, List.set_cons_zero, Nat.zero_add, Nat.reduceAdd] at hK ⊢
    simp only [vsel, VC, VS, VT, List.getD_eq_getElem?_getD, List.getElem?_cons_zero, List.getElem?_cons_succ, Option.getD_some] at hK
    try simp only [hP] at hK ⊢
    go_wp2
    exact hK _ _ ⟨_, rfl, World.alloc_heap_new _ _⟩ ((Below.refl _ _).alloc (Nat.le_refl _) _)
  refine ops_cons ?_ ?_
  · intro us w1 hle hP K' hK
    simp only [predsV, vsel, VC, VS, VT, List.getD_eq_getElem?_getD, List.getElem?_cons_zero, List.getElem?_cons_succ, Option.getD_some, and_true, true_and, and_self] at hP
    simp only [putAll, List.map_cons, List.map_nil, Act.put, List.setIfInBounds_toArray, List.set_cons_succ, List.set_cons_zero, Nat.zero_add, Nat.reduceAdd] at hK ⊢
    simp only [vsel, VC, VS, VT, List.getD_eq_getElem?_getD, List.getElem?_cons_zero, List.getElem?_cons_succ, Option.getD_some] at hK
    try simp only [hP] at hK ⊢
    go_wp2
    exact hK _ _ rfl (Below.refl _ _)
  refine ops_cons ?_ ?_
  · intro us w1 hle hP K' hK
    simp only [predsV, vsel, VC, VS, VT, List.getD_eq_getElem?_getD, List.getElem?_cons_zero, List.getElem?_cons_succ, Option.getD_some, and_true, true_and, and_self] at hP
    simp only [putAll, List.map_cons, List.map_nil, Act.put, List.setIfInBounds_toArray, List.set_cons_succ, List.set_cons_zero, Nat.zero_add, Nat.reduceAdd] at hK ⊢
    simp only [vsel, VC, VS, VT, List.getD_eq_getElem?_getD, List.getElem?_cons_zero, List.getElem?_cons_succ, Option.getD_some] at hK
    try simp only [hP] at hK ⊢
    go_wp2
    exact hK _ _ rfl (Below.refl _ _)
  refine ops_cons ?_ ?_
  · intro us w1 hle hP K' hK
    simp only [predsV, vsel, VC, VS, VT, List.getD_eq_getElem?_getD, List.getElem?_cons_zero, List.getElem?_cons_succ, Option.getD_some, and_true, true_and, and_self] at hP
    simp only [putAll, List.map_cons, List.map_nil, Act.put, List.setIfInBounds_toArray, List.set_cons_succ, List.set_cons_zero, Nat.zero_add, Nat.reduceAdd] at hK ⊢
    simp only [vsel, VC, VS, VT, List.getD_eq_getElem?_getD, List.getElem?_cons_zero, List.getElem?_cons_succ, Option.getD_some] at hK
    try simp only [hP] at hK ⊢
    obtain ⟨⟨g, hg1, hg2⟩, hr⟩ := hP
    rw [hg1] at hK ⊢
    go_wp2
    exact hK _ _ ⟨g, rfl, hg2⟩ (Below.refl _ _)
  refine ops_cons ?_ ?_
  · intro us w1 hle hP K' hK
    simp only [predsV, vsel, VC, VS, VT, List.getD_eq_getElem?_getD, List.getElem?_cons_zero, List.getElem?_cons_succ, Option.getD_some, and_true, true_and, and_self] at hP
    simp only [putAll, List.map_cons, List.map_nil, Act.put, List.setIfInBounds_toArray, List.set_cons_succ, List.set_cons_zero, Nat.zero_add, Nat.reduceAdd] at hK ⊢
    simp only [vsel, VC, VS, VT, List.getD_eq_getElem?_getD, List.getElem?_cons_zero, List.getElem?_cons_succ, Option.getD_some] at hK
    try simp only [hP] at hK ⊢
    obtain ⟨g, hg1, hg2⟩ := hP
    rw [hg1] at hK ⊢
    have hc := Lib.cell_of_heap hg2 1
    go_wp2
    exact hK _ _ rfl (Below.refl _ _)
  refine ops_cons ?_ ?_
  · intro us w1 hle hP K' hK
    simp only [predsV, vsel, VC, VS, VT, List.getD_eq_getElem?_getD, List.getElem?_cons_zero, List.getElem?_cons_succ, Option.getD_some, and_true, true_and, and_self] at hP
    simp only [putAll, List.map_cons, List.map_nil, Act.put, List.setIfInBounds_toArray, List.set_cons_succ, List.set_cons_zero, Nat.zero_add, Nat.reduceAdd] at hK ⊢
    simp only [vsel, VC, VS, VT, List.getD_eq_getElem?_getD, List.getElem?_cons_zero, List.getElem?_cons_succ, Option.getD_some] at hK
    try simp only [hP] at hK ⊢
    go_wp2
    exact hK _ _ rfl (Below.refl _ _)
  refine ops_cons ?_ ?_
  · intro us w1 hle hP K' hK
    simp only [predsV, vsel, VC, VS, VT, List.getD_eq_getElem?_getD, List.getElem?_cons_zero, List.getElem?_cons_succ, Option.getD_some, and_true, true_and, and_self] at hP
    simp only [putAll, List.map_cons, List.map_nil, Act.put, List.setIfInBounds_toArray, List.set_cons_succ, List.set_cons_zero, Nat.zero_add, Nat.reduceAdd] at hK ⊢
    simp only [vsel, VC, VS, VT, List.getD_eq_getElem?_getD, List.getElem?_cons_zero, List.getElem?_cons_succ, Option.getD_some] at hK
    try simp only [hP] at hK ⊢
    go_wp2
    exact hK _ _ rfl (Below.refl _ _)
  · exact ops_nil _ _
  · intro us w5 hle hV
    have h10 := hV 10 (by decide)
    have h11 := hV 11 (by decide)
    simp only [vsel, VC, List.getD_eq_getElem?_getD, List.getElem?_cons_zero, List.getElem?_cons_succ, Option.getD_some] at h10 h11
    have H5 := cr8 H2 (drew_left hle)
    have HB : Hid (Below w.heap.size w w5) := Lib.hid (bthen (bthen (bthen (bal (Below.refl _ w) _) hB1) hB2) (drew_left hle))
    clear hV hle
    simp only [putAll, List.map_cons, List.map_nil, Act.put, List.setIfInBounds_toArray, List.set_cons_succ, List.set_cons_zero, Nat.zero_add, Nat.reduceAdd, Exit.then]
    rw [h10, h11]
    have a1 : IntKind.i64.wrap (14 + (k : Int)) = 14 + (k : Int) := by rw [IntKind.wrap_i64]; omega
    have a2 : 0 ≤ 14 + (k : Int) := by omega
    have a3 : 14 + (k : Int) < (s.size : Int) := by omega
    have a4 : (14 + (k : Int)).toNat = 14 + k := by omega
    have b1 : IntKind.i64.wrap (b : Int) = (b : Int) := by rw [IntKind.wrap_i64]; omega
    go_wp2
    obtain ⟨cap, cs, cs', fz, hc1, hc2, hc3, hc4, hc5, hc6⟩ := bytes_changed s (14 + k) (sU s (14 + k) ^^^ y) w5 (by omega)
    have hxor : bits BinOp.xor IntKind.u8 ((sU s (14 + k)).toNat : Int) (y.toNat : Int) = ((sU s (14 + k) ^^^ y).toNat : Int) := by
      rw [u8_xor_nat _ _ (UInt8.toNat_lt _) (UInt8.toNat_lt _), UInt8.toNat_xor]
    simp only [ht1] at hc6
    generalize sU s (14 + k) = x0 at *
    generalize x0 ^^^ y = x1 at *
    rw [hc2]
    go_wp2
    rw [hc6 _ hc5]
    have hB7 : Below w5.heap.size w5 ((w5.alloc (.cells cs 5 fz)).setCell ⟨w5.heap.size, 14 + k, none⟩ (.int .u8 (x1.toNat : Int))).drew := (((Below.refl _ w5).alloc (Nat.le_refl _) _).setCell (p := ⟨w5.heap.size, 14 + k, none⟩) (Nat.le_refl _) _).drew
    have H7 := cr8 H5 hB7
    clear hc2 hc3 hc4
    go_wp2_with (first | (go_at_call 23; (with_reducible refine (c3 _).mono ?_); rintro e w8 ⟨rfl, hB8⟩; have G8 := (hB8.block _ (lt_of_block hc5)).trans hc5; have G9 := (Lib.alloc_old w8 (.cells (recA r) 23) _ (lt_of_block G8)).trans G8; have hc8 := hc6 _ G9; have H8 := cr8a (cr8 H7 hB8) (.cells (recA r) 23); obtain ⟨p0, p1, p2, p3, p4, p5, p6, p7⟩ := cells8 H8) | (go_at_call 26; (with_reducible refine (c4 _).mono ?_); rintro e w9 ⟨vv, rfl, hI⟩; have hE1 := (hI.below ((Below.refl _ w9).alloc (Nat.le_refl _) (.cells #[cN 10] 3))).1; have hE2 := own_row (cs := #[cN 10]) (n := 1) [10] rfl rfl (by decide) (World.alloc_heap_new w9 (.cells #[cN 10] 3))))
    refine (equal_own hE1 hE2 (by decide) (by decide)).mono ?_
    rintro e w10 ⟨rfl, hB10⟩
    have hT : ([10] == [10]) = true := by decide
    rw [hT]
    have hB9' : Below (w8.alloc (.cells (recA r) 23)).heap.size (w8.alloc (.cells (recA r) 23)) w10 := bthen (bal hI.2 _) hB10
    have H10 := cr8 H8 hB9'
    have H15 := cr8 (World.alloc_heap_new w8 (.cells (recA r) 23)) hB9'
    have H7' : Hid (w.heap.size < w8.heap.size) := Lib.hid (Nat.lt_of_lt_of_le (lt_of_block H7) hB8.size)
    have H15' : Hid (w8.heap.size < w10.heap.size) := Lib.hid (lt_of_block H15)
    have HC : Hid (Below w.heap.size w w10) := Lib.hid (bthen (bthen (bthen HB.out hB7) (bal hB8 _)) hB9')
    clear hB9' hI hE1 hE2 hB10 hB8 hB7 H8 H7 G8 G9 hc8 hc5 hc6 hT p0 p1 p2 p3 p4 p5 p6 p7
    go_wp2
    obtain ⟨cap2, cs2, cs2', fz2, hd1, hd2, hd3, hd4, hd5, hd6⟩ := bytes_changed s (10 + k) (sU s (10 + k) ^^^ y) w10 (by omega)
    have hxor2 : bits BinOp.xor IntKind.u8 ((sU s (10 + k)).toNat : Int) (y.toNat : Int) = ((sU s (10 + k) ^^^ y).toNat : Int) := by
      rw [u8_xor_nat _ _ (UInt8.toNat_lt _) (UInt8.toNat_lt _), UInt8.toNat_xor]
    simp only [ht2] at hd6
    have e1 : IntKind.i64.wrap (10 + (k : Int)) = 10 + (k : Int) := by rw [IntKind.wrap_i64]; omega
    have e2 : 0 ≤ 10 + (k : Int) := by omega
    have e3 : 10 + (k : Int) < (s.size : Int) := by omega
    have e4 : (10 + (k : Int)).toNat = 10 + k := by omega
    generalize sU s (10 + k) = x2 at *
    generalize x2 ^^^ y = x3 at *
    rw [hd2]
    go_wp2
    rw [hd6 _ hd5]
    have hB12 : Below w10.heap.size w10 ((w10.alloc (.cells cs2 5 fz2)).setCell ⟨w10.heap.size, 10 + k, none⟩ (.int .u8 (x3.toNat : Int))).drew := (((Below.refl _ w10).alloc (Nat.le_refl _) _).setCell (p := ⟨w10.heap.size, 10 + k, none⟩) (Nat.le_refl _) _).drew
    have H12 := cr8 H10 hB12
    have K12 := cr8 H15 hB12
    clear hd2 hd3 hd4
    go_upto_region 16 with (go_at_call 23; (with_reducible refine (c5 _).mono ?_); rintro e w13 ⟨rfl, hB13⟩; have G13 := (hB13.block _ (lt_of_block hd5)).trans hd5; have H13 := cr8 H12 hB13; have K13 := cr8 K12 hB13; obtain ⟨p0, p1, p2, p3, p4, p5, p6, p7⟩ := cells8 K13; have fz := fun j => Lib.frozen_of_heap K13 j)
    obtain ⟨W14, hW⟩ : ∃ W14, put8 w13 w8.heap.size (.string r.id) (cN r.lba) (cN v2) (cN r.time) (cN r.zone) (cN r.flags) (cN r.seq) (.string r.use) = W14 := ⟨_, rfl⟩
    show Code.wp Try.prog _ _ _ (put8 w13 w8.heap.size (.string r.id) (cN r.lba) (cN v2) (cN r.time) (cN r.zone) (cN r.flags) (cN r.seq) (.string r.use))
    have hn1 : w.heap.size ≠ w8.heap.size := by have := H7'.out; omega
    have hn2 : w10.heap.size ≠ w8.heap.size := by have := H15'.out; omega
    have M15 := set8 K13 (.string r.id) (cN r.lba) (cN v2) (cN r.time) (cN r.zone) (cN r.flags) (cN r.seq) (.string r.use)
    have M4 := other8 H13 hn1 (.string r.id) (cN r.lba) (cN v2) (cN r.time) (cN r.zone) (cN r.flags) (cN r.seq) (.string r.use)
    have MG := other8 G13 hn2 (.string r.id) (cN r.lba) (cN v2) (cN r.time) (cN r.zone) (cN r.flags) (cN r.seq) (.string r.use)
    have MB := below8 (bthen (bthen HC.out hB12) hB13) (Nat.le_of_lt (by have := H7'.out; omega)) (.string r.id) (cN r.lba) (cN v2) (cN r.time) (cN r.zone) (cN r.flags) (cN r.seq) (.string r.use)
    rw [hW] at M15 M4 MG MB ⊢
    have MC : Hid (Below w.heap.size w W14) := Lib.hid MB
    clear MB hW K13 H13 G13 hB13 hB12 hd5 H12 K12 fz H10 H15 hB1 hB2 H5 HC HB p0 p1 p2 p3 p4 p5 p6 p7 q0 q1 q2 q3 q4 q5 q6 q7 H1 H2 hc1 hd1 hxor hxor2
    obtain ⟨p0, p1, p2, p3, p4, p5, p6, p7⟩ := cells8 M4
    go_upto_region 18 with (fail)
    obtain ⟨W16, hW⟩ : ∃ W16, (W14.alloc (.cells (recA r) 23)).alloc (.cells #[.pointer (some ⟨W14.heap.size, 1, none⟩), .pointer (some ⟨W14.heap.size, 2, none⟩), .pointer (some ⟨W14.heap.size, 6, none⟩)] 38) = W16 := ⟨_, rfl⟩
    show Code.wp Try.prog _ _ _ ((W14.alloc (.cells (recA r) 23)).alloc (.cells #[.pointer (some ⟨W14.heap.size, 1, none⟩), .pointer (some ⟨W14.heap.size, 2, none⟩), .pointer (some ⟨W14.heap.size, 6, none⟩)] 38))
    have N18 : ((W14.alloc (.cells (recA r) 23)).alloc (.cells #[.pointer (some ⟨W14.heap.size, 1, none⟩), .pointer (some ⟨W14.heap.size, 2, none⟩), .pointer (some ⟨W14.heap.size, 6, none⟩)] 38)).heap[W14.heap.size]? = some (.cells (recA r) 23 (0, 0)) := (Lib.alloc_old _ _ _ (by simp)).trans (World.alloc_heap_new W14 _)
    have N15 : ((W14.alloc (.cells (recA r) 23)).alloc (.cells #[.pointer (some ⟨W14.heap.size, 1, none⟩), .pointer (some ⟨W14.heap.size, 2, none⟩), .pointer (some ⟨W14.heap.size, 6, none⟩)] 38)).heap[w8.heap.size]? = _ := (Lib.alloc_old _ _ _ (by have := lt_of_block M15; simp; omega)).trans ((Lib.alloc_old W14 _ _ (lt_of_block M15)).trans M15)
    have NG : ((W14.alloc (.cells (recA r) 23)).alloc (.cells #[.pointer (some ⟨W14.heap.size, 1, none⟩), .pointer (some ⟨W14.heap.size, 2, none⟩), .pointer (some ⟨W14.heap.size, 6, none⟩)] 38)).heap[w10.heap.size]? = _ := (Lib.alloc_old _ _ _ (by have := lt_of_block MG; simp; omega)).trans ((Lib.alloc_old W14 _ _ (lt_of_block MG)).trans MG)
    have NB : Below w.heap.size w ((W14.alloc (.cells (recA r) 23)).alloc (.cells #[.pointer (some ⟨W14.heap.size, 1, none⟩), .pointer (some ⟨W14.heap.size, 2, none⟩), .pointer (some ⟨W14.heap.size, 6, none⟩)] 38)) := bal (bal MC.out _) _
    have hn3 : w8.heap.size ≠ W14.heap.size := by have := lt_of_block M15; omega
    have hn4 : w10.heap.size ≠ W14.heap.size := by have := lt_of_block MG; omega
    rw [hW] at N18 N15 NG NB ⊢
    have hle : w.heap.size ≤ W14.heap.size := MC.out.size
    have NC : Hid (Below w.heap.size w W16) := Lib.hid NB
    clear hW NB MC M15 MG M4 p0 p1 p2 p3 p4 p5 p6 p7
    generalize W14.heap.size = B at *
    obtain ⟨p0, p1, p2, p3, p4, p5, p6, p7⟩ := cells8 N18
    have f0 := Lib.frozen_of_heap N18 2
    have g1 : IntKind.i64.wrap (8 * (k : Int)) = 8 * (k : Int) := by rw [IntKind.wrap_i64]; omega
    have g2 : (0 : Int) ≤ 8 * (k : Int) := by omega
    have g3 : (8 * (k : Int)).toNat = 8 * k := by omega
    have g4 : IntKind.i64.wrap (y.toNat : Int) = (y.toNat : Int) := by have := UInt8.toNat_lt y; rw [IntKind.wrap_i64]; omega
    refine region_sch (fun w' => w' = W16.drew) [(true, 0), (true, 1), (true, 2), (true, 3), (true, 4), (true, 5), (true, 6), (true, 7), (true, 8), (true, 9)] [10] (by kernel_rfl) (by kernel_rfl) (by rintro ⟨_, _, h, _⟩; cases h) (fun _ _ d _ _ h => by cases d <;> exact h) rfl ?_
    simp only [pickM, pickT, List.filterMap_cons, List.filterMap_nil, List.getElem?_cons_zero, List.getElem?_cons_succ, Option.map_some]
    repeat (refine m_float ⟨?_, .inl ⟨?_, .inl ?_⟩, fun K' hK => ?_⟩; rotate_left; (first | rfl | (go_simp; done)); (intro w' hS; subst hS; go_simp; try rfl); (simp only [Act.put, List.setIfInBounds_toArray, List.set_cons_succ, List.set_cons_zero]; refine hK _ ?_; clear hK K'))
    refine m_nil ?_
    show wpList Try.prog _ _ (List.cons _ _) _ _
    go_upto_region 19 with (fail)
    obtain ⟨W17, hW⟩ : ∃ W17, (W16.setCell ⟨B, 2, none⟩ (.int .i64 v2)).drew = W17 := ⟨_, rfl⟩
    have L18 : (W16.setCell ⟨B, 2, none⟩ (.int .i64 v2)).drew.heap[B]? = some (.cells #[.string r.id, cN r.lba, cN v2, cN r.time, cN r.zone, cN r.flags, cN r.seq, .string r.use] 23 (0, 0)) := row_set 2 (.int .i64 v2) N18
    have L15 : (W16.setCell ⟨B, 2, none⟩ (.int .i64 v2)).drew.heap[w8.heap.size]? = some (.cells #[.string r.id, cN r.lba, cN v2, cN r.time, cN r.zone, cN r.flags, cN r.seq, .string r.use] 23 (0, 0)) := row_other 2 (.int .i64 v2) N15 hn3
    have LG : (W16.setCell ⟨B, 2, none⟩ (.int .i64 v2)).drew.heap[w10.heap.size]? = some (.cells cs2' 5 fz2) := row_other 2 (.int .i64 v2) NG hn4
    have LB : Below w.heap.size w (W16.setCell ⟨B, 2, none⟩ (.int .i64 v2)).drew := (NC.out.setCell (p := ⟨B, 2, none⟩) hle _).drew
    rw [hW] at L18 L15 LG LB ⊢
    have LC : Hid (Below w.heap.size w W17) := Lib.hid LB
    have hcv := hd6 _ LG
    clear hW LB NC N18 N15 NG LG p0 p1 p2 p3 p4 p5 p6 p7 f0 hd6 hxv
    obtain ⟨p0, p1, p2, p3, p4, p5, p6, p7⟩ := cells8 L18
    obtain ⟨q0, q1, q2, q3, q4, q5, q6, q7⟩ := cells8 L15
    have heq : ∀ W : World, (binOp .eql 23 (.agg #[.string r.id, cN r.lba, cN v2, cN r.time, cN r.zone, cN r.flags, cN r.seq, .string r.use]) (.agg #[.string r.id, cN r.lba, cN v2, cN r.time, cN r.zone, cN r.flags, cN r.seq, .string r.use])).run Try.prog W = .ok (.bool true) W := fun W => by
      have := rec_eql (⟨r.id, r.lba, v2, r.time, r.zone, r.flags, r.seq, r.use⟩ : Rec) ⟨r.id, r.lba, v2, r.time, r.zone, r.flags, r.seq, r.use⟩ W
      rwa [recEq_refl] at this
    go_wp2_with (go_at_call 26; (with_reducible refine (c6 _).mono ?_); rintro e w18 ⟨vv2, rfl, hI2⟩; have hE3 := (hI2.below ((Below.refl _ w18).alloc (Nat.le_refl _) (.cells #[cN 10] 3))).1; have hE4 := own_row (cs := #[cN 10]) (n := 1) [10] rfl rfl (by decide) (World.alloc_heap_new w18 (.cells #[cN 10] 3)))
    refine (equal_own hE3 hE4 (by decide) (by decide)).mono ?_
    rintro e w19 ⟨rfl, hB19⟩
    have hT : ([10] == [10]) = true := by decide
    rw [hT]
    go_wp2
    go_ret
    exact ⟨rfl, bthen (bal (bthen LC.out hI2.2) _) hB19⟩
set_option maxRecDepth 100000 in
set_option maxHeartbeats 4000000 in
theorem walk_2 (r : Rec) (a b k : Nat) (v2 : Int) (y : UInt8) (s t1 t2 : ByteArray) (w : World)
    (hz : 34 ≤ s.size) (hz2 : s.size < 256) (hy : y ≠ 0) (ha : a < 256) (hb : b < 256) (hq : (a : Int) % 3 = 2) (hk : (b : Int) % 2 = (k : Int)) (hk4 : k < 2) (ht1 : (⟨(s.data.toList.set (30 + k) (sU s (30 + k) ^^^ y)).toArray⟩ : ByteArray) = t1)
    (hxv : bits BinOp.xor IntKind.i64 r.seq (IntKind.i64.wrap ((y.toNat : Int) * 2 ^ (8 * k))) = v2) (ht2 : (⟨(s.data.toList.set (28 + k) (sU s (28 + k) ^^^ y)).toArray⟩ : ByteArray) = t2)
    (c1 : ∀ W : World, Calls Try.prog 19 #[.agg (recA r)] W fun e w' => e = .returned (.tuple #[.string s, cN 0]) ∧ Below W.heap.size W w')
    (c3 : ∀ W : World, Calls Try.prog 23 #[.string t1] W fun e w' => e = .returned (.tuple #[.agg (recA r), cN s.size, cN 0]) ∧ Below W.heap.size W w')
    (c4 : ∀ W : World, Calls Try.prog 26 #[.string t1] W fun e w' => ∃ v, e = .returned v ∧ IL W [28] v w')
    (c5 : ∀ W : World, Calls Try.prog 23 #[.string t2] W fun e w' => e = .returned (.tuple #[.agg (recA ⟨r.id, r.lba, r.len, r.time, r.zone, r.flags, v2, r.use⟩), cN s.size, cN 0]) ∧ Below W.heap.size W w')
    (c6 : ∀ W : World, Calls Try.prog 26 #[.string t2] W fun e w' => ∃ v, e = .returned v ∧ IL W [28] v w') :
    Calls Try.prog 7 #[.agg (recA r), .int .u8 (a : Int), .int .u8 (b : Int), .int .u8 (y.toNat : Int)] w fun e w' => e = .returned (.bool true) ∧ Below w.heap.size w w' := by
  have hm := recGuard
  have hne := recEq_neq r
  have hq2 : Int.tmod (a : Int) 3 = 2 := by rw [Int.tmod_eq_emod_of_nonneg (by omega)]; exact hq
  have hk2 : Int.tmod (b : Int) 2 = (k : Int) := by rw [Int.tmod_eq_emod_of_nonneg (by omega)]; exact hk
  have hz0 : (34 : Int) ≤ (s.size : Int) := by omega
  have y0 : ((y.toNat : Int) == 0) = false := by rw [beq_eq_false_iff_ne]; exact fun e => hy (UInt8.toNat_inj.1 (by simpa using e))
  go_enter Try.func7, Try.ntmps7
  go_wp2_with (first | (go_at_call 18; (with_reducible refine (awake_ok _).mono ?_); rintro e w1 ⟨rfl, hB1⟩; have H1 := cr8n w r hB1; obtain ⟨q0, q1, q2, q3, q4, q5, q6, q7⟩ := cells8 H1) | (go_at_call 19; (with_reducible refine (c1 _).mono ?_); rintro e w2 ⟨rfl, hB2⟩; have H2 := cr8 H1 hB2))
  apply region_belowW (VS #[cN 2, cN 10, cN 28] 3 3 :: VC _ :: VC (.int .u8 2) :: VP #[cN 2, cN 10, cN 28] 3 2 :: VC (cN 28) :: VS #[cN 4, cN 4, cN 2] 3 3 :: VC _ :: VC (.int .u8 2) :: VP #[cN 4, cN 4, cN 2] 3 2 :: VC (cN 2) :: VC _ :: VC _ :: []) (by kernel_rfl) (by kernel_rfl) (by rintro ⟨_, _, h, _⟩; cases h)
  · repeat (first | exact trivial | (refine KeepsL_cons ?_ ?_; (first | apply VC_keeps | apply VS_keeps | apply VP_keeps)))
  refine ops_cons ?_ ?_
  · intro us w1 hle hP K' hK
    simp only [predsV, vsel, VC, VS, VT, List.getD_eq_getElem?_getD, List.getElem?_cons_zero, List.getElem?_cons_succ, Option.getD_some, and_true, true_and, and_self] at hP
    simp only [putAll, List.map_cons, List.map_nil, Act.put, List.setIfInBounds_toArray, List.set_cons_succ, List.set_cons_zero, Nat.zero_add, Nat.reduceAdd] at hK ⊢
    simp only [vsel, VC, VS, VT, List.getD_eq_getElem?_getD, List.getElem?_cons_zero, List.getElem?_cons_succ, Option.getD_some] at hK
    try simp only [hP] at hK ⊢
    go_wp2
    exact hK _ _ ⟨_, rfl, World.alloc_heap_new _ _⟩ ((Below.refl _ _).alloc (Nat.le_refl _) _)
  refine ops_cons ?_ ?_
  · intro us w1 hle hP K' hK
    simp only [predsV, vsel, VC, VS, VT, List.getD_eq_getElem?_getD, List.getElem?_cons_zero, List.getElem?_cons_succ, Option.getD_some, and_true, true_and, and_self] at hP
    simp only [putAll, List.map_cons, List.map_nil, Act.put, List.setIfInBounds_toArray, List.set_cons_succ, List.set_cons_zero, Nat.zero_add, Nat.reduceAdd] at hK ⊢
    simp only [vsel, VC, VS, VT, List.getD_eq_getElem?_getD, List.getElem?_cons_zero, List.getElem?_cons_succ, Option.getD_some] at hK
    try simp only [hP] at hK ⊢
    go_wp2
    exact hK _ _ rfl (Below.refl _ _)
  refine ops_cons ?_ ?_
  · intro us w1 hle hP K' hK
    simp only [predsV, vsel, VC, VS, VT, List.getD_eq_getElem?_getD, List.getElem?_cons_zero, List.getElem?_cons_succ, Option.getD_some, and_true, true_and, and_self] at hP
    simp only [putAll, List.map_cons, List.map_nil, Act.put, List.setIfInBounds_toArray, List.set_cons_succ, List.set_cons_zero, Nat.zero_add, Nat.reduceAdd] at hK ⊢
    simp only [vsel, VC, VS, VT, List.getD_eq_getElem?_getD, List.getElem?_cons_zero, List.getElem?_cons_succ, Option.getD_some] at hK
    try simp only [hP] at hK ⊢
    go_wp2
    exact hK _ _ rfl (Below.refl _ _)
  refine ops_cons ?_ ?_
  · intro us w1 hle hP K' hK
    simp only [predsV, vsel, VC, VS, VT, List.getD_eq_getElem?_getD, List.getElem?_cons_zero, List.getElem?_cons_succ, Option.getD_some, and_true, true_and, and_self] at hP
    simp only [putAll, List.map_cons, List.map_nil, Act.put, List.setIfInBounds_toArray, List.set_cons_succ, List.set_cons_zero, Nat.zero_add, Nat.reduceAdd] at hK ⊢
    simp only [vsel, VC, VS, VT, List.getD_eq_getElem?_getD, List.getElem?_cons_zero, List.getElem?_cons_succ, Option.getD_some] at hK
    try simp only [hP] at hK ⊢
    obtain ⟨⟨g, hg1, hg2⟩, hr⟩ := hP
    rw [hg1] at hK ⊢
    go_wp2
    exact hK _ _ ⟨g, rfl, hg2⟩ (Below.refl _ _)
  refine ops_cons ?_ ?_
  · intro us w1 hle hP K' hK
    simp only [predsV, vsel, VC, VS, VT, List.getD_eq_getElem?_getD, List.getElem?_cons_zero, List.getElem?_cons_succ, Option.getD_some, and_true, true_and, and_self] at hP
    simp only [putAll, List.map_cons, List.map_nil, Act.put, List.setIfInBounds_toArray, List.set_cons_succ, List.set_cons_zero, Nat.zero_add, Nat.reduceAdd] at hK ⊢
    simp only [vsel, VC, VS, VT, List.getD_eq_getElem?_getD, List.getElem?_cons_zero, List.getElem?_cons_succ, Option.getD_some] at hK
    try simp only [hP] at hK ⊢
    obtain ⟨g, hg1, hg2⟩ := hP
    rw [hg1] at hK ⊢
    have hc := Lib.cell_of_heap hg2 2
    go_wp2
    exact hK _ _ rfl (Below.refl _ _)
  refine ops_cons ?_ ?_
  · intro us w1 hle hP K' hK
    simp only [predsV, vsel, VC, VS, VT, List.getD_eq_getElem?_getD, List.getElem?_cons_zero, List.getElem?_cons_succ, Option.getD_some, and_true, true_and, and_self] at hP
    simp only [putAll, List.map_cons, List.map_nil, Act.put, List.setIfInBounds_toArray, List.set_cons_succ, List.set_cons_zero, Nat.zero_add, Nat.reduceAdd] at hK ⊢
    simp only [vsel, VC, VS, VT, List.getD_eq_getElem?_getD, List.getElem?_cons_zero, List.getElem?_cons_succ, Option.getD_some] at hK
    try simp only [hP] at hK ⊢
    go_wp2
    exact hK _ _ ⟨_, rfl, World.alloc_heap_new _ _⟩ ((Below.refl _ _).alloc (Nat.le_refl _) _)
  refine ops_cons ?_ ?_
  · intro us w1 hle hP K' hK
    simp only [predsV, vsel, VC, VS, VT, List.getD_eq_getElem?_getD, List.getElem?_cons_zero, List.getElem?_cons_succ, Option.getD_some, and_true, true_and, and_self] at hP
    simp only [putAll, List.map_cons, List.map_nil, Act.put, List.setIfInBounds_toArray, List.set_cons_succ, List.set_cons_zero, Nat.zero_add, Nat.reduceAdd] at hK ⊢
    simp only [vsel, VC, VS, VT, List.getD_eq_getElem?_getD, List.getElem?_cons_zero, List.getElem?_cons_succ, Option.getD_some] at hK
    try simp only [hP] at hK ⊢
    go_wp2
    exact hK _ _ rfl (Below.refl _ _)
  refine ops_cons ?_ ?_
  · intro us w1 hle hP K' hK
    simp only [predsV, vsel, VC, VS, VT, List.getD_eq_getElem?_getD, List.getElem?_cons_zero, List.getElem?_cons_succ, Option.getD_some, and_true, true_and, and_self] at hP
    simp only [putAll, List.map_cons, List.map_nil, Act.put, List.setIfInBounds_toArray, List.set_cons_succ, List.set_cons_zero, Nat.zero_add, Nat.reduceAdd] at hK ⊢
    simp only [vsel, VC, VS, VT, List.getD_eq_getElem?_getD, List.getElem?_cons_zero, List.getElem?_cons_succ, Option.getD_some] at hK
    try simp only [hP] at hK ⊢
    go_wp2
    exact hK _ _ rfl (Below.refl _ _)
  refine ops_cons ?_ ?_
  · intro us w1 hle hP K' hK
    simp only [predsV, vsel, VC, VS, VT, List.getD_eq_getElem?_getD, List.getElem?_cons_zero, List.getElem?_cons_succ, Option.getD_some, and_true, true_and, and_self] at hP
    simp only [putAll, List.map_cons, List.map_nil, Act.put, List.setIfInBounds_toArray, List.set_cons_succ, List.set_cons_zero, Nat.zero_add, Nat.reduceAdd] at hK ⊢
    simp only [vsel, VC, VS, VT, List.getD_eq_getElem?_getD, List.getElem?_cons_zero, List.getElem?_cons_succ, Option.getD_some] at hK
    try simp only [hP] at hK ⊢
    obtain ⟨⟨g, hg1, hg2⟩, hr⟩ := hP
    rw [hg1] at hK ⊢
    go_wp2
    exact hK _ _ ⟨g, rfl, hg2⟩ (Below.refl _ _)
  refine ops_cons ?_ ?_
  · intro us w1 hle hP K' hK
    simp only [predsV, vsel, VC, VS, VT, List.getD_eq_getElem?_getD, List.getElem?_cons_zero, List.getElem?_cons_succ, Option.getD_some, and_true, true_and, and_self] at hP
    simp only [putAll, List.map_cons, List.map_nil, Act.put, List.setIfInBounds_toArray, List.set_cons_succ, List.set_cons_zero, Nat.zero_add, Nat.reduceAdd] at hK ⊢
    simp only [vsel, VC, VS, VT, List.getD_eq_getElem?_getD, List.getElem?_cons_zero, List.getElem?_cons_succ, Option.getD_some] at hK
    try simp only [hP] at hK ⊢
    obtain ⟨g, hg1, hg2⟩ := hP
    rw [hg1] at hK ⊢
    have hc := Lib.cell_of_heap hg2 2
    go_wp2
    exact hK _ _ rfl (Below.refl _ _)
  refine ops_cons ?_ ?_
  · intro us w1 hle hP K' hK
    simp only [predsV, vsel, VC, VS, VT, List.getD_eq_getElem?_getD, List.getElem?_cons_zero, List.getElem?_cons_succ, Option.getD_some, and_true, true_and, and_self] at hP
    simp only [putAll, List.map_cons, List.map_nil, Act.put, List.setIfInBounds_toArray, List.set_cons_succ, List.set_cons_zero, Nat.zero_add, Nat.reduceAdd] at hK ⊢
    simp only [vsel, VC, VS, VT, List.getD_eq_getElem?_getD, List.getElem?_cons_zero, List.getElem?_cons_succ, Option.getD_some] at hK
    try simp only [hP] at hK ⊢
    go_wp2
    exact hK _ _ rfl (Below.refl _ _)
  refine ops_cons ?_ ?_
  · intro us w1 hle hP K' hK
    simp only [predsV, vsel, VC, VS, VT, List.getD_eq_getElem?_getD, List.getElem?_cons_zero, List.getElem?_cons_succ, Option.getD_some, and_true, true_and, and_self] at hP
    simp only [putAll, List.map_cons, List.map_nil, Act.put, List.setIfInBounds_toArray, List.set_cons_succ, List.set_cons_zero, Nat.zero_add, Nat.reduceAdd] at hK ⊢
    simp only [vsel, VC, VS, VT, List.getD_eq_getElem?_getD, List.getElem?_cons_zero, List.getElem?_cons_succ, Option.getD_some] at hK
    try simp only [hP] at hK ⊢
    go_wp2
    exact hK _ _ rfl (Below.refl _ _)
  · exact ops_nil _ _
  · intro us w5 hle hV
    have h10 := hV 10 (by decide)
    have h11 := hV 11 (by decide)
    simp only [vsel, VC, List.getD_eq_getElem?_getD, List.getElem?_cons_zero, List.getElem?_cons_succ, Option.getD_some] at h10 h11
    have H5 := cr8 H2 (drew_left hle)
    have HB : Hid (Below w.heap.size w w5) := Lib.hid (bthen (bthen (bthen (bal (Below.refl _ w) _) hB1) hB2) (drew_left hle))
    clear hV hle
    simp only [putAll, List.map_cons, List.map_nil, Act.put, List.setIfInBounds_toArray, List.set_cons_succ, List.set_cons_zero, Nat.zero_add, Nat.reduceAdd, Exit.then]
    rw [h10, h11]
    have a1 : IntKind.i64.wrap (30 + (k : Int)) = 30 + (k : Int) := by rw [IntKind.wrap_i64]; omega
    have a2 : 0 ≤ 30 + (k : Int) := by omega
    have a3 : 30 + (k : Int) < (s.size : Int) := by omega
    have a4 : (30 + (k : Int)).toNat = 30 + k := by omega
    have b1 : IntKind.i64.wrap (b : Int) = (b : Int) := by rw [IntKind.wrap_i64]; omega
    go_wp2
    obtain ⟨cap, cs, cs', fz, hc1, hc2, hc3, hc4, hc5, hc6⟩ := bytes_changed s (30 + k) (sU s (30 + k) ^^^ y) w5 (by omega)
    have hxor : bits BinOp.xor IntKind.u8 ((sU s (30 + k)).toNat : Int) (y.toNat : Int) = ((sU s (30 + k) ^^^ y).toNat : Int) := by
      rw [u8_xor_nat _ _ (UInt8.toNat_lt _) (UInt8.toNat_lt _), UInt8.toNat_xor]
    simp only [ht1] at hc6
    generalize sU s (30 + k) = x0 at *
    generalize x0 ^^^ y = x1 at *
    rw [hc2]
    go_wp2
    rw [hc6 _ hc5]
    have hB7 : Below w5.heap.size w5 ((w5.alloc (.cells cs 5 fz)).setCell ⟨w5.heap.size, 30 + k, none⟩ (.int .u8 (x1.toNat : Int))).drew := (((Below.refl _ w5).alloc (Nat.le_refl _) _).setCell (p := ⟨w5.heap.size, 30 + k, none⟩) (Nat.le_refl _) _).drew
    have H7 := cr8 H5 hB7
    clear hc2 hc3 hc4
    go_wp2_with (first | (go_at_call 23; (with_reducible refine (c3 _).mono ?_); rintro e w8 ⟨rfl, hB8⟩; have G8 := (hB8.block _ (lt_of_block hc5)).trans hc5; have G9 := (Lib.alloc_old w8 (.cells (recA r) 23) _ (lt_of_block G8)).trans G8; have hc8 := hc6 _ G9; have H8 := cr8a (cr8 H7 hB8) (.cells (recA r) 23); obtain ⟨p0, p1, p2, p3, p4, p5, p6, p7⟩ := cells8 H8) | (go_at_call 26; (with_reducible refine (c4 _).mono ?_); rintro e w9 ⟨vv, rfl, hI⟩; have hE1 := (hI.below ((Below.refl _ w9).alloc (Nat.le_refl _) (.cells #[cN 28] 3))).1; have hE2 := own_row (cs := #[cN 28]) (n := 1) [28] rfl rfl (by decide) (World.alloc_heap_new w9 (.cells #[cN 28] 3))))
    refine (equal_own hE1 hE2 (by decide) (by decide)).mono ?_
    rintro e w10 ⟨rfl, hB10⟩
    have hT : ([28] == [28]) = true := by decide
    rw [hT]
    have hB9' : Below (w8.alloc (.cells (recA r) 23)).heap.size (w8.alloc (.cells (recA r) 23)) w10 := bthen (bal hI.2 _) hB10
    have H10 := cr8 H8 hB9'
    have H15 := cr8 (World.alloc_heap_new w8 (.cells (recA r) 23)) hB9'
    have H7' : Hid (w.heap.size < w8.heap.size) := Lib.hid (Nat.lt_of_lt_of_le (lt_of_block H7) hB8.size)
    have H15' : Hid (w8.heap.size < w10.heap.size) := Lib.hid (lt_of_block H15)
    have HC : Hid (Below w.heap.size w w10) := Lib.hid (bthen (bthen (bthen HB.out hB7) (bal hB8 _)) hB9')
    clear hB9' hI hE1 hE2 hB10 hB8 hB7 H8 H7 G8 G9 hc8 hc5 hc6 hT p0 p1 p2 p3 p4 p5 p6 p7
    go_wp2
    obtain ⟨cap2, cs2, cs2', fz2, hd1, hd2, hd3, hd4, hd5, hd6⟩ := bytes_changed s (28 + k) (sU s (28 + k) ^^^ y) w10 (by omega)
    have hxor2 : bits BinOp.xor IntKind.u8 ((sU s (28 + k)).toNat : Int) (y.toNat : Int) = ((sU s (28 + k) ^^^ y).toNat : Int) := by
      rw [u8_xor_nat _ _ (UInt8.toNat_lt _) (UInt8.toNat_lt _), UInt8.toNat_xor]
    simp only [ht2] at hd6
    have e1 : IntKind.i64.wrap (28 + (k : Int)) = 28 + (k : Int) := by rw [IntKind.wrap_i64]; omega
    have e2 : 0 ≤ 28 + (k : Int) := by omega
    have e3 : 28 + (k : Int) < (s.size : Int) := by omega
    have e4 : (28 + (k : Int)).toNat = 28 + k := by omega
    generalize sU s (28 + k) = x2 at *
    generalize x2 ^^^ y = x3 at *
    rw [hd2]
    go_wp2
    rw [hd6 _ hd5]
    have hB12 : Below w10.heap.size w10 ((w10.alloc (.cells cs2 5 fz2)).setCell ⟨w10.heap.size, 28 + k, none⟩ (.int .u8 (x3.toNat : Int))).drew := (((Below.refl _ w10).alloc (Nat.le_refl _) _).setCell (p := ⟨w10.heap.size, 28 + k, none⟩) (Nat.le_refl _) _).drew
    have H12 := cr8 H10 hB12
    have K12 := cr8 H15 hB12
    clear hd2 hd3 hd4
    go_upto_region 16 with (go_at_call 23; (with_reducible refine (c5 _).mono ?_); rintro e w13 ⟨rfl, hB13⟩; have G13 := (hB13.block _ (lt_of_block hd5)).trans hd5; have H13 := cr8 H12 hB13; have K13 := cr8 K12 hB13; obtain ⟨p0, p1, p2, p3, p4, p5, p6, p7⟩ := cells8 K13; have fz := fun j => Lib.frozen_of_heap K13 j)
    obtain ⟨W14, hW⟩ : ∃ W14, put8 w13 w8.heap.size (.string r.id) (cN r.lba) (cN r.len) (cN r.time) (cN r.zone) (cN r.flags) (cN v2) (.string r.use) = W14 := ⟨_, rfl⟩
    show Code.wp Try.prog _ _ _ (put8 w13 w8.heap.size (.string r.id) (cN r.lba) (cN r.len) (cN r.time) (cN r.zone) (cN r.flags) (cN v2) (.string r.use))
    have hn1 : w.heap.size ≠ w8.heap.size := by have := H7'.out; omega
    have hn2 : w10.heap.size ≠ w8.heap.size := by have := H15'.out; omega
    have M15 := set8 K13 (.string r.id) (cN r.lba) (cN r.len) (cN r.time) (cN r.zone) (cN r.flags) (cN v2) (.string r.use)
    have M4 := other8 H13 hn1 (.string r.id) (cN r.lba) (cN r.len) (cN r.time) (cN r.zone) (cN r.flags) (cN v2) (.string r.use)
    have MG := other8 G13 hn2 (.string r.id) (cN r.lba) (cN r.len) (cN r.time) (cN r.zone) (cN r.flags) (cN v2) (.string r.use)
    have MB := below8 (bthen (bthen HC.out hB12) hB13) (Nat.le_of_lt (by have := H7'.out; omega)) (.string r.id) (cN r.lba) (cN r.len) (cN r.time) (cN r.zone) (cN r.flags) (cN v2) (.string r.use)
    rw [hW] at M15 M4 MG MB ⊢
    have MC : Hid (Below w.heap.size w W14) := Lib.hid MB
    clear MB hW K13 H13 G13 hB13 hB12 hd5 H12 K12 fz H10 H15 hB1 hB2 H5 HC HB p0 p1 p2 p3 p4 p5 p6 p7 q0 q1 q2 q3 q4 q5 q6 q7 H1 H2 hc1 hd1 hxor hxor2
    obtain ⟨p0, p1, p2, p3, p4, p5, p6, p7⟩ := cells8 M4
    go_upto_region 18 with (fail)
    obtain ⟨W16, hW⟩ : ∃ W16, (W14.alloc (.cells (recA r) 23)).alloc (.cells #[.pointer (some ⟨W14.heap.size, 1, none⟩), .pointer (some ⟨W14.heap.size, 2, none⟩), .pointer (some ⟨W14.heap.size, 6, none⟩)] 38) = W16 := ⟨_, rfl⟩
    show Code.wp Try.prog _ _ _ ((W14.alloc (.cells (recA r) 23)).alloc (.cells #[.pointer (some ⟨W14.heap.size, 1, none⟩), .pointer (some ⟨W14.heap.size, 2, none⟩), .pointer (some ⟨W14.heap.size, 6, none⟩)] 38))
    have N18 : ((W14.alloc (.cells (recA r) 23)).alloc (.cells #[.pointer (some ⟨W14.heap.size, 1, none⟩), .pointer (some ⟨W14.heap.size, 2, none⟩), .pointer (some ⟨W14.heap.size, 6, none⟩)] 38)).heap[W14.heap.size]? = some (.cells (recA r) 23 (0, 0)) := (Lib.alloc_old _ _ _ (by simp)).trans (World.alloc_heap_new W14 _)
    have N15 : ((W14.alloc (.cells (recA r) 23)).alloc (.cells #[.pointer (some ⟨W14.heap.size, 1, none⟩), .pointer (some ⟨W14.heap.size, 2, none⟩), .pointer (some ⟨W14.heap.size, 6, none⟩)] 38)).heap[w8.heap.size]? = _ := (Lib.alloc_old _ _ _ (by have := lt_of_block M15; simp; omega)).trans ((Lib.alloc_old W14 _ _ (lt_of_block M15)).trans M15)
    have NG : ((W14.alloc (.cells (recA r) 23)).alloc (.cells #[.pointer (some ⟨W14.heap.size, 1, none⟩), .pointer (some ⟨W14.heap.size, 2, none⟩), .pointer (some ⟨W14.heap.size, 6, none⟩)] 38)).heap[w10.heap.size]? = _ := (Lib.alloc_old _ _ _ (by have := lt_of_block MG; simp; omega)).trans ((Lib.alloc_old W14 _ _ (lt_of_block MG)).trans MG)
    have NB : Below w.heap.size w ((W14.alloc (.cells (recA r) 23)).alloc (.cells #[.pointer (some ⟨W14.heap.size, 1, none⟩), .pointer (some ⟨W14.heap.size, 2, none⟩), .pointer (some ⟨W14.heap.size, 6, none⟩)] 38)) := bal (bal MC.out _) _
    have hn3 : w8.heap.size ≠ W14.heap.size := by have := lt_of_block M15; omega
    have hn4 : w10.heap.size ≠ W14.heap.size := by have := lt_of_block MG; omega
    rw [hW] at N18 N15 NG NB ⊢
    have hle : w.heap.size ≤ W14.heap.size := MC.out.size
    have NC : Hid (Below w.heap.size w W16) := Lib.hid NB
    clear hW NB MC M15 MG M4 p0 p1 p2 p3 p4 p5 p6 p7
    generalize W14.heap.size = B at *
    obtain ⟨p0, p1, p2, p3, p4, p5, p6, p7⟩ := cells8 N18
    have f0 := Lib.frozen_of_heap N18 6
    have g1 : IntKind.i64.wrap (8 * (k : Int)) = 8 * (k : Int) := by rw [IntKind.wrap_i64]; omega
    have g2 : (0 : Int) ≤ 8 * (k : Int) := by omega
    have g3 : (8 * (k : Int)).toNat = 8 * k := by omega
    have g4 : IntKind.i64.wrap (y.toNat : Int) = (y.toNat : Int) := by have := UInt8.toNat_lt y; rw [IntKind.wrap_i64]; omega
    refine region_sch (fun w' => w' = W16.drew) [(true, 0), (true, 1), (true, 2), (true, 3), (true, 4), (true, 5), (true, 6), (true, 7), (true, 8), (true, 9)] [10] (by kernel_rfl) (by kernel_rfl) (by rintro ⟨_, _, h, _⟩; cases h) (fun _ _ d _ _ h => by cases d <;> exact h) rfl ?_
    simp only [pickM, pickT, List.filterMap_cons, List.filterMap_nil, List.getElem?_cons_zero, List.getElem?_cons_succ, Option.map_some]
    repeat (refine m_float ⟨?_, .inl ⟨?_, .inl ?_⟩, fun K' hK => ?_⟩; rotate_left; (first | rfl | (go_simp; done)); (intro w' hS; subst hS; go_simp; try rfl); (simp only [Act.put, List.setIfInBounds_toArray, List.set_cons_succ, List.set_cons_zero]; refine hK _ ?_; clear hK K'))
    refine m_nil ?_
    show wpList Try.prog _ _ (List.cons _ _) _ _
    go_upto_region 19 with (fail)
    obtain ⟨W17, hW⟩ : ∃ W17, (W16.setCell ⟨B, 6, none⟩ (.int .i64 v2)).drew = W17 := ⟨_, rfl⟩
    have L18 : (W16.setCell ⟨B, 6, none⟩ (.int .i64 v2)).drew.heap[B]? = some (.cells #[.string r.id, cN r.lba, cN r.len, cN r.time, cN r.zone, cN r.flags, cN v2, .string r.use] 23 (0, 0)) := row_set 6 (.int .i64 v2) N18
    have L15 : (W16.setCell ⟨B, 6, none⟩ (.int .i64 v2)).drew.heap[w8.heap.size]? = some (.cells #[.string r.id, cN r.lba, cN r.len, cN r.time, cN r.zone, cN r.flags, cN v2, .string r.use] 23 (0, 0)) := row_other 6 (.int .i64 v2) N15 hn3
    have LG : (W16.setCell ⟨B, 6, none⟩ (.int .i64 v2)).drew.heap[w10.heap.size]? = some (.cells cs2' 5 fz2) := row_other 6 (.int .i64 v2) NG hn4
    have LB : Below w.heap.size w (W16.setCell ⟨B, 6, none⟩ (.int .i64 v2)).drew := (NC.out.setCell (p := ⟨B, 6, none⟩) hle _).drew
    rw [hW] at L18 L15 LG LB ⊢
    have LC : Hid (Below w.heap.size w W17) := Lib.hid LB
    have hcv := hd6 _ LG
    clear hW LB NC N18 N15 NG LG p0 p1 p2 p3 p4 p5 p6 p7 f0 hd6 hxv
    obtain ⟨p0, p1, p2, p3, p4, p5, p6, p7⟩ := cells8 L18
    obtain ⟨q0, q1, q2, q3, q4, q5, q6, q7⟩ := cells8 L15
    have heq : ∀ W : World, (binOp .eql 23 (.agg #[.string r.id, cN r.lba, cN r.len, cN r.time, cN r.zone, cN r.flags, cN v2, .string r.use]) (.agg #[.string r.id, cN r.lba, cN r.len, cN r.time, cN r.zone, cN r.flags, cN v2, .string r.use])).run Try.prog W = .ok (.bool true) W := fun W => by
      have := rec_eql (⟨r.id, r.lba, r.len, r.time, r.zone, r.flags, v2, r.use⟩ : Rec) ⟨r.id, r.lba, r.len, r.time, r.zone, r.flags, v2, r.use⟩ W
      rwa [recEq_refl] at this
    go_wp2_with (go_at_call 26; (with_reducible refine (c6 _).mono ?_); rintro e w18 ⟨vv2, rfl, hI2⟩; have hE3 := (hI2.below ((Below.refl _ w18).alloc (Nat.le_refl _) (.cells #[cN 28] 3))).1; have hE4 := own_row (cs := #[cN 28]) (n := 1) [28] rfl rfl (by decide) (World.alloc_heap_new w18 (.cells #[cN 28] 3)))
    refine (equal_own hE3 hE4 (by decide) (by decide)).mono ?_
    rintro e w19 ⟨rfl, hB19⟩
    have hT : ([28] == [28]) = true := by decide
    rw [hT]
    go_wp2
    go_ret
    exact ⟨rfl, bthen (bal (bthen LC.out hI2.2) _) hB19⟩
theorem xor_i64 (v y k : Nat) (hy : y < 256) (hv : v < 2 ^ 32) (hk : k < 4) : bits BinOp.xor IntKind.i64 (v : Int) (IntKind.i64.wrap ((y : Int) * 2 ^ (8 * k))) = ((v ^^^ (y * 2 ^ (8 * k)) : Nat) : Int) := by
  have h1 : y * 2 ^ (8 * k) < 2 ^ 32 := byte_lt hy hk
  have h2 : IntKind.i64.wrap ((y : Int) * 2 ^ (8 * k)) = ((y * 2 ^ (8 * k) : Nat) : Int) := by
    rw [Int.natCast_mul, Int.natCast_pow]
    have h3 : ((y * 2 ^ (8 * k) : Nat) : Int) < 2 ^ 62 := by omega
    have h4 : (0 : Int) ≤ ((y * 2 ^ (8 * k) : Nat) : Int) := by omega
    rw [Int.natCast_mul, Int.natCast_pow] at h3 h4
    exact wraps_i64 _ h4 h3
  rw [h2, i64_xor (by omega) (by omega)]
theorem num_nat {r : Rec} {n : Nat} {H : List UInt8} {s : ByteArray} (F : EncF r n H s) : (∃ v : Nat, r.lba = v ∧ v < 2 ^ 32) ∧ (∃ v : Nat, r.len = v ∧ v < 2 ^ 32) ∧ (∃ v : Nat, r.seq = v ∧ v < 2 ^ 32) :=
  ⟨⟨_, F.hH.lba.symm, acc_lt _ (fun _ => hB_lt _ _) 4⟩, ⟨_, F.hH.ln.symm, acc_lt _ (fun _ => hB_lt _ _) 4⟩, ⟨_, F.hH.sq.symm, Nat.lt_of_lt_of_le (acc_lt _ (fun _ => hB_lt _ _) 2) (by decide)⟩⟩
theorem walk (r : Rec) (a b c : Int) (hs : r.id.size ≤ maxLen ∧ r.use.size ≤ maxLen) (ha : (Lit.int .u8 a).wf = true) (hb : (Lit.int .u8 b).wf = true) (hc : (Lit.int .u8 c).wf = true) (w : World) : Calls Try.prog 7 #[.agg (recA r), .int .u8 a, .int .u8 b, .int .u8 c] w fun e w' => e = .returned (.bool true) ∧ Below w.heap.size w w' := by
  obtain ⟨d, de, hde, hd, hR, hg, hbd⟩ := enc_cases r
  have c1 := fun W => encode_ok r d de W hde hd hs.1 hs.2 hR.main
  by_cases he : errM r de = 0
  · obtain ⟨n, H, F⟩ := hg he
    rw [he] at c1
    generalize strM r d de = s at c1 F
    obtain ⟨f1, f2, -⟩ := size_facts F.hn F.h0
    obtain rfl := F.size
    have ha' := u8_of_wf ha
    have hb' := u8_of_wf hb
    have hc' := u8_of_wf hc
    obtain ⟨a, rfl⟩ : ∃ k : Nat, a = k := ⟨a.toNat, by omega⟩
    obtain ⟨b, rfl⟩ : ∃ k : Nat, b = k := ⟨b.toNat, by omega⟩
    by_cases h0 : c = 0
    · subst h0
      exact walk_none r _ _ s w (by omega) c1
    obtain ⟨y, rfl⟩ : ∃ y : UInt8, c = (y.toNat : Int) := ⟨UInt8.ofNat c.toNat, by rw [byteN _ (by omega)]; omega⟩
    have hy : y ≠ 0 := fun e => h0 (by rw [e]; rfl)
    obtain ⟨hn0, hn1, hn2⟩ := num_nat F
    rcases (by omega : (a : Int) % 3 = 0 ∨ (a : Int) % 3 = 1 ∨ (a : Int) % 3 = 2) with hq | hq | hq
    · obtain ⟨v, hv, hvl⟩ := hn0
      have hkl : b % 4 < 4 := Nat.mod_lt _ (by decide)
      have hkb : ((b : Int) % 4) = ((b % 4 : Nat) : Int) := by omega
      obtain ⟨x1, x2, x3, x4⟩ := F.be 0 (b % 4) y (by decide) hkl hy (t := ⟨(s.data.toList.set (6 + b % 4) (sU s (6 + b % 4) ^^^ y)).toArray⟩) rfl
      obtain ⟨y1, y2, y3, y4⟩ := F.le 0 (b % 4) v y (by decide) hkl hv hy (t := ⟨(s.data.toList.set (2 + b % 4) (sU s (2 + b % 4) ^^^ y)).toArray⟩) rfl
      have z1 : (⟨(s.data.toList.set (6 + b % 4) (sU s (6 + b % 4) ^^^ y)).toArray⟩ : ByteArray).size = s.size := by rw [← list_size, ← list_size]; exact List.length_set ..
      have z2 : (⟨(s.data.toList.set (2 + b % 4) (sU s (2 + b % 4) ^^^ y)).toArray⟩ : ByteArray).size = s.size := by rw [← list_size, ← list_size]; exact List.length_set ..
      refine walk_0 r a b (b % 4) ((v ^^^ (y.toNat * 2 ^ (8 * (b % 4))) : Nat) : Int) y s _ _ w f1 (by omega) hy (by omega) (by omega) (by omega) hkb hkl rfl ?_ rfl c1 (fun W => ?_) (fun W => ?_) (fun W => ?_) (fun W => ?_)
      · rw [show r.lba = (v : Int) from hv]
        exact xor_i64 v y.toNat (b % 4) (UInt8.toNat_lt y) hvl (by omega)
      · have h := decode_ok _ W (show (⟨(s.data.toList.set (6 + b % 4) (sU s (6 + b % 4) ^^^ y)).toArray⟩ : ByteArray).size < 2 ^ 61 by rw [z1]; omega)
        rw [x1, x2, x3] at h
        exact h
      · have h := differ_ok _ W (show (⟨(s.data.toList.set (6 + b % 4) (sU s (6 + b % 4) ^^^ y)).toArray⟩ : ByteArray).size < 2 ^ 61 by rw [z1]; omega)
        rw [x4] at h
        exact h
      · have h := decode_ok _ W (show (⟨(s.data.toList.set (2 + b % 4) (sU s (2 + b % 4) ^^^ y)).toArray⟩ : ByteArray).size < 2 ^ 61 by rw [z2]; omega)
        rw [y1, y2, y3] at h
        exact h
      · have h := differ_ok _ W (show (⟨(s.data.toList.set (2 + b % 4) (sU s (2 + b % 4) ^^^ y)).toArray⟩ : ByteArray).size < 2 ^ 61 by rw [z2]; omega)
        rw [y4] at h
        exact h
    · obtain ⟨v, hv, hvl⟩ := hn1
      have hkl : b % 4 < 4 := Nat.mod_lt _ (by decide)
      have hkb : ((b : Int) % 4) = ((b % 4 : Nat) : Int) := by omega
      obtain ⟨x1, x2, x3, x4⟩ := F.be 1 (b % 4) y (by decide) hkl hy (t := ⟨(s.data.toList.set (14 + b % 4) (sU s (14 + b % 4) ^^^ y)).toArray⟩) rfl
      obtain ⟨y1, y2, y3, y4⟩ := F.le 1 (b % 4) v y (by decide) hkl hv hy (t := ⟨(s.data.toList.set (10 + b % 4) (sU s (10 + b % 4) ^^^ y)).toArray⟩) rfl
      have z1 : (⟨(s.data.toList.set (14 + b % 4) (sU s (14 + b % 4) ^^^ y)).toArray⟩ : ByteArray).size = s.size := by rw [← list_size, ← list_size]; exact List.length_set ..
      have z2 : (⟨(s.data.toList.set (10 + b % 4) (sU s (10 + b % 4) ^^^ y)).toArray⟩ : ByteArray).size = s.size := by rw [← list_size, ← list_size]; exact List.length_set ..
      refine walk_1 r a b (b % 4) ((v ^^^ (y.toNat * 2 ^ (8 * (b % 4))) : Nat) : Int) y s _ _ w f1 (by omega) hy (by omega) (by omega) (by omega) hkb hkl rfl ?_ rfl c1 (fun W => ?_) (fun W => ?_) (fun W => ?_) (fun W => ?_)
      · rw [show r.len = (v : Int) from hv]
        exact xor_i64 v y.toNat (b % 4) (UInt8.toNat_lt y) hvl (by omega)
      · have h := decode_ok _ W (show (⟨(s.data.toList.set (14 + b % 4) (sU s (14 + b % 4) ^^^ y)).toArray⟩ : ByteArray).size < 2 ^ 61 by rw [z1]; omega)
        rw [x1, x2, x3] at h
        exact h
      · have h := differ_ok _ W (show (⟨(s.data.toList.set (14 + b % 4) (sU s (14 + b % 4) ^^^ y)).toArray⟩ : ByteArray).size < 2 ^ 61 by rw [z1]; omega)
        rw [x4] at h
        exact h
      · have h := decode_ok _ W (show (⟨(s.data.toList.set (10 + b % 4) (sU s (10 + b % 4) ^^^ y)).toArray⟩ : ByteArray).size < 2 ^ 61 by rw [z2]; omega)
        rw [y1, y2, y3] at h
        exact h
      · have h := differ_ok _ W (show (⟨(s.data.toList.set (10 + b % 4) (sU s (10 + b % 4) ^^^ y)).toArray⟩ : ByteArray).size < 2 ^ 61 by rw [z2]; omega)
        rw [y4] at h
        exact h
    · obtain ⟨v, hv, hvl⟩ := hn2
      have hkl : b % 2 < 2 := Nat.mod_lt _ (by decide)
      have hkb : ((b : Int) % 2) = ((b % 2 : Nat) : Int) := by omega
      obtain ⟨x1, x2, x3, x4⟩ := F.be 2 (b % 2) y (by decide) hkl hy (t := ⟨(s.data.toList.set (30 + b % 2) (sU s (30 + b % 2) ^^^ y)).toArray⟩) rfl
      obtain ⟨y1, y2, y3, y4⟩ := F.le 2 (b % 2) v y (by decide) hkl hv hy (t := ⟨(s.data.toList.set (28 + b % 2) (sU s (28 + b % 2) ^^^ y)).toArray⟩) rfl
      have z1 : (⟨(s.data.toList.set (30 + b % 2) (sU s (30 + b % 2) ^^^ y)).toArray⟩ : ByteArray).size = s.size := by rw [← list_size, ← list_size]; exact List.length_set ..
      have z2 : (⟨(s.data.toList.set (28 + b % 2) (sU s (28 + b % 2) ^^^ y)).toArray⟩ : ByteArray).size = s.size := by rw [← list_size, ← list_size]; exact List.length_set ..
      refine walk_2 r a b (b % 2) ((v ^^^ (y.toNat * 2 ^ (8 * (b % 2))) : Nat) : Int) y s _ _ w f1 (by omega) hy (by omega) (by omega) (by omega) hkb hkl rfl ?_ rfl c1 (fun W => ?_) (fun W => ?_) (fun W => ?_) (fun W => ?_)
      · rw [show r.seq = (v : Int) from hv]
        exact xor_i64 v y.toNat (b % 2) (UInt8.toNat_lt y) hvl (by omega)
      · have h := decode_ok _ W (show (⟨(s.data.toList.set (30 + b % 2) (sU s (30 + b % 2) ^^^ y)).toArray⟩ : ByteArray).size < 2 ^ 61 by rw [z1]; omega)
        rw [x1, x2, x3] at h
        exact h
      · have h := differ_ok _ W (show (⟨(s.data.toList.set (30 + b % 2) (sU s (30 + b % 2) ^^^ y)).toArray⟩ : ByteArray).size < 2 ^ 61 by rw [z1]; omega)
        rw [x4] at h
        exact h
      · have h := decode_ok _ W (show (⟨(s.data.toList.set (28 + b % 2) (sU s (28 + b % 2) ^^^ y)).toArray⟩ : ByteArray).size < 2 ^ 61 by rw [z2]; omega)
        rw [y1, y2, y3] at h
        exact h
      · have h := differ_ok _ W (show (⟨(s.data.toList.set (28 + b % 2) (sU s (28 + b % 2) ^^^ y)).toArray⟩ : ByteArray).size < 2 ^ 61 by rw [z2]; omega)
        rw [y4] at h
        exact h
  · rw [hbd he] at c1
    exact walk_bad r _ _ _ _ w (by rw [bne_iff_ne]; exact he) c1
theorem own : ownKnob Try.prog.godebug = none := by kernel_rfl
theorem laidOut : laidOutB Try.prog = true := by kernel_rfl
set_option maxRecDepth 100000 in
theorem lifted (os : Os) (started : os.Started) (H : Type) (enc : TypeId × Value → H) :
    ReturnsInHanded {} Try.checked os 7 .any (Rows.dirrecordHalvesSpec.pre6 enc Try.prog Try.f7 Rows.dirrecordHalvesRow.domain false) (Rows.dirrecordHalvesSpec.post enc Try.prog Try.f7 false true false false) := by
  refine returnsInHanded_of_change (C := Try.checked) own started (by kernel_rfl) Try.func7
    (ChangeSpec.witness6 (enc := enc) (C := Try.checked) false ⟨#[], #[.agg #[.string ByteArray.empty, .int .i64 0, .int .i64 0, .int .i64 0, .int .i64 0, .int .i64 0, .int .i64 0, .string ByteArray.empty], .int .u8 0, .int .u8 0, .int .u8 0], []⟩ 8 (by kernel_rfl) (by kernel_rfl) (by kernel_rfl) (by kernel_rfl)) ?_
  intro W base args ds gs before hval0 hW hcnd _
  have hval : ∀ (j : Nat) t v, Try.f7.params[j]? = some t → args[j]? = some v → Value.okWide Try.prog W .any base t v := hval0
  have hW' := hW
  obtain ⟨p, q, hA0, hV, rfl, hfz, hnd⟩ := hW
  have hA : DataW.TrodAll enc Try.prog W 0 (fun _ => true) true Try.f7.params.toList args.toList ds p := hA0
  rw [Try.params7] at hA hval
  obtain ⟨v0, vs0, d0, ds0, p0, q0, hargs, rfl, rfl, h0, r0⟩ := trodAll_cons hA
  obtain ⟨v1, vs1, d1, ds1, p1, q1, rfl, rfl, rfl, h1, r1⟩ := trodAll_cons r0
  obtain ⟨v2, vs2, d2, ds2, p2, q2, rfl, rfl, rfl, h2, r2⟩ := trodAll_cons r1
  obtain ⟨v3, vs3, d3, ds3, p3, q3, rfl, rfl, rfl, h3, r3⟩ := trodAll_cons r2
  obtain ⟨rfl, rfl, rfl⟩ := trodAll_nil r3
  obtain rfl : args = #[v0, v1, v2, v3] := by cases args; simp_all
  obtain ⟨rfl, rfl⟩ := trodVars_none hV
  have k0 := h0
  have lt0 : ∀ x ∈ p0, x.block < W.heap.size := by obtain ⟨m, hm⟩ := k0; exact DataW.trod_lt m _ _ _ hm
  obtain ⟨a0, rfl, w0⟩ := open_rec (hval 0 23 v0 rfl rfl) h0
  obtain ⟨a1, rfl, rfl, rfl, w1⟩ := open_int Try.underlying5 (hval 1 5 v1 rfl rfl) h1
  obtain ⟨a2, rfl, rfl, rfl, w2⟩ := open_int Try.underlying5 (hval 2 5 v2 rfl rfl) h2
  obtain ⟨a3, rfl, rfl, rfl, w3⟩ := open_int Try.underlying5 (hval 3 5 v3 rfl rfl) h3
  clear hA0 hval0
  refine (walk a0 a1 a2 a3 w0 w1 w2 w3 W).mono fun e W' ⟨he, bel⟩ => ?_
  subst he
  exact ⟨_, rfl, _, _, _, [], _, [], hW', trodAll_mk1 (shut_bool Try.underlying4 _), (trodAll_cons_mk (Below.trod laidOut (by kernel_rfl) (of_decide_eq_true (by kernel_rfl)) k0 bel lt0) (trodAll_cons_mk (shut_int Try.underlying5 w1) (trodAll_cons_mk (shut_int Try.underlying5 w2) (trodAll_cons_mk (shut_int Try.underlying5 w3) trodAll_mk0)))), rfl, bel.frame _, fun h => by cases h⟩
theorem over : Rows.dirrecordHalvesRow.holds Try.pinned (OpenSpec.ofChange Rows.dirrecordHalvesSpec) :=
  OpenClaim.holds_of_wide 7 Try.f7 rfl rfl rfl rfl rfl rfl rfl ⟨rfl, rfl, rfl, rfl, rfl⟩ rfl rfl rfl rfl rfl (by as_aux_lemma => kernel_rfl) Try.func7 closed
    (of_decide_eq_true (by as_aux_lemma => kernel_rfl)) (by as_aux_lemma => (unfold Func.isWrapper; first | (rw [if_pos (by decide +kernel)]; kernel_rfl) | (rw [if_neg (by decide +kernel)]; exact ⟨rfl, rfl⟩)))
    (fun os started H enc _ => lifted os started H enc)
theorem proved : Rows.DirrecordHalvesSaid := over
#print axioms proved
end Go.Proofs.Ytnmlephjhcmbhaa.dirrecordHalves
