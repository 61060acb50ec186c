/- DirrecordSizes: for every input the law returns true and leaves its arguments as they were. No condition. -/
import Derived.Test.YtnmlephjhcmbhaaRows
import Derived.Test.YtnmlephjhcmbhaaCl8
import Derived.Test.YtnmlephjhcmbhaaDrv
import Derived.Test.YtnmlephjhcmbhaaOpn
import Derived.WalkKit
import Derived.ProofKit
import Derived.OpenShut
import Derived.ShutString
import Derived.ChangeOld
import Derived.Below
namespace Go.Proofs.Ytnmlephjhcmbhaa.dirrecordSizes
set_option linter.unusedSimpArgs false
set_option linter.unusedVariables false
open Go Go.ChangeShapes Go.WideShapes Go.ChangeAt Go.RowKit
open Go.ChangeMaps (open_string shut_string)
/-- The checks, of the edges that bind alone. -/
def rgwB (ops : List Oper) : Bool :=
  ((List.range ops.length).all fun i => ((ops[i]?).map fun o => o.after.all fun e => !(Region.binds .any e) || decide (e.on < i)).getD true) && decide ((ops.map (·.dst)).filterMap id).Nodup
section
variable {P : Program} {l : List Oper} {Q : Exit → Act → World → Prop}
theorem all_listedW (hb : rgwB l = true) {listed : Array Bool} (hsz : listed.size = l.length) (hr : Region.ready .any l.toArray listed = []) : ∀ i, i < l.length → listed.getD i false = true := by
  intro i
  induction i using Nat.strongRecOn with
  | ind i ih =>
    intro hi
    cases hl : listed.getD i false with
    | true => rfl
    | false =>
      exfalso
      simp only [rgwB, Bool.and_eq_true, List.all_eq_true] at hb
      have h1 := hb.1 i (List.mem_range.2 hi)
      rw [List.getElem?_eq_getElem hi] at h1
      simp only [Option.map_some, Option.getD_some, Array.all_eq_true'] at h1
      have hm : i ∈ Region.ready .any l.toArray listed := mem_ready.2 ⟨by
        simp only [Array.getD_eq_getD_getElem?] at hl ⊢
        rw [Array.getElem?_eq_getElem (by omega)] at hl ⊢
        exact hl, l[i], by simp [hi], fun e he hbd => by
        have h2 : e.on < i := by
          have h3 := h1 e he
          rw [hbd] at h3
          simpa using h3
        exact ih e.on h2 (by omega)⟩
      rw [hr] at hm
      cases hm
theorem wpAny_valsW (hb : rgwB l = true) (hL : ¬ LetsOut Q) {Le : World → World → Prop} {V : Nat → World → Value → Prop} {a0 : Act} {w0 : World} (hT : ∀ w w', Le w0 w → Le w w' → Le w0 w')
    (hV : ∀ i w w' v, Le w w' → V i w v → V i w' v) (hop : ∀ i o, l[i]? = some o → OpOk P l Le V Q a0 w0 i o)
    (hend : ∀ (us : Nat → Value) (w : World), Le w0 w → (∀ i, i < l.length → V i w (us i)) → Q .normal (putAll a0 (l.map (·.dst)) us 0) w) :
    ∀ (fuel : Nat) (listed : Array Bool) (us : Nat → Value) (w : World), listed.size = l.length → left listed ≤ fuel → Le w0 w → (∀ i, listed.getD i false = true → V i w (us i)) →
      wpAny P .any l.toArray Q fuel listed (putAll a0 (l.map (·.dst)) us 0) w
  | 0, listed, us, w, hsz, hf, hw, hv => by
    have hall : ∀ i, i < l.length → listed.getD i false = true := fun i hi => by
      cases hl : listed.getD i false with
      | true => rfl
      | false =>
        have hlt : i < listed.size := by omega
        have : 0 < left listed := by
          unfold left
          refine List.count_pos_iff.2 ?_
          rw [Array.getD_eq_getD_getElem?, Array.getElem?_eq_getElem hlt, Option.getD_some] at hl
          exact hl ▸ Array.getElem_mem_toList hlt
        omega
    refine ⟨?_, hend us w hw fun i hi => hv i (hall i hi)⟩
    refine List.eq_nil_iff_forall_not_mem.2 fun j hj => ?_
    obtain ⟨h1, o, ho, _⟩ := mem_ready.1 hj
    have hlt : j < l.length := by
      rcases Nat.lt_or_ge j l.length with h' | h'
      · exact h'
      · simp [h'] at ho
    have h2 := hall j hlt
    have hlt2 : j < listed.size := by omega
    rw [Array.getD_eq_getD_getElem?, Array.getElem?_eq_getElem hlt2, Option.getD_some] at h1 h2
    rw [h1] at h2
    cases h2
  | fuel + 1, listed, us, w, hsz, hf, hw, hv => by
    refine ⟨fun hr => hend us w hw fun i hi => hv i (all_listedW hb hsz hr i hi), fun j hj => ?_⟩
    obtain ⟨hjun, o, ho, hall⟩ := mem_ready.1 hj
    have ho' : l[j]? = some o := by simpa using ho
    refine wpOp_of_list hL ho' (hop j o ho' us w hw (predsV_of _ fun e he hbd => hv e.on (hall e (Array.mem_toList_iff.1 he) hbd)) _ fun v w' hvv hle => ?_)
    have hd : (l.map (·.dst))[j]? = some o.dst := by rw [List.getElem?_map, ho']; rfl
    have hnd : ((l.map (·.dst)).filterMap id).Nodup := by
      simp only [rgwB, Bool.and_eq_true, decide_eq_true_eq] at hb
      exact hb.2
    have hput := putAll_upd (l.map (·.dst)) a0 us 0 j v o.dst hd hnd
    rw [Nat.zero_add] at hput
    rw [← hput]
    refine wpAny_valsW hb hL hT hV hop hend fuel _ (upd us j v) w' (by rw [Array.size_setIfInBounds]; exact hsz) (by have := left_set hjun; omega) (hT _ _ hw hle) fun i hi => ?_
    by_cases hij : i = j
    · subst hij
      simpa [upd] using hvv
    · simp only [upd]
      rw [if_neg hij]
      rw [getD_set_ne false (Ne.symm hij)] at hi
      exact hV i w w' _ hle (hv i hi)
/-- A region, operation by operation. -/
theorem region_valsW {id : Nat} {a : Act} {w : World} (Le : World → World → Prop) (V : Nat → World → Value → Prop) (hm : P.follows .mixedOrders = true) (hb : rgwB l = true) (hL : ¬ LetsOut Q)
    (hR : Le w.drew w.drew) (hT : ∀ w1 w', Le w.drew w1 → Le w1 w' → Le w.drew w') (hV : ∀ i w w' v, Le w w' → V i w v → V i w' v) 
    (hop : ∀ i o, l[i]? = some o → OpOk P l Le V Q a w.drew (0 + i) o)
    (hend : ∀ (us : Nat → Value) (w1 : World), Le w.drew w1 → (∀ i, i < l.length → V i w1 (us i)) → Q .normal (putAll a (l.map (·.dst)) us 0) w1) : (Code.region id l.toArray true).wp P Q a w := by
  refine wp_region_any hm ?_
  have h := wpAny_valsW hb hL hT hV (fun i o ho => by have := hop i o ho; rwa [Nat.zero_add] at this) hend l.toArray.size (Array.replicate l.toArray.size false) (selfV a (l.map (·.dst))) w.drew (by simp) ?_ hR fun i hi => ?_
  · rw [putAll_self] at h
    exact h
  · unfold left
    refine Nat.le_trans List.count_le_length ?_
    simp
  · exfalso
    rw [Array.getD_eq_getD_getElem?, Array.getElem?_replicate] at hi
    split at hi <;> simp at hi
end
/-- All blocks but b are as they were. -/
structure BB (b : Nat) (w w' : World) : Prop where
  bel : Below b w w'
  oth : ∀ k, k ≠ b → k < w.heap.size → w'.heap[k]? = w.heap[k]?
def rx (x y : ByteArray) : Rec := ⟨x, 20, 5, 1794845045, 60, 0, 1, y⟩
def Bk (b : Nat) (w : World) (x y : ByteArray) : Prop := w.heap[b]? = some (.cells (recA (rx x y)) 23 (0, 0))
structure LeS (b : Nat) (X Y : ByteArray) (w w' : World) : Prop where
  bb : BB b w w'
  keep : ∀ x y, Bk b w x y → ∃ x' y', Bk b w' x' y' ∧ (x = X → x' = X) ∧ (y = Y → y' = Y)
theorem LeS.refl (b : Nat) (X Y : ByteArray) (w : World) : LeS b X Y w w := ⟨⟨Below.refl _ _, fun _ _ _ => rfl⟩, fun x y h => ⟨x, y, h, id, id⟩⟩
theorem LeS.trans {b : Nat} {X Y : ByteArray} {w w1 w2 : World} (h : LeS b X Y w w1) (k : LeS b X Y w1 w2) : LeS b X Y w w2 := by
  refine ⟨⟨h.bb.bel.trans k.bb.bel, fun i hi hl => (k.bb.oth i hi (Nat.lt_of_lt_of_le hl h.bb.bel.size)).trans (h.bb.oth i hi hl)⟩, fun x y hx => ?_⟩
  obtain ⟨x1, y1, h1, h2, h3⟩ := h.keep x y hx
  obtain ⟨x2, y2, k1, k2, k3⟩ := k.keep x1 y1 h1
  exact ⟨x2, y2, k1, fun e => k2 (h2 e), fun e => k3 (h3 e)⟩
theorem LeS.alloc {b : Nat} {X Y : ByteArray} {w : World} (hb : b ≤ w.heap.size) (o : Obj) : LeS b X Y w (w.alloc o) :=
  ⟨⟨(Below.refl _ _).alloc hb o, fun k _ hl => Lib.alloc_old w o k hl⟩, fun x y h => ⟨x, y, (Lib.alloc_old w o b (lt_of_block h)).trans h, id, id⟩⟩
theorem Bk.inj {b : Nat} {w : World} {x y x' y' : ByteArray} (h : Bk b w x y) (k : Bk b w x' y') : x = x' ∧ y = y' := by
  unfold Bk at h k
  rw [h] at k
  simpa [rx] using k
theorem LeS.id {b : Nat} {X Y : ByteArray} {w : World} {x y : ByteArray} (h : Bk b w x y) : LeS b X Y w (w.setCell ⟨b, 0, none⟩ (.string X)) ∧ Bk b (w.setCell ⟨b, 0, none⟩ (.string X)) X y := by
  have hs : Bk b (w.setCell ⟨b, 0, none⟩ (.string X)) X y := row_set 0 _ h
  refine ⟨⟨⟨(Below.refl _ _).setCell (p := ⟨b, 0, none⟩) (Nat.le_refl _) _, fun k hk _ => Below.heap_setCell w _ _ k hk⟩, fun x1 y1 h1 => ?_⟩, hs⟩
  obtain ⟨rfl, rfl⟩ := h.inj h1
  exact ⟨X, y, hs, fun _ => rfl, _root_.id⟩
theorem LeS.us {b : Nat} {X Y : ByteArray} {w : World} {x y : ByteArray} (h : Bk b w x y) : LeS b X Y w (w.setCell ⟨b, 7, none⟩ (.string Y)) ∧ Bk b (w.setCell ⟨b, 7, none⟩ (.string Y)) x Y := by
  have hs : Bk b (w.setCell ⟨b, 7, none⟩ (.string Y)) x Y := row_set 7 _ h
  refine ⟨⟨⟨(Below.refl _ _).setCell (p := ⟨b, 7, none⟩) (Nat.le_refl _) _, fun k hk _ => Below.heap_setCell w _ _ k hk⟩, fun x1 y1 h1 => ?_⟩, hs⟩
  obtain ⟨rfl, rfl⟩ := h.inj h1
  exact ⟨x, Y, hs, _root_.id, fun _ => rfl⟩
def VM (b n : Nat) : World → Value → Prop := fun w v => ∃ g : Nat, v = .slice (some ⟨g, 0, none⟩) n n ∧ g ≠ b ∧ w.heap[g]? = some (.cells (cb (List.replicate n 0)).toArray 5 (0, 0))
def VX (b : Nat) (X : ByteArray) : World → Value → Prop := fun w _ => ∃ y, Bk b w X y
def VY (b : Nat) (Y : ByteArray) : World → Value → Prop := fun w _ => ∃ x, Bk b w x Y
def zs (n : Nat) : ByteArray := ⟨(List.replicate n 0).toArray⟩
abbrev vals (b i u : Nat) : List (World → Value → Prop) := [VC (cN i), VM b i, VC (.string (zs i)), VC (cN u), VM b u, VC (.string (zs u)), VC (.pointer (some ⟨b, 0, none⟩)), VX b (zs i), VC (.pointer (some ⟨b, 7, none⟩)), VY b (zs u)]
theorem VM_keep {b n : Nat} {X Y : ByteArray} {w w' : World} {v : Value} (h : LeS b X Y w w') (k : VM b n w v) : VM b n w' v := by
  obtain ⟨g, hv, hne, hg⟩ := k
  exact ⟨g, hv, hne, (h.bb.oth g hne (lt_of_block hg)).trans hg⟩
theorem vals_keep (b i u : Nat) : ∀ (j : Nat) (w w' : World) (v : Value), LeS b (zs i) (zs u) w w' → vsel (vals b i u) j w v → vsel (vals b i u) j w' v
  | 0, _, _, _, _, h => h
  | 1, _, _, _, l, h => VM_keep l h
  | 2, _, _, _, _, h => h
  | 3, _, _, _, _, h => h
  | 4, _, _, _, l, h => VM_keep l h
  | 5, _, _, _, _, h => h
  | 6, _, _, _, _, h => h
  | 7, _, _, _, l, h => by
    obtain ⟨y, hy⟩ := h
    obtain ⟨x', y', h1, h2, h3⟩ := l.keep _ _ hy
    obtain rfl := h2 rfl
    exact ⟨y', h1⟩
  | 8, _, _, _, _, h => h
  | 9, _, _, _, l, h => by
    obtain ⟨y, hy⟩ := h
    obtain ⟨x', y', h1, h2, h3⟩ := l.keep _ _ hy
    obtain rfl := h3 rfl
    exact ⟨x', h1⟩
  | _ + 10, _, _, _, _, _ => trivial
theorem made (n : Nat) : Array.replicate n (Value.int .u8 0) = (cb (List.replicate n 0)).toArray := by
  apply Array.toList_inj.1
  simp [cb]
set_option maxRecDepth 100000 in
set_option maxHeartbeats 4000000 in
theorem walk_none (i u : Nat) (e0 : Int) (w : World) (hi : i < 256) (hu : u < 256) (he : (e0 != 0) = true) (he2 : (e0 == 0) = false)
    (c1 : ∀ W : World, Calls Try.prog 21 #[cN i, cN u] W fun e w' => e = .returned (cN 0) ∧ W = w')
    (c2 : ∀ W : World, Calls Try.prog 19 #[.agg #[.string (zs i), cN 20, cN 5, cN 1794845045, cN 60, cN 0, cN 1, .string (zs u)]] W fun e w' => e = .returned (.tuple #[.string ByteArray.empty, cN e0]) ∧ Below W.heap.size W w') :
    Calls Try.prog 8 #[.int .u8 (i : Int), .int .u8 (u : Int)] w fun e w' => e = .returned (.bool true) ∧ Below w.heap.size w w' := by
  have w1' : IntKind.i64.wrap (i : Int) = i := by rw [IntKind.wrap_i64]; omega
  have w2' : IntKind.i64.wrap (u : Int) = u := by rw [IntKind.wrap_i64]; omega
  have hmk1 := fun W => make_bytes (P := Try.prog) (t := 37) (e := 5) Try.underlying37 u8Info i (by omega) W
  have hmk2 := fun W => make_bytes (P := Try.prog) (t := 37) (e := 5) Try.underlying37 u8Info u (by omega) W
  rw [made] at hmk1 hmk2
  have i1 : (0 : Int) ≤ (i : Int) := by omega
  have i2 : (0 : Int) ≤ (u : Int) := by omega
  go_enter Try.func8, Try.ntmps8
  go_wp2_with (first | (go_at_call 18; (with_reducible refine (awake_ok _).mono ?_); rintro e w1 ⟨rfl, hB1⟩) | (go_at_call 21; (with_reducible refine (c1 _).mono ?_); rintro e w2 ⟨rfl, rfl⟩) | (go_at_call 28; (with_reducible refine (example_ok _).mono ?_); rintro e w2 ⟨rfl, hB2⟩))
  have hb0 : Bk w2.heap.size (w2.alloc (.cells (recA exR) 23)) exR.id exR.use := World.alloc_heap_new _ _
  refine region_valsW (LeS w2.heap.size (zs i) (zs u)) (vsel (vals w2.heap.size i u)) (by kernel_rfl) (by kernel_rfl) (by rintro ⟨_, _, h, _⟩; cases h) (LeS.refl _ _ _ _) (fun _ _ h k => h.trans k) (vals_keep _ _ _) ?_ ?_
  refine ops_cons ?_ ?_
  · intro us w1 hle hP K' hK
    simp only [predsV, vsel, VC, List.getD_eq_getElem?_getD, List.getElem?_cons_zero, List.getElem?_cons_succ, Option.getD_some, and_true, true_and, and_self] at hP
    simp only [putAll, List.map_cons, List.map_nil, Act.put, List.setIfInBounds_toArray, List.set_cons_succ, List.set_cons_zero, Nat.zero_add, Nat.reduceAdd] at hK ⊢
    simp only [vsel, VC, List.getD_eq_getElem?_getD, List.getElem?_cons_zero, List.getElem?_cons_succ, Option.getD_some] at hK
    try simp only [hP] at hK ⊢
    go_wp2
    exact hK _ _ rfl (LeS.refl _ _ _ _)
  refine ops_cons ?_ ?_
  · intro us w1 hle hP K' hK
    simp only [predsV, vsel, VC, List.getD_eq_getElem?_getD, List.getElem?_cons_zero, List.getElem?_cons_succ, Option.getD_some, and_true, true_and, and_self] at hP
    simp only [putAll, List.map_cons, List.map_nil, Act.put, List.setIfInBounds_toArray, List.set_cons_succ, List.set_cons_zero, Nat.zero_add, Nat.reduceAdd] at hK ⊢
    simp only [vsel, VC, List.getD_eq_getElem?_getD, List.getElem?_cons_zero, List.getElem?_cons_succ, Option.getD_some] at hK
    try simp only [hP] at hK ⊢
    go_wp2
    exact hK _ _ ⟨_, rfl, by have := lt_of_block hb0; have := hle.bb.bel.size; simp at *; omega, World.alloc_heap_new _ _⟩ (LeS.alloc (by have := lt_of_block hb0; have := hle.bb.bel.size; simp at *; omega) _)
  refine ops_cons ?_ ?_
  · intro us w1 hle hP K' hK
    simp only [predsV, vsel, VC, List.getD_eq_getElem?_getD, List.getElem?_cons_zero, List.getElem?_cons_succ, Option.getD_some, and_true, true_and, and_self] at hP
    simp only [putAll, List.map_cons, List.map_nil, Act.put, List.setIfInBounds_toArray, List.set_cons_succ, List.set_cons_zero, Nat.zero_add, Nat.reduceAdd] at hK ⊢
    simp only [vsel, VC, List.getD_eq_getElem?_getD, List.getElem?_cons_zero, List.getElem?_cons_succ, Option.getD_some] at hK
    try simp only [hP] at hK ⊢
    obtain ⟨g, hg1, hgn, hg2⟩ := hP; rw [hg1] at hK ⊢; have hcv := row_string (P := Try.prog) (src := 37) (dst := 9) (n := i) (cap := i) Try.underlying37 Try.underlying5 Try.underlying9 (List.length_replicate ..) hg2; clear hg1 hg2; go_wp2
    exact hK _ _ rfl (LeS.refl _ _ _ _)
  refine ops_cons ?_ ?_
  · intro us w1 hle hP K' hK
    simp only [predsV, vsel, VC, List.getD_eq_getElem?_getD, List.getElem?_cons_zero, List.getElem?_cons_succ, Option.getD_some, and_true, true_and, and_self] at hP
    simp only [putAll, List.map_cons, List.map_nil, Act.put, List.setIfInBounds_toArray, List.set_cons_succ, List.set_cons_zero, Nat.zero_add, Nat.reduceAdd] at hK ⊢
    simp only [vsel, VC, List.getD_eq_getElem?_getD, List.getElem?_cons_zero, List.getElem?_cons_succ, Option.getD_some] at hK
    try simp only [hP] at hK ⊢
    go_wp2
    exact hK _ _ rfl (LeS.refl _ _ _ _)
  refine ops_cons ?_ ?_
  · intro us w1 hle hP K' hK
    simp only [predsV, vsel, VC, List.getD_eq_getElem?_getD, List.getElem?_cons_zero, List.getElem?_cons_succ, Option.getD_some, and_true, true_and, and_self] at hP
    simp only [putAll, List.map_cons, List.map_nil, Act.put, List.setIfInBounds_toArray, List.set_cons_succ, List.set_cons_zero, Nat.zero_add, Nat.reduceAdd] at hK ⊢
    simp only [vsel, VC, List.getD_eq_getElem?_getD, List.getElem?_cons_zero, List.getElem?_cons_succ, Option.getD_some] at hK
    try simp only [hP] at hK ⊢
    go_wp2
    exact hK _ _ ⟨_, rfl, by have := lt_of_block hb0; have := hle.bb.bel.size; simp at *; omega, World.alloc_heap_new _ _⟩ (LeS.alloc (by have := lt_of_block hb0; have := hle.bb.bel.size; simp at *; omega) _)
  refine ops_cons ?_ ?_
  · intro us w1 hle hP K' hK
    simp only [predsV, vsel, VC, List.getD_eq_getElem?_getD, List.getElem?_cons_zero, List.getElem?_cons_succ, Option.getD_some, and_true, true_and, and_self] at hP
    simp only [putAll, List.map_cons, List.map_nil, Act.put, List.setIfInBounds_toArray, List.set_cons_succ, List.set_cons_zero, Nat.zero_add, Nat.reduceAdd] at hK ⊢
    simp only [vsel, VC, List.getD_eq_getElem?_getD, List.getElem?_cons_zero, List.getElem?_cons_succ, Option.getD_some] at hK
    try simp only [hP] at hK ⊢
    obtain ⟨g, hg1, hgn, hg2⟩ := hP; rw [hg1] at hK ⊢; have hcv := row_string (P := Try.prog) (src := 37) (dst := 9) (n := u) (cap := u) Try.underlying37 Try.underlying5 Try.underlying9 (List.length_replicate ..) hg2; clear hg1 hg2; go_wp2
    exact hK _ _ rfl (LeS.refl _ _ _ _)
  refine ops_cons ?_ ?_
  · intro us w1 hle hP K' hK
    simp only [predsV, vsel, VC, List.getD_eq_getElem?_getD, List.getElem?_cons_zero, List.getElem?_cons_succ, Option.getD_some, and_true, true_and, and_self] at hP
    simp only [putAll, List.map_cons, List.map_nil, Act.put, List.setIfInBounds_toArray, List.set_cons_succ, List.set_cons_zero, Nat.zero_add, Nat.reduceAdd] at hK ⊢
    simp only [vsel, VC, List.getD_eq_getElem?_getD, List.getElem?_cons_zero, List.getElem?_cons_succ, Option.getD_some] at hK
    try simp only [hP] at hK ⊢
    go_wp2
    exact hK _ _ rfl (LeS.refl _ _ _ _)
  refine ops_cons ?_ ?_
  · intro us w1 hle hP K' hK
    simp only [predsV, vsel, VC, List.getD_eq_getElem?_getD, List.getElem?_cons_zero, List.getElem?_cons_succ, Option.getD_some, and_true, true_and, and_self] at hP
    simp only [putAll, List.map_cons, List.map_nil, Act.put, List.setIfInBounds_toArray, List.set_cons_succ, List.set_cons_zero, Nat.zero_add, Nat.reduceAdd] at hK ⊢
    simp only [vsel, VC, List.getD_eq_getElem?_getD, List.getElem?_cons_zero, List.getElem?_cons_succ, Option.getD_some] at hK
    try simp only [hP] at hK ⊢
    obtain ⟨x', y', hb', -, -⟩ := hle.keep _ _ hb0; have hf := Lib.frozen_of_heap hb' 0; have hc := Lib.cell_of_heap hb' 0; simp only [rx] at hc; go_wp2
    exact hK undef _ ⟨_, (LeS.id (Y := zs u) hb').2⟩ (LeS.id hb').1
  refine ops_cons ?_ ?_
  · intro us w1 hle hP K' hK
    simp only [predsV, vsel, VC, List.getD_eq_getElem?_getD, List.getElem?_cons_zero, List.getElem?_cons_succ, Option.getD_some, and_true, true_and, and_self] at hP
    simp only [putAll, List.map_cons, List.map_nil, Act.put, List.setIfInBounds_toArray, List.set_cons_succ, List.set_cons_zero, Nat.zero_add, Nat.reduceAdd] at hK ⊢
    simp only [vsel, VC, List.getD_eq_getElem?_getD, List.getElem?_cons_zero, List.getElem?_cons_succ, Option.getD_some] at hK
    try simp only [hP] at hK ⊢
    go_wp2
    exact hK _ _ rfl (LeS.refl _ _ _ _)
  refine ops_cons ?_ ?_
  · intro us w1 hle hP K' hK
    simp only [predsV, vsel, VC, List.getD_eq_getElem?_getD, List.getElem?_cons_zero, List.getElem?_cons_succ, Option.getD_some, and_true, true_and, and_self] at hP
    simp only [putAll, List.map_cons, List.map_nil, Act.put, List.setIfInBounds_toArray, List.set_cons_succ, List.set_cons_zero, Nat.zero_add, Nat.reduceAdd] at hK ⊢
    simp only [vsel, VC, List.getD_eq_getElem?_getD, List.getElem?_cons_zero, List.getElem?_cons_succ, Option.getD_some] at hK
    try simp only [hP] at hK ⊢
    obtain ⟨x', y', hb', -, -⟩ := hle.keep _ _ hb0; have hf := Lib.frozen_of_heap hb' 7; have hc := Lib.cell_of_heap hb' 7; simp only [rx] at hc; go_wp2
    exact hK undef _ ⟨_, (LeS.us (X := zs i) hb').2⟩ (LeS.us hb').1
  · exact ops_nil _ _
  intro us w5 hle hV
  obtain ⟨y1, hy1⟩ : VX w2.heap.size (zs i) w5 (us 7) := hV 7 (by decide)
  obtain ⟨x1, hx1⟩ : VY w2.heap.size (zs u) w5 (us 9) := hV 9 (by decide)
  obtain ⟨rfl, rfl⟩ := hy1.inj hx1
  have hy2 : w5.heap[w2.heap.size]? = some (.cells #[.string (zs i), cN 20, cN 5, cN 1794845045, cN 60, cN 0, cN 1, .string (zs u)] 23 (0, 0)) := hy1
  obtain ⟨q0, q1, q2, q3, q4, q5, q6, q7⟩ := cells8 hy2
  have HBL : Hid (Below w.heap.size w w5) := Lib.hid (bthen (bthen hB1 hB2) (((Below.refl _ _).alloc (Nat.le_refl _) _).drew.trans hle.bb.bel))
  clear hV hle hy1 hx1 hy2 hb0 hmk1 hmk2
  simp only [putAll, List.map_cons, List.map_nil, Act.put, List.setIfInBounds_toArray, List.set_cons_succ, List.set_cons_zero, Nat.zero_add, Nat.reduceAdd, Exit.then]
  go_wp2_with (first | (go_at_call 19; (with_reducible refine (c2 _).mono ?_); rintro e w6 ⟨rfl, hB6⟩) )
  go_ret
  exact ⟨rfl, bthen HBL.out hB6⟩
set_option maxRecDepth 100000 in
set_option maxHeartbeats 4000000 in
theorem walk_full (i u : Nat) (s : ByteArray) (w : World) (hi : i < 256) (hu : u < 256) (h34 : 34 ≤ s.size) (h254 : s.size ≤ 254) (hev : s.size % 2 = 0) (h252 : (252 : Int) < (s.size : Int))
    (c1 : ∀ W : World, Calls Try.prog 21 #[cN i, cN u] W fun e w' => e = .returned (cN s.size) ∧ W = w')
    (c2 : ∀ W : World, Calls Try.prog 19 #[.agg #[.string (zs i), cN 20, cN 5, cN 1794845045, cN 60, cN 0, cN 1, .string (zs u)]] W fun e w' => e = .returned (.tuple #[.string s, cN 0]) ∧ Below W.heap.size W w')
    :
    Calls Try.prog 8 #[.int .u8 (i : Int), .int .u8 (u : Int)] w fun e w' => e = .returned (.bool true) ∧ Below w.heap.size w w' := by
  have z0 : (0 : Int) < (s.size : Int) := by omega
  have z1 : ¬ (s.size : Int) < 34 := by omega
  have z2 : ¬ (254 : Int) < (s.size : Int) := by omega
  have z3 : ((s.size : Int) == 0) = false := by rw [beq_eq_false_iff_ne]; omega
  have z4 : ((s.size : Int) % 2 != 0) = false := by rw [bne_eq_false_iff_eq]; omega
  have w1' : IntKind.i64.wrap (i : Int) = i := by rw [IntKind.wrap_i64]; omega
  have w2' : IntKind.i64.wrap (u : Int) = u := by rw [IntKind.wrap_i64]; omega
  have hmk1 := fun W => make_bytes (P := Try.prog) (t := 37) (e := 5) Try.underlying37 u8Info i (by omega) W
  have hmk2 := fun W => make_bytes (P := Try.prog) (t := 37) (e := 5) Try.underlying37 u8Info u (by omega) W
  rw [made] at hmk1 hmk2
  have i1 : (0 : Int) ≤ (i : Int) := by omega
  have i2 : (0 : Int) ≤ (u : Int) := by omega
  go_enter Try.func8, Try.ntmps8
  go_wp2_with (first | (go_at_call 18; (with_reducible refine (awake_ok _).mono ?_); rintro e w1 ⟨rfl, hB1⟩) | (go_at_call 21; (with_reducible refine (c1 _).mono ?_); rintro e w2 ⟨rfl, rfl⟩) | (go_at_call 28; (with_reducible refine (example_ok _).mono ?_); rintro e w2 ⟨rfl, hB2⟩))
  have hb0 : Bk w2.heap.size (w2.alloc (.cells (recA exR) 23)) exR.id exR.use := World.alloc_heap_new _ _
  refine region_valsW (LeS w2.heap.size (zs i) (zs u)) (vsel (vals w2.heap.size i u)) (by kernel_rfl) (by kernel_rfl) (by rintro ⟨_, _, h, _⟩; cases h) (LeS.refl _ _ _ _) (fun _ _ h k => h.trans k) (vals_keep _ _ _) ?_ ?_
  refine ops_cons ?_ ?_
  · intro us w1 hle hP K' hK
    simp only [predsV, vsel, VC, List.getD_eq_getElem?_getD, List.getElem?_cons_zero, List.getElem?_cons_succ, Option.getD_some, and_true, true_and, and_self] at hP
    simp only [putAll, List.map_cons, List.map_nil, Act.put, List.setIfInBounds_toArray, List.set_cons_succ, List.set_cons_zero, Nat.zero_add, Nat.reduceAdd] at hK ⊢
    simp only [vsel, VC, List.getD_eq_getElem?_getD, List.getElem?_cons_zero, List.getElem?_cons_succ, Option.getD_some] at hK
    try simp only [hP] at hK ⊢
    go_wp2
    exact hK _ _ rfl (LeS.refl _ _ _ _)
  refine ops_cons ?_ ?_
  · intro us w1 hle hP K' hK
    simp only [predsV, vsel, VC, List.getD_eq_getElem?_getD, List.getElem?_cons_zero, List.getElem?_cons_succ, Option.getD_some, and_true, true_and, and_self] at hP
    simp only [putAll, List.map_cons, List.map_nil, Act.put, List.setIfInBounds_toArray, List.set_cons_succ, List.set_cons_zero, Nat.zero_add, Nat.reduceAdd] at hK ⊢
    simp only [vsel, VC, List.getD_eq_getElem?_getD, List.getElem?_cons_zero, List.getElem?_cons_succ, Option.getD_some] at hK
    try simp only [hP] at hK ⊢
    go_wp2
    exact hK _ _ ⟨_, rfl, by have := lt_of_block hb0; have := hle.bb.bel.size; simp at *; omega, World.alloc_heap_new _ _⟩ (LeS.alloc (by have := lt_of_block hb0; have := hle.bb.bel.size; simp at *; omega) _)
  refine ops_cons ?_ ?_
  · intro us w1 hle hP K' hK
    simp only [predsV, vsel, VC, List.getD_eq_getElem?_getD, List.getElem?_cons_zero, List.getElem?_cons_succ, Option.getD_some, and_true, true_and, and_self] at hP
    simp only [putAll, List.map_cons, List.map_nil, Act.put, List.setIfInBounds_toArray, List.set_cons_succ, List.set_cons_zero, Nat.zero_add, Nat.reduceAdd] at hK ⊢
    simp only [vsel, VC, List.getD_eq_getElem?_getD, List.getElem?_cons_zero, List.getElem?_cons_succ, Option.getD_some] at hK
    try simp only [hP] at hK ⊢
    obtain ⟨g, hg1, hgn, hg2⟩ := hP; rw [hg1] at hK ⊢; have hcv := row_string (P := Try.prog) (src := 37) (dst := 9) (n := i) (cap := i) Try.underlying37 Try.underlying5 Try.underlying9 (List.length_replicate ..) hg2; clear hg1 hg2; go_wp2
    exact hK _ _ rfl (LeS.refl _ _ _ _)
  refine ops_cons ?_ ?_
  · intro us w1 hle hP K' hK
    simp only [predsV, vsel, VC, List.getD_eq_getElem?_getD, List.getElem?_cons_zero, List.getElem?_cons_succ, Option.getD_some, and_true, true_and, and_self] at hP
    simp only [putAll, List.map_cons, List.map_nil, Act.put, List.setIfInBounds_toArray, List.set_cons_succ, List.set_cons_zero, Nat.zero_add, Nat.reduceAdd] at hK ⊢
    simp only [vsel, VC, List.getD_eq_getElem?_getD, List.getElem?_cons_zero, List.getElem?_cons_succ, Option.getD_some] at hK
    try simp only [hP] at hK ⊢
    go_wp2
    exact hK _ _ rfl (LeS.refl _ _ _ _)
  refine ops_cons ?_ ?_
  · intro us w1 hle hP K' hK
    simp only [predsV, vsel, VC, List.getD_eq_getElem?_getD, List.getElem?_cons_zero, List.getElem?_cons_succ, Option.getD_some, and_true, true_and, and_self] at hP
    simp only [putAll, List.map_cons, List.map_nil, Act.put, List.setIfInBounds_toArray, List.set_cons_succ, List.set_cons_zero, Nat.zero_add, Nat.reduceAdd] at hK ⊢
    simp only [vsel, VC, List.getD_eq_getElem?_getD, List.getElem?_cons_zero, List.getElem?_cons_succ, Option.getD_some] at hK
    try simp only [hP] at hK ⊢
    go_wp2
    exact hK _ _ ⟨_, rfl, by have := lt_of_block hb0; have := hle.bb.bel.size; simp at *; omega, World.alloc_heap_new _ _⟩ (LeS.alloc (by have := lt_of_block hb0; have := hle.bb.bel.size; simp at *; omega) _)
  refine ops_cons ?_ ?_
  · intro us w1 hle hP K' hK
    simp only [predsV, vsel, VC, List.getD_eq_getElem?_getD, List.getElem?_cons_zero, List.getElem?_cons_succ, Option.getD_some, and_true, true_and, and_self] at hP
    simp only [putAll, List.map_cons, List.map_nil, Act.put, List.setIfInBounds_toArray, List.set_cons_succ, List.set_cons_zero, Nat.zero_add, Nat.reduceAdd] at hK ⊢
    simp only [vsel, VC, List.getD_eq_getElem?_getD, List.getElem?_cons_zero, List.getElem?_cons_succ, Option.getD_some] at hK
    try simp only [hP] at hK ⊢
    obtain ⟨g, hg1, hgn, hg2⟩ := hP; rw [hg1] at hK ⊢; have hcv := row_string (P := Try.prog) (src := 37) (dst := 9) (n := u) (cap := u) Try.underlying37 Try.underlying5 Try.underlying9 (List.length_replicate ..) hg2; clear hg1 hg2; go_wp2
    exact hK _ _ rfl (LeS.refl _ _ _ _)
  refine ops_cons ?_ ?_
  · intro us w1 hle hP K' hK
    simp only [predsV, vsel, VC, List.getD_eq_getElem?_getD, List.getElem?_cons_zero, List.getElem?_cons_succ, Option.getD_some, and_true, true_and, and_self] at hP
    simp only [putAll, List.map_cons, List.map_nil, Act.put, List.setIfInBounds_toArray, List.set_cons_succ, List.set_cons_zero, Nat.zero_add, Nat.reduceAdd] at hK ⊢
    simp only [vsel, VC, List.getD_eq_getElem?_getD, List.getElem?_cons_zero, List.getElem?_cons_succ, Option.getD_some] at hK
    try simp only [hP] at hK ⊢
    go_wp2
    exact hK _ _ rfl (LeS.refl _ _ _ _)
  refine ops_cons ?_ ?_
  · intro us w1 hle hP K' hK
    simp only [predsV, vsel, VC, List.getD_eq_getElem?_getD, List.getElem?_cons_zero, List.getElem?_cons_succ, Option.getD_some, and_true, true_and, and_self] at hP
    simp only [putAll, List.map_cons, List.map_nil, Act.put, List.setIfInBounds_toArray, List.set_cons_succ, List.set_cons_zero, Nat.zero_add, Nat.reduceAdd] at hK ⊢
    simp only [vsel, VC, List.getD_eq_getElem?_getD, List.getElem?_cons_zero, List.getElem?_cons_succ, Option.getD_some] at hK
    try simp only [hP] at hK ⊢
    obtain ⟨x', y', hb', -, -⟩ := hle.keep _ _ hb0; have hf := Lib.frozen_of_heap hb' 0; have hc := Lib.cell_of_heap hb' 0; simp only [rx] at hc; go_wp2
    exact hK undef _ ⟨_, (LeS.id (Y := zs u) hb').2⟩ (LeS.id hb').1
  refine ops_cons ?_ ?_
  · intro us w1 hle hP K' hK
    simp only [predsV, vsel, VC, List.getD_eq_getElem?_getD, List.getElem?_cons_zero, List.getElem?_cons_succ, Option.getD_some, and_true, true_and, and_self] at hP
    simp only [putAll, List.map_cons, List.map_nil, Act.put, List.setIfInBounds_toArray, List.set_cons_succ, List.set_cons_zero, Nat.zero_add, Nat.reduceAdd] at hK ⊢
    simp only [vsel, VC, List.getD_eq_getElem?_getD, List.getElem?_cons_zero, List.getElem?_cons_succ, Option.getD_some] at hK
    try simp only [hP] at hK ⊢
    go_wp2
    exact hK _ _ rfl (LeS.refl _ _ _ _)
  refine ops_cons ?_ ?_
  · intro us w1 hle hP K' hK
    simp only [predsV, vsel, VC, List.getD_eq_getElem?_getD, List.getElem?_cons_zero, List.getElem?_cons_succ, Option.getD_some, and_true, true_and, and_self] at hP
    simp only [putAll, List.map_cons, List.map_nil, Act.put, List.setIfInBounds_toArray, List.set_cons_succ, List.set_cons_zero, Nat.zero_add, Nat.reduceAdd] at hK ⊢
    simp only [vsel, VC, List.getD_eq_getElem?_getD, List.getElem?_cons_zero, List.getElem?_cons_succ, Option.getD_some] at hK
    try simp only [hP] at hK ⊢
    obtain ⟨x', y', hb', -, -⟩ := hle.keep _ _ hb0; have hf := Lib.frozen_of_heap hb' 7; have hc := Lib.cell_of_heap hb' 7; simp only [rx] at hc; go_wp2
    exact hK undef _ ⟨_, (LeS.us (X := zs i) hb').2⟩ (LeS.us hb').1
  · exact ops_nil _ _
  intro us w5 hle hV
  obtain ⟨y1, hy1⟩ : VX w2.heap.size (zs i) w5 (us 7) := hV 7 (by decide)
  obtain ⟨x1, hx1⟩ : VY w2.heap.size (zs u) w5 (us 9) := hV 9 (by decide)
  obtain ⟨rfl, rfl⟩ := hy1.inj hx1
  have hy2 : w5.heap[w2.heap.size]? = some (.cells #[.string (zs i), cN 20, cN 5, cN 1794845045, cN 60, cN 0, cN 1, .string (zs u)] 23 (0, 0)) := hy1
  obtain ⟨q0, q1, q2, q3, q4, q5, q6, q7⟩ := cells8 hy2
  have HBL : Hid (Below w.heap.size w w5) := Lib.hid (bthen (bthen hB1 hB2) (((Below.refl _ _).alloc (Nat.le_refl _) _).drew.trans hle.bb.bel))
  clear hV hle hy1 hx1 hy2 hb0 hmk1 hmk2
  simp only [putAll, List.map_cons, List.map_nil, Act.put, List.setIfInBounds_toArray, List.set_cons_succ, List.set_cons_zero, Nat.zero_add, Nat.reduceAdd, Exit.then]
  go_wp2_with (first | (go_at_call 19; (with_reducible refine (c2 _).mono ?_); rintro e w6 ⟨rfl, hB6⟩) )
  go_ret
  exact ⟨rfl, bthen HBL.out hB6⟩
set_option maxRecDepth 100000 in
set_option maxHeartbeats 4000000 in
theorem walk_odd (i u : Nat) (s : ByteArray) (w : World) (hi : i < 256) (hu : u < 256) (h34 : 34 ≤ s.size) (h254 : s.size ≤ 254) (hev : s.size % 2 = 0) (h252 : ¬ (252 : Int) < (s.size : Int)) (hp : ((i : Int) % 2 == 1) = true)
    (c1 : ∀ W : World, Calls Try.prog 21 #[cN i, cN u] W fun e w' => e = .returned (cN s.size) ∧ W = w')
    (c2 : ∀ W : World, Calls Try.prog 19 #[.agg #[.string (zs i), cN 20, cN 5, cN 1794845045, cN 60, cN 0, cN 1, .string (zs u)]] W fun e w' => e = .returned (.tuple #[.string s, cN 0]) ∧ Below W.heap.size W w')
    (c3 : ∀ W : World, Calls Try.prog 21 #[cN i, cN ((u : Int) + 2)] W fun e w' => e = .returned (cN ((s.size : Int) + 2)) ∧ W = w')
    (c4 : ∀ W : World, Calls Try.prog 21 #[cN ((i : Int) + 2), cN u] W fun e w' => e = .returned (cN ((s.size : Int) + 2)) ∧ W = w')
    :
    Calls Try.prog 8 #[.int .u8 (i : Int), .int .u8 (u : Int)] w fun e w' => e = .returned (.bool true) ∧ Below w.heap.size w w' := by
  have z0 : (0 : Int) < (s.size : Int) := by omega
  have z1 : ¬ (s.size : Int) < 34 := by omega
  have z2 : ¬ (254 : Int) < (s.size : Int) := by omega
  have z3 : ((s.size : Int) == 0) = false := by rw [beq_eq_false_iff_ne]; omega
  have z4 : ((s.size : Int) % 2 != 0) = false := by rw [bne_eq_false_iff_eq]; omega
  have w1' : IntKind.i64.wrap (i : Int) = i := by rw [IntKind.wrap_i64]; omega
  have w2' : IntKind.i64.wrap (u : Int) = u := by rw [IntKind.wrap_i64]; omega
  have hmk1 := fun W => make_bytes (P := Try.prog) (t := 37) (e := 5) Try.underlying37 u8Info i (by omega) W
  have hmk2 := fun W => make_bytes (P := Try.prog) (t := 37) (e := 5) Try.underlying37 u8Info u (by omega) W
  rw [made] at hmk1 hmk2
  have i1 : (0 : Int) ≤ (i : Int) := by omega
  have i2 : (0 : Int) ≤ (u : Int) := by omega
  go_enter Try.func8, Try.ntmps8
  go_wp2_with (first | (go_at_call 18; (with_reducible refine (awake_ok _).mono ?_); rintro e w1 ⟨rfl, hB1⟩) | (go_at_call 21; (with_reducible refine (c1 _).mono ?_); rintro e w2 ⟨rfl, rfl⟩) | (go_at_call 28; (with_reducible refine (example_ok _).mono ?_); rintro e w2 ⟨rfl, hB2⟩))
  have hb0 : Bk w2.heap.size (w2.alloc (.cells (recA exR) 23)) exR.id exR.use := World.alloc_heap_new _ _
  refine region_valsW (LeS w2.heap.size (zs i) (zs u)) (vsel (vals w2.heap.size i u)) (by kernel_rfl) (by kernel_rfl) (by rintro ⟨_, _, h, _⟩; cases h) (LeS.refl _ _ _ _) (fun _ _ h k => h.trans k) (vals_keep _ _ _) ?_ ?_
  refine ops_cons ?_ ?_
  · intro us w1 hle hP K' hK
    simp only [predsV, vsel, VC, List.getD_eq_getElem?_getD, List.getElem?_cons_zero, List.getElem?_cons_succ, Option.getD_some, and_true, true_and, and_self] at hP
    simp only [putAll, List.map_cons, List.map_nil, Act.put, List.setIfInBounds_toArray, List.set_cons_succ, List.set_cons_zero, Nat.zero_add, Nat.reduceAdd] at hK ⊢
    simp only [vsel, VC, List.getD_eq_getElem?_getD, List.getElem?_cons_zero, List.getElem?_cons_succ, Option.getD_some] at hK
    try simp only [hP] at hK ⊢
    go_wp2
    exact hK _ _ rfl (LeS.refl _ _ _ _)
  refine ops_cons ?_ ?_
  · intro us w1 hle hP K' hK
    simp only [predsV, vsel, VC, List.getD_eq_getElem?_getD, List.getElem?_cons_zero, List.getElem?_cons_succ, Option.getD_some, and_true, true_and, and_self] at hP
    simp only [putAll, List.map_cons, List.map_nil, Act.put, List.setIfInBounds_toArray, List.set_cons_succ, List.set_cons_zero, Nat.zero_add, Nat.reduceAdd] at hK ⊢
    simp only [vsel, VC, List.getD_eq_getElem?_getD, List.getElem?_cons_zero, List.getElem?_cons_succ, Option.getD_some] at hK
    try simp only [hP] at hK ⊢
    go_wp2
    exact hK _ _ ⟨_, rfl, by have := lt_of_block hb0; have := hle.bb.bel.size; simp at *; omega, World.alloc_heap_new _ _⟩ (LeS.alloc (by have := lt_of_block hb0; have := hle.bb.bel.size; simp at *; omega) _)
  refine ops_cons ?_ ?_
  · intro us w1 hle hP K' hK
    simp only [predsV, vsel, VC, List.getD_eq_getElem?_getD, List.getElem?_cons_zero, List.getElem?_cons_succ, Option.getD_some, and_true, true_and, and_self] at hP
    simp only [putAll, List.map_cons, List.map_nil, Act.put, List.setIfInBounds_toArray, List.set_cons_succ, List.set_cons_zero, Nat.zero_add, Nat.reduceAdd] at hK ⊢
    simp only [vsel, VC, List.getD_eq_getElem?_getD, List.getElem?_cons_zero, List.getElem?_cons_succ, Option.getD_some] at hK
    try simp only [hP] at hK ⊢
    obtain ⟨g, hg1, hgn, hg2⟩ := hP; rw [hg1] at hK ⊢; have hcv := row_string (P := Try.prog) (src := 37) (dst := 9) (n := i) (cap := i) Try.underlying37 Try.underlying5 Try.underlying9 (List.length_replicate ..) hg2; clear hg1 hg2; go_wp2
    exact hK _ _ rfl (LeS.refl _ _ _ _)
  refine ops_cons ?_ ?_
  · intro us w1 hle hP K' hK
    simp only [predsV, vsel, VC, List.getD_eq_getElem?_getD, List.getElem?_cons_zero, List.getElem?_cons_succ, Option.getD_some, and_true, true_and, and_self] at hP
    simp only [putAll, List.map_cons, List.map_nil, Act.put, List.setIfInBounds_toArray, List.set_cons_succ, List.set_cons_zero, Nat.zero_add, Nat.reduceAdd] at hK ⊢
    simp only [vsel, VC, List.getD_eq_getElem?_getD, List.getElem?_cons_zero, List.getElem?_cons_succ, Option.getD_some] at hK
    try simp only [hP] at hK ⊢
    go_wp2
    exact hK _ _ rfl (LeS.refl _ _ _ _)
  refine ops_cons ?_ ?_
  · intro us w1 hle hP K' hK
    simp only [predsV, vsel, VC, List.getD_eq_getElem?_getD, List.getElem?_cons_zero, List.getElem?_cons_succ, Option.getD_some, and_true, true_and, and_self] at hP
    simp only [putAll, List.map_cons, List.map_nil, Act.put, List.setIfInBounds_toArray, List.set_cons_succ, List.set_cons_zero, Nat.zero_add, Nat.reduceAdd] at hK ⊢
    simp only [vsel, VC, List.getD_eq_getElem?_getD, List.getElem?_cons_zero, List.getElem?_cons_succ, Option.getD_some] at hK
    try simp only [hP] at hK ⊢
    go_wp2
    exact hK _ _ ⟨_, rfl, by have := lt_of_block hb0; have := hle.bb.bel.size; simp at *; omega, World.alloc_heap_new _ _⟩ (LeS.alloc (by have := lt_of_block hb0; have := hle.bb.bel.size; simp at *; omega) _)
  refine ops_cons ?_ ?_
  · intro us w1 hle hP K' hK
    simp only [predsV, vsel, VC, List.getD_eq_getElem?_getD, List.getElem?_cons_zero, List.getElem?_cons_succ, Option.getD_some, and_true, true_and, and_self] at hP
    simp only [putAll, List.map_cons, List.map_nil, Act.put, List.setIfInBounds_toArray, List.set_cons_succ, List.set_cons_zero, Nat.zero_add, Nat.reduceAdd] at hK ⊢
    simp only [vsel, VC, List.getD_eq_getElem?_getD, List.getElem?_cons_zero, List.getElem?_cons_succ, Option.getD_some] at hK
    try simp only [hP] at hK ⊢
    obtain ⟨g, hg1, hgn, hg2⟩ := hP; rw [hg1] at hK ⊢; have hcv := row_string (P := Try.prog) (src := 37) (dst := 9) (n := u) (cap := u) Try.underlying37 Try.underlying5 Try.underlying9 (List.length_replicate ..) hg2; clear hg1 hg2; go_wp2
    exact hK _ _ rfl (LeS.refl _ _ _ _)
  refine ops_cons ?_ ?_
  · intro us w1 hle hP K' hK
    simp only [predsV, vsel, VC, List.getD_eq_getElem?_getD, List.getElem?_cons_zero, List.getElem?_cons_succ, Option.getD_some, and_true, true_and, and_self] at hP
    simp only [putAll, List.map_cons, List.map_nil, Act.put, List.setIfInBounds_toArray, List.set_cons_succ, List.set_cons_zero, Nat.zero_add, Nat.reduceAdd] at hK ⊢
    simp only [vsel, VC, List.getD_eq_getElem?_getD, List.getElem?_cons_zero, List.getElem?_cons_succ, Option.getD_some] at hK
    try simp only [hP] at hK ⊢
    go_wp2
    exact hK _ _ rfl (LeS.refl _ _ _ _)
  refine ops_cons ?_ ?_
  · intro us w1 hle hP K' hK
    simp only [predsV, vsel, VC, List.getD_eq_getElem?_getD, List.getElem?_cons_zero, List.getElem?_cons_succ, Option.getD_some, and_true, true_and, and_self] at hP
    simp only [putAll, List.map_cons, List.map_nil, Act.put, List.setIfInBounds_toArray, List.set_cons_succ, List.set_cons_zero, Nat.zero_add, Nat.reduceAdd] at hK ⊢
    simp only [vsel, VC, List.getD_eq_getElem?_getD, List.getElem?_cons_zero, List.getElem?_cons_succ, Option.getD_some] at hK
    try simp only [hP] at hK ⊢
    obtain ⟨x', y', hb', -, -⟩ := hle.keep _ _ hb0; have hf := Lib.frozen_of_heap hb' 0; have hc := Lib.cell_of_heap hb' 0; simp only [rx] at hc; go_wp2
    exact hK undef _ ⟨_, (LeS.id (Y := zs u) hb').2⟩ (LeS.id hb').1
  refine ops_cons ?_ ?_
  · intro us w1 hle hP K' hK
    simp only [predsV, vsel, VC, List.getD_eq_getElem?_getD, List.getElem?_cons_zero, List.getElem?_cons_succ, Option.getD_some, and_true, true_and, and_self] at hP
    simp only [putAll, List.map_cons, List.map_nil, Act.put, List.setIfInBounds_toArray, List.set_cons_succ, List.set_cons_zero, Nat.zero_add, Nat.reduceAdd] at hK ⊢
    simp only [vsel, VC, List.getD_eq_getElem?_getD, List.getElem?_cons_zero, List.getElem?_cons_succ, Option.getD_some] at hK
    try simp only [hP] at hK ⊢
    go_wp2
    exact hK _ _ rfl (LeS.refl _ _ _ _)
  refine ops_cons ?_ ?_
  · intro us w1 hle hP K' hK
    simp only [predsV, vsel, VC, List.getD_eq_getElem?_getD, List.getElem?_cons_zero, List.getElem?_cons_succ, Option.getD_some, and_true, true_and, and_self] at hP
    simp only [putAll, List.map_cons, List.map_nil, Act.put, List.setIfInBounds_toArray, List.set_cons_succ, List.set_cons_zero, Nat.zero_add, Nat.reduceAdd] at hK ⊢
    simp only [vsel, VC, List.getD_eq_getElem?_getD, List.getElem?_cons_zero, List.getElem?_cons_succ, Option.getD_some] at hK
    try simp only [hP] at hK ⊢
    obtain ⟨x', y', hb', -, -⟩ := hle.keep _ _ hb0; have hf := Lib.frozen_of_heap hb' 7; have hc := Lib.cell_of_heap hb' 7; simp only [rx] at hc; go_wp2
    exact hK undef _ ⟨_, (LeS.us (X := zs i) hb').2⟩ (LeS.us hb').1
  · exact ops_nil _ _
  intro us w5 hle hV
  obtain ⟨y1, hy1⟩ : VX w2.heap.size (zs i) w5 (us 7) := hV 7 (by decide)
  obtain ⟨x1, hx1⟩ : VY w2.heap.size (zs u) w5 (us 9) := hV 9 (by decide)
  obtain ⟨rfl, rfl⟩ := hy1.inj hx1
  have hy2 : w5.heap[w2.heap.size]? = some (.cells #[.string (zs i), cN 20, cN 5, cN 1794845045, cN 60, cN 0, cN 1, .string (zs u)] 23 (0, 0)) := hy1
  obtain ⟨q0, q1, q2, q3, q4, q5, q6, q7⟩ := cells8 hy2
  have HBL : Hid (Below w.heap.size w w5) := Lib.hid (bthen (bthen hB1 hB2) (((Below.refl _ _).alloc (Nat.le_refl _) _).drew.trans hle.bb.bel))
  clear hV hle hy1 hx1 hy2 hb0 hmk1 hmk2
  simp only [putAll, List.map_cons, List.map_nil, Act.put, List.setIfInBounds_toArray, List.set_cons_succ, List.set_cons_zero, Nat.zero_add, Nat.reduceAdd, Exit.then]
  go_wp2_with (first | (go_at_call 19; (with_reducible refine (c2 _).mono ?_); rintro e w6 ⟨rfl, hB6⟩) | (go_at_call 21; (with_reducible refine (c3 _).mono ?_); rintro e w7 ⟨rfl, rfl⟩) | (go_at_call 21; (with_reducible refine (c4 _).mono ?_); rintro e w7 ⟨rfl, rfl⟩))
  go_ret
  exact ⟨rfl, bthen HBL.out hB6⟩
set_option maxRecDepth 100000 in
set_option maxHeartbeats 4000000 in
theorem walk_even (i u : Nat) (s : ByteArray) (w : World) (hi : i < 256) (hu : u < 256) (h34 : 34 ≤ s.size) (h254 : s.size ≤ 254) (hev : s.size % 2 = 0) (h252 : ¬ (252 : Int) < (s.size : Int)) (hp : ((i : Int) % 2 == 1) = false)
    (c1 : ∀ W : World, Calls Try.prog 21 #[cN i, cN u] W fun e w' => e = .returned (cN s.size) ∧ W = w')
    (c2 : ∀ W : World, Calls Try.prog 19 #[.agg #[.string (zs i), cN 20, cN 5, cN 1794845045, cN 60, cN 0, cN 1, .string (zs u)]] W fun e w' => e = .returned (.tuple #[.string s, cN 0]) ∧ Below W.heap.size W w')
    (c3 : ∀ W : World, Calls Try.prog 21 #[cN i, cN ((u : Int) + 2)] W fun e w' => e = .returned (cN ((s.size : Int) + 2)) ∧ W = w')
    (c4 : ∀ W : World, Calls Try.prog 21 #[cN ((i : Int) + 2), cN u] W fun e w' => e = .returned (cN ((s.size : Int) + 2)) ∧ W = w')
    (c5 : ∀ W : World, Calls Try.prog 21 #[cN ((i : Int) + 1), cN u] W fun e w' => e = .returned (cN s.size) ∧ W = w')
    :
    Calls Try.prog 8 #[.int .u8 (i : Int), .int .u8 (u : Int)] w fun e w' => e = .returned (.bool true) ∧ Below w.heap.size w w' := by
  have z0 : (0 : Int) < (s.size : Int) := by omega
  have z1 : ¬ (s.size : Int) < 34 := by omega
  have z2 : ¬ (254 : Int) < (s.size : Int) := by omega
  have z3 : ((s.size : Int) == 0) = false := by rw [beq_eq_false_iff_ne]; omega
  have z4 : ((s.size : Int) % 2 != 0) = false := by rw [bne_eq_false_iff_eq]; omega
  have w1' : IntKind.i64.wrap (i : Int) = i := by rw [IntKind.wrap_i64]; omega
  have w2' : IntKind.i64.wrap (u : Int) = u := by rw [IntKind.wrap_i64]; omega
  have hmk1 := fun W => make_bytes (P := Try.prog) (t := 37) (e := 5) Try.underlying37 u8Info i (by omega) W
  have hmk2 := fun W => make_bytes (P := Try.prog) (t := 37) (e := 5) Try.underlying37 u8Info u (by omega) W
  rw [made] at hmk1 hmk2
  have i1 : (0 : Int) ≤ (i : Int) := by omega
  have i2 : (0 : Int) ≤ (u : Int) := by omega
  go_enter Try.func8, Try.ntmps8
  go_wp2_with (first | (go_at_call 18; (with_reducible refine (awake_ok _).mono ?_); rintro e w1 ⟨rfl, hB1⟩) | (go_at_call 21; (with_reducible refine (c1 _).mono ?_); rintro e w2 ⟨rfl, rfl⟩) | (go_at_call 28; (with_reducible refine (example_ok _).mono ?_); rintro e w2 ⟨rfl, hB2⟩))
  have hb0 : Bk w2.heap.size (w2.alloc (.cells (recA exR) 23)) exR.id exR.use := World.alloc_heap_new _ _
  refine region_valsW (LeS w2.heap.size (zs i) (zs u)) (vsel (vals w2.heap.size i u)) (by kernel_rfl) (by kernel_rfl) (by rintro ⟨_, _, h, _⟩; cases h) (LeS.refl _ _ _ _) (fun _ _ h k => h.trans k) (vals_keep _ _ _) ?_ ?_
  refine ops_cons ?_ ?_
  · intro us w1 hle hP K' hK
    simp only [predsV, vsel, VC, List.getD_eq_getElem?_getD, List.getElem?_cons_zero, List.getElem?_cons_succ, Option.getD_some, and_true, true_and, and_self] at hP
    simp only [putAll, List.map_cons, List.map_nil, Act.put, List.setIfInBounds_toArray, List.set_cons_succ, List.set_cons_zero, Nat.zero_add, Nat.reduceAdd] at hK ⊢
    simp only [vsel, VC, List.getD_eq_getElem?_getD, List.getElem?_cons_zero, List.getElem?_cons_succ, Option.getD_some] at hK
    try simp only [hP] at hK ⊢
    go_wp2
    exact hK _ _ rfl (LeS.refl _ _ _ _)
  refine ops_cons ?_ ?_
  · intro us w1 hle hP K' hK
    simp only [predsV, vsel, VC, List.getD_eq_getElem?_getD, List.getElem?_cons_zero, List.getElem?_cons_succ, Option.getD_some, and_true, true_and, and_self] at hP
    simp only [putAll, List.map_cons, List.map_nil, Act.put, List.setIfInBounds_toArray, List.set_cons_succ, List.set_cons_zero, Nat.zero_add, Nat.reduceAdd] at hK ⊢
    simp only [vsel, VC, List.getD_eq_getElem?_getD, List.getElem?_cons_zero, List.getElem?_cons_succ, Option.getD_some] at hK
    try simp only [hP] at hK ⊢
    go_wp2
    exact hK _ _ ⟨_, rfl, by have := lt_of_block hb0; have := hle.bb.bel.size; simp at *; omega, World.alloc_heap_new _ _⟩ (LeS.alloc (by have := lt_of_block hb0; have := hle.bb.bel.size; simp at *; omega) _)
  refine ops_cons ?_ ?_
  · intro us w1 hle hP K' hK
    simp only [predsV, vsel, VC, List.getD_eq_getElem?_getD, List.getElem?_cons_zero, List.getElem?_cons_succ, Option.getD_some, and_true, true_and, and_self] at hP
    simp only [putAll, List.map_cons, List.map_nil, Act.put, List.setIfInBounds_toArray, List.set_cons_succ, List.set_cons_zero, Nat.zero_add, Nat.reduceAdd] at hK ⊢
    simp only [vsel, VC, List.getD_eq_getElem?_getD, List.getElem?_cons_zero, List.getElem?_cons_succ, Option.getD_some] at hK
    try simp only [hP] at hK ⊢
    obtain ⟨g, hg1, hgn, hg2⟩ := hP; rw [hg1] at hK ⊢; have hcv := row_string (P := Try.prog) (src := 37) (dst := 9) (n := i) (cap := i) Try.underlying37 Try.underlying5 Try.underlying9 (List.length_replicate ..) hg2; clear hg1 hg2; go_wp2
    exact hK _ _ rfl (LeS.refl _ _ _ _)
  refine ops_cons ?_ ?_
  · intro us w1 hle hP K' hK
    simp only [predsV, vsel, VC, List.getD_eq_getElem?_getD, List.getElem?_cons_zero, List.getElem?_cons_succ, Option.getD_some, and_true, true_and, and_self] at hP
    simp only [putAll, List.map_cons, List.map_nil, Act.put, List.setIfInBounds_toArray, List.set_cons_succ, List.set_cons_zero, Nat.zero_add, Nat.reduceAdd] at hK ⊢
    simp only [vsel, VC, List.getD_eq_getElem?_getD, List.getElem?_cons_zero, List.getElem?_cons_succ, Option.getD_some] at hK
    try simp only [hP] at hK ⊢
    go_wp2
    exact hK _ _ rfl (LeS.refl _ _ _ _)
  refine ops_cons ?_ ?_
  · intro us w1 hle hP K' hK
    simp only [predsV, vsel, VC, List.getD_eq_getElem?_getD, List.getElem?_cons_zero, List.getElem?_cons_succ, Option.getD_some, and_true, true_and, and_self] at hP
    simp only [putAll, List.map_cons, List.map_nil, Act.put, List.setIfInBounds_toArray, List.set_cons_succ, List.set_cons_zero, Nat.zero_add, Nat.reduceAdd] at hK ⊢
    simp only [vsel, VC, List.getD_eq_getElem?_getD, List.getElem?_cons_zero, List.getElem?_cons_succ, Option.getD_some] at hK
    try simp only [hP] at hK ⊢
    go_wp2
    exact hK _ _ ⟨_, rfl, by have := lt_of_block hb0; have := hle.bb.bel.size; simp at *; omega, World.alloc_heap_new _ _⟩ (LeS.alloc (by have := lt_of_block hb0; have := hle.bb.bel.size; simp at *; omega) _)
  refine ops_cons ?_ ?_
  · intro us w1 hle hP K' hK
    simp only [predsV, vsel, VC, List.getD_eq_getElem?_getD, List.getElem?_cons_zero, List.getElem?_cons_succ, Option.getD_some, and_true, true_and, and_self] at hP
    simp only [putAll, List.map_cons, List.map_nil, Act.put, List.setIfInBounds_toArray, List.set_cons_succ, List.set_cons_zero, Nat.zero_add, Nat.reduceAdd] at hK ⊢
    simp only [vsel, VC, List.getD_eq_getElem?_getD, List.getElem?_cons_zero, List.getElem?_cons_succ, Option.getD_some] at hK
    try simp only [hP] at hK ⊢
    obtain ⟨g, hg1, hgn, hg2⟩ := hP; rw [hg1] at hK ⊢; have hcv := row_string (P := Try.prog) (src := 37) (dst := 9) (n := u) (cap := u) Try.underlying37 Try.underlying5 Try.underlying9 (List.length_replicate ..) hg2; clear hg1 hg2; go_wp2
    exact hK _ _ rfl (LeS.refl _ _ _ _)
  refine ops_cons ?_ ?_
  · intro us w1 hle hP K' hK
    simp only [predsV, vsel, VC, List.getD_eq_getElem?_getD, List.getElem?_cons_zero, List.getElem?_cons_succ, Option.getD_some, and_true, true_and, and_self] at hP
    simp only [putAll, List.map_cons, List.map_nil, Act.put, List.setIfInBounds_toArray, List.set_cons_succ, List.set_cons_zero, Nat.zero_add, Nat.reduceAdd] at hK ⊢
    simp only [vsel, VC, List.getD_eq_getElem?_getD, List.getElem?_cons_zero, List.getElem?_cons_succ, Option.getD_some] at hK
    try simp only [hP] at hK ⊢
    go_wp2
    exact hK _ _ rfl (LeS.refl _ _ _ _)
  refine ops_cons ?_ ?_
  · intro us w1 hle hP K' hK
    simp only [predsV, vsel, VC, List.getD_eq_getElem?_getD, List.getElem?_cons_zero, List.getElem?_cons_succ, Option.getD_some, and_true, true_and, and_self] at hP
    simp only [putAll, List.map_cons, List.map_nil, Act.put, List.setIfInBounds_toArray, List.set_cons_succ, List.set_cons_zero, Nat.zero_add, Nat.reduceAdd] at hK ⊢
    simp only [vsel, VC, List.getD_eq_getElem?_getD, List.getElem?_cons_zero, List.getElem?_cons_succ, Option.getD_some] at hK
    try simp only [hP] at hK ⊢
    obtain ⟨x', y', hb', -, -⟩ := hle.keep _ _ hb0; have hf := Lib.frozen_of_heap hb' 0; have hc := Lib.cell_of_heap hb' 0; simp only [rx] at hc; go_wp2
    exact hK undef _ ⟨_, (LeS.id (Y := zs u) hb').2⟩ (LeS.id hb').1
  refine ops_cons ?_ ?_
  · intro us w1 hle hP K' hK
    simp only [predsV, vsel, VC, List.getD_eq_getElem?_getD, List.getElem?_cons_zero, List.getElem?_cons_succ, Option.getD_some, and_true, true_and, and_self] at hP
    simp only [putAll, List.map_cons, List.map_nil, Act.put, List.setIfInBounds_toArray, List.set_cons_succ, List.set_cons_zero, Nat.zero_add, Nat.reduceAdd] at hK ⊢
    simp only [vsel, VC, List.getD_eq_getElem?_getD, List.getElem?_cons_zero, List.getElem?_cons_succ, Option.getD_some] at hK
    try simp only [hP] at hK ⊢
    go_wp2
    exact hK _ _ rfl (LeS.refl _ _ _ _)
  refine ops_cons ?_ ?_
  · intro us w1 hle hP K' hK
    simp only [predsV, vsel, VC, List.getD_eq_getElem?_getD, List.getElem?_cons_zero, List.getElem?_cons_succ, Option.getD_some, and_true, true_and, and_self] at hP
    simp only [putAll, List.map_cons, List.map_nil, Act.put, List.setIfInBounds_toArray, List.set_cons_succ, List.set_cons_zero, Nat.zero_add, Nat.reduceAdd] at hK ⊢
    simp only [vsel, VC, List.getD_eq_getElem?_getD, List.getElem?_cons_zero, List.getElem?_cons_succ, Option.getD_some] at hK
    try simp only [hP] at hK ⊢
    obtain ⟨x', y', hb', -, -⟩ := hle.keep _ _ hb0; have hf := Lib.frozen_of_heap hb' 7; have hc := Lib.cell_of_heap hb' 7; simp only [rx] at hc; go_wp2
    exact hK undef _ ⟨_, (LeS.us (X := zs i) hb').2⟩ (LeS.us hb').1
  · exact ops_nil _ _
  intro us w5 hle hV
  obtain ⟨y1, hy1⟩ : VX w2.heap.size (zs i) w5 (us 7) := hV 7 (by decide)
  obtain ⟨x1, hx1⟩ : VY w2.heap.size (zs u) w5 (us 9) := hV 9 (by decide)
  obtain ⟨rfl, rfl⟩ := hy1.inj hx1
  have hy2 : w5.heap[w2.heap.size]? = some (.cells #[.string (zs i), cN 20, cN 5, cN 1794845045, cN 60, cN 0, cN 1, .string (zs u)] 23 (0, 0)) := hy1
  obtain ⟨q0, q1, q2, q3, q4, q5, q6, q7⟩ := cells8 hy2
  have HBL : Hid (Below w.heap.size w w5) := Lib.hid (bthen (bthen hB1 hB2) (((Below.refl _ _).alloc (Nat.le_refl _) _).drew.trans hle.bb.bel))
  clear hV hle hy1 hx1 hy2 hb0 hmk1 hmk2
  simp only [putAll, List.map_cons, List.map_nil, Act.put, List.setIfInBounds_toArray, List.set_cons_succ, List.set_cons_zero, Nat.zero_add, Nat.reduceAdd, Exit.then]
  go_wp2_with (first | (go_at_call 19; (with_reducible refine (c2 _).mono ?_); rintro e w6 ⟨rfl, hB6⟩) | (go_at_call 21; (with_reducible refine (c3 _).mono ?_); rintro e w7 ⟨rfl, rfl⟩) | (go_at_call 21; (with_reducible refine (c4 _).mono ?_); rintro e w7 ⟨rfl, rfl⟩) | (go_at_call 21; (with_reducible refine (c5 _).mono ?_); rintro e w7 ⟨rfl, rfl⟩))
  go_ret
  exact ⟨rfl, bthen HBL.out hB6⟩
theorem size_plus {i u n : Nat} (h : sizeI i u = n) (h0 : n ≠ 0) (h252 : n ≤ 252) : sizeI i ((u : Int) + 2) = (n : Int) + 2 ∧ sizeI ((i : Int) + 2) u = (n : Int) + 2 ∧ ((i : Int) % 2 = 0 → sizeI ((i : Int) + 1) u = n) := by
  obtain ⟨f1, f2, f3, f4, f5, f6, f7⟩ := size_facts h h0
  unfold padN at f7
  refine ⟨?_, ?_, fun hp => ?_⟩
  · rw [sizeI, if_pos (by omega)]
    omega
  · rw [sizeI, if_pos (by omega)]
    omega
  · rw [sizeI, if_pos (by omega)]
    omega
theorem zs_size (n : Nat) : (zs n).size = n := by
  rw [← list_size]
  simp [zs]
theorem walk (i u : Int) (hi : (Lit.int .u8 i).wf = true) (hu : (Lit.int .u8 u).wf = true) (w : World) : Calls Try.prog 8 #[.int .u8 i, .int .u8 u] w fun e w' => e = .returned (.bool true) ∧ Below w.heap.size w w' := by
  have hi' := u8_of_wf hi
  have hu' := u8_of_wf hu
  obtain ⟨i, rfl⟩ : ∃ k : Nat, i = k := ⟨i.toNat, by omega⟩
  obtain ⟨u, rfl⟩ : ∃ k : Nat, u = k := ⟨u.toNat, by omega⟩
  have c1 := fun W => size_ok i u W
  have c2 := fun W => encode_ok (rx (zs i) (zs u)) (recB ⟨56, 10, 15⟩ 17 4 5 60) 0 W (.inl rfl) (Nat.le_refl 7) (by show (zs i).size ≤ maxLen; rw [zs_size]; unfold maxLen; omega) (by show (zs u).size ≤ maxLen; rw [zs_size]; unfold maxLen; omega) (recS_good (t := 1794845045) (z := 60) exIn exTime).main
  have e1 : (rx (zs i) (zs u)).id.size = i := zs_size i
  have e2 : (rx (zs i) (zs u)).use.size = u := zs_size u
  have hs := sizeI_le (i : Int) (u : Int)
  by_cases h0 : sizeI i u = 0
  · have hne : errM (rx (zs i) (zs u)) 0 ≠ 0 := by
      unfold errM
      rw [e1, e2, h0]
      split
      · decide
      · simp
    rw [h0] at c1
    rw [strM, if_neg hne] at c2
    exact walk_none i u _ w (by omega) (by omega) (by rw [bne_iff_ne]; exact hne) (by rw [beq_eq_false_iff_ne]; exact hne) c1 c2
  · obtain ⟨n, hn⟩ : ∃ n : Nat, sizeI i u = n := ⟨(sizeI i u).toNat, by omega⟩
    obtain ⟨f1, f2, f3, f4, f5, f6, f7⟩ := size_facts hn (by omega)
    have hg := errM_good (rx (zs i) (zs u)) (recB ⟨56, 10, 15⟩ 17 4 5 60) 0 (by rw [e1, e2]; omega) (by rw [e1, e2]; exact h0) ⟨(encX_zero _ _).2 ⟨rfl, by show inR 20 4 = true; decide, by show inR 5 4 = true; decide, by show inR 1 2 = true; decide⟩, by show (0 : Int) ≤ 0; omega, by show (0 : Int) ≤ 255; omega⟩
    obtain ⟨m, H, F⟩ : ∃ m H, EncF (rx (zs i) (zs u)) m H (strM (rx (zs i) (zs u)) (recB ⟨56, 10, 15⟩ 17 4 5 60) 0) := by
      obtain ⟨hH, hd⟩ := head_of_enc (r := rx (zs i) (zs u)) (n := n) exIn exTime (by show inR 20 4 = true; decide) (by show inR 5 4 = true; decide) (by show inR 1 2 = true; decide) (by show (0 : Int) ≤ 0; omega) (by show (0 : Int) ≤ 255; omega) (by omega)
      exact ⟨n, _, hH, hd, by rw [e1, e2]; exact hn, by omega, by rw [hg.2, e1, e2, hn, ← encL_head]; rfl⟩
    have hm : sizeI i u = m := by
      have := F.hn
      rwa [e1, e2] at this
    rw [hg.1] at c2
    have hz := F.size
    generalize strM (rx (zs i) (zs u)) (recB ⟨56, 10, 15⟩ 17 4 5 60) 0 = s at c2 F hz
    obtain rfl := hz
    obtain rfl : n = s.size := by omega
    rw [hn] at c1
    by_cases h2 : s.size ≤ 252
    · obtain ⟨p1, p2, p3⟩ := size_plus hn (by omega) h2
      have c3 := fun W => size_ok i ((u : Int) + 2) W
      have c4 := fun W => size_ok ((i : Int) + 2) u W
      rw [p1] at c3
      rw [p2] at c4
      rcases Nat.mod_two_eq_zero_or_one i with hp | hp
      · have c5 := fun W => size_ok ((i : Int) + 1) u W
        rw [p3 (by omega)] at c5
        exact walk_even i u s w (by omega) (by omega) f1 f2 f3 (by omega) (by rw [beq_eq_false_iff_ne]; omega) c1 c2 c3 c4 c5
      · exact walk_odd i u s w (by omega) (by omega) f1 f2 f3 (by omega) (by rw [beq_iff_eq]; omega) c1 c2 c3 c4
    · exact walk_full i u s w (by omega) (by omega) f1 f2 f3 (by omega) c1 c2
theorem own : ownKnob Try.prog.godebug = none := by kernel_rfl
theorem laidOut : laidOutB Try.prog = true := by kernel_rfl
set_option maxRecDepth 100000 in
theorem lifted (os : Os) (started : os.Started) (H : Type) (enc : TypeId × Value → H) :
    ReturnsInHanded {} Try.checked os 8 .any (Rows.dirrecordSizesSpec.pre6 enc Try.prog Try.f8 Rows.dirrecordSizesRow.domain false) (Rows.dirrecordSizesSpec.post enc Try.prog Try.f8 false true false false) := by
  refine returnsInHanded_of_change (C := Try.checked) own started (by kernel_rfl) Try.func8
    (ChangeSpec.witness6 (enc := enc) (C := Try.checked) false ⟨#[], #[.int .u8 0, .int .u8 0], []⟩ 8 (by kernel_rfl) (by kernel_rfl) (by kernel_rfl) (by kernel_rfl)) ?_
  intro W base args ds gs before hval0 hW hcnd _
  have hval : ∀ (j : Nat) t v, Try.f8.params[j]? = some t → args[j]? = some v → Value.okWide Try.prog W .any base t v := hval0
  have hW' := hW
  obtain ⟨p, q, hA0, hV, rfl, hfz, hnd⟩ := hW
  have hA : DataW.TrodAll enc Try.prog W 0 (fun _ => true) true Try.f8.params.toList args.toList ds p := hA0
  rw [Try.params8] at hA hval
  obtain ⟨v0, vs0, d0, ds0, p0, q0, hargs, rfl, rfl, h0, r0⟩ := trodAll_cons hA
  obtain ⟨v1, vs1, d1, ds1, p1, q1, rfl, rfl, rfl, h1, r1⟩ := trodAll_cons r0
  obtain ⟨rfl, rfl, rfl⟩ := trodAll_nil r1
  obtain rfl : args = #[v0, v1] := by cases args; simp_all
  obtain ⟨rfl, rfl⟩ := trodVars_none hV
  obtain ⟨a0, rfl, rfl, rfl, w0⟩ := open_int Try.underlying5 (hval 0 5 v0 rfl rfl) h0
  obtain ⟨a1, rfl, rfl, rfl, w1⟩ := open_int Try.underlying5 (hval 1 5 v1 rfl rfl) h1
  clear hA0 hval0
  simp only [List.append_nil] at hW'
  refine (walk a0 a1 w0 w1 W).mono fun e W' ⟨he, bel⟩ => ?_
  subst he
  exact ⟨_, rfl, _, _, _, [], _, [], hW', trodAll_mk1 (shut_bool Try.underlying4 _), (trodAll_cons_mk (shut_int Try.underlying5 w0) (trodAll_cons_mk (shut_int Try.underlying5 w1) trodAll_mk0)), rfl, bel.frame _, fun h => by cases h⟩
theorem over : Rows.dirrecordSizesRow.holds Try.pinned (OpenSpec.ofChange Rows.dirrecordSizesSpec) :=
  OpenClaim.holds_of_wide 8 Try.f8 rfl rfl rfl rfl rfl rfl rfl ⟨rfl, rfl, rfl, rfl, rfl⟩ rfl rfl rfl rfl rfl (by as_aux_lemma => kernel_rfl) Try.func8 closed
    (of_decide_eq_true (by as_aux_lemma => kernel_rfl)) (by as_aux_lemma => (unfold Func.isWrapper; first | (rw [if_pos (by decide +kernel)]; kernel_rfl) | (rw [if_neg (by decide +kernel)]; exact ⟨rfl, rfl⟩)))
    (fun os started H enc _ => lifted os started H enc)
theorem proved : Rows.DirrecordSizesSaid := over
#print axioms proved
end Go.Proofs.Ytnmlephjhcmbhaa.dirrecordSizes
