/- Small laws of no program: integers' bits, rows of bytes, strings and slices of bytes, blocks of the heap. A region that draws its order, walked in ONE order: operations that give the same value in every world that meets S ('floats') are taken first; the others ('loud') one by one. A region that draws its order: a loud operation that its guard passes over. A region that draws its order, walked operation by operation, WHATEVER THE ORDER: each operation's value is told by a predicate that later worlds keep. A region that draws its order, walked operation by operation, where an edge that does not bind goes forward. A region in any order, its frame worked out once. -/
import Derived.WalkKit
import Derived.WalkSpells
import Derived.WalkLawsBesides
import Derived.Lib.Hide
import Derived.Lib.SlicesS
import Derived.Lib.Walk
import Derived.Lib.AppendStr
import Derived.Lib.Builder
import Derived.OrdersIn
import Derived.RangeFuncCalls
namespace Go.Proofs.YtnmlephjhcmbhaaGreat
set_option linter.unusedSimpArgs false
set_option linter.unusedVariables false
open Go Go.RowKit
theorem wraps_i64 (n : Int) (h0 : 0 ≤ n) (h1 : n < 2 ^ 62) : IntKind.i64.wrap n = n := by rw [IntKind.wrap_i64]; omega
theorem i64_and {a b : Nat} (ha : a < 2 ^ 62) (hb : b < 2 ^ 62) : bits .and .i64 (a : Int) (b : Int) = ((a &&& b : Nat) : Int) := (bits_nat .i64 62 (by decide) wraps_i64 a b ha hb).1
theorem i64_or {a b : Nat} (ha : a < 2 ^ 62) (hb : b < 2 ^ 62) : bits .or .i64 (a : Int) (b : Int) = ((a ||| b : Nat) : Int) := (bits_nat .i64 62 (by decide) wraps_i64 a b ha hb).2
theorem i64_xor {a b : Nat} (ha : a < 2 ^ 62) (hb : b < 2 ^ 62) : bits .xor .i64 (a : Int) (b : Int) = ((a ^^^ b : Nat) : Int) := by
  have hp : 2 ^ 62 ≤ 2 ^ IntKind.i64.bits := by decide
  have ha' : a % 2 ^ IntKind.i64.bits = a := Nat.mod_eq_of_lt (Nat.lt_of_lt_of_le ha hp)
  have hb' : b % 2 ^ IntKind.i64.bits = b := Nat.mod_eq_of_lt (Nat.lt_of_lt_of_le hb hp)
  simp only [bits, BitVec.ofInt_natCast, BitVec.toNat_xor, BitVec.toNat_ofNat, ha', hb']
  exact wraps_i64 _ (Int.natCast_nonneg _) (by exact_mod_cast Nat.xor_lt_two_pow ha hb)
theorem ret_int {k : IntKind} {a b : Int} (h : a = b) : Ending.returned (.int k a) = .returned (.int k b) := by rw [h]
def cb (bs : List UInt8) : List Value := bs.map fun b => .int .u8 (b.toNat : Int)
theorem cb_length (bs : List UInt8) : (cb bs).length = bs.length := by simp [cb]
theorem cb_snoc (bs : List UInt8) (b : UInt8) : cb (bs ++ [b]) = cb bs ++ [.int .u8 (b.toNat : Int)] := by simp [cb]
theorem own_bytes_string {P : Program} {w : World} {base e src dst n : Nat} {v : Value} {bs : List UInt8}
    (hs : P.underlying src = some (.slice e)) (he : P.underlying e = some (.int .u8)) (hd : P.underlying dst = some .string)
    (h : w.ownsRow base e 1 v n (cb bs)) : (convert src dst v).run P w = .ok (.string ⟨bs.toArray⟩) w := by
  have hlen : bs.length = n := by have := h.1; simpa [cb_length] using this
  rcases h.2 with ⟨rfl, rfl⟩ | ⟨g, cap, cur, rfl, hb, hg, hnc, hcm, hcs, htake⟩
  · obtain rfl : bs = [] := List.eq_nil_of_length_eq_zero hlen
    exact run_convert_bytes_nil (P := P) w src e hs he 0 0 dst hd
  · rw [run_convert_bytes_arg (P := P) w src e hs he g 0 n cap (bs.map fun b => (b.toNat : Int)) (by simpa using hlen) ?_ dst hd]
    · congr 2
      simp only [strOfNums, List.map_map]
      congr 2
      rw [show ((fun n : Int => UInt8.ofNat n.toNat) ∘ fun b : UInt8 => (b.toNat : Int)) = id from by funext b; simp]
      simp
    · intro i hi
      have hc := World.ownsRow.cellAt h i (by omega)
      rw [Nat.zero_add, hc]
      simp [cb, List.getElem?_eq_getElem (show i < bs.length by omega)]

theorem make_bytes {P : Program} {t e : TypeId} (ht : P.underlying t = some (.slice e)) (hinfo : (P.info? e).map (fun i => (i.zero, i.size, i.bytes)) = some (some (.int .u8 0), 1, 1)) (n : Nat) (hn : n ≤ 140737488355328) (w : World) :
    (Instr.makeSlice t (.int .i64 n) (.int .i64 n)).run P w = .ok (.slice (some ⟨w.heap.size, 0, none⟩) n n) (w.alloc (.cells (Array.replicate n (.int .u8 0)) e)) := by
  obtain ⟨i0, hi, hz0, hz1, hz2⟩ := info_parts hinfo
  rw [run_make (P := P) w t e i0 _ ht hi hz0 .i64 .i64 n n (by omega) (by omega) (by rw [hz2]; omega) (by omega), hz1]
  have : madeCells (Value.int IntKind.u8 0).cells ((n : Int).toNat * 1) = Array.replicate n (Value.int IntKind.u8 0) := by
    apply Array.toList_inj.1
    rw [show (Value.int IntKind.u8 0).cells = #[Value.int IntKind.u8 0] from rfl, toList_madeCells_one]
    simp
  rw [this]
  rfl
theorem heap_alloc_get (w : World) (o : Obj) (k : Nat) : (w.alloc o).heap[k]? = if k = w.heap.size then some o else w.heap[k]? := by
  show (w.heap.push o)[k]? = _
  rw [Array.getElem?_push]
theorem row_set {W : World} {B : Nat} {cur : Array Value} {t : TypeId} {m : Nat × Nat} (i : Nat) (v : Value) (h : W.heap[B]? = some (.cells cur t m)) :
    (W.setCell ⟨B, i, none⟩ v).heap[B]? = some (.cells (cur.setIfInBounds i v) t m) := by
  obtain ⟨hlt, hk⟩ := Array.getElem?_eq_some_iff.1 h
  show (W.heap.modify B _)[B]? = _
  rw [Array.getElem?_eq_getElem (by rw [Array.size_modify]; exact hlt), Array.getElem_modify_self, hk]
  rfl
theorem row_other {W : World} {B B' : Nat} {o : Obj} (i : Nat) (v : Value) (h : W.heap[B]? = some o) (hne : B ≠ B') : (W.setCell ⟨B', i, none⟩ v).heap[B]? = some o :=
  (Below.heap_setCell W _ v B hne).trans h
theorem row_string {P : Program} {w : World} {B e src dst : Nat} {bs : List UInt8} {n cap : Nat}
    (hs : P.underlying src = some (.slice e)) (he : P.underlying e = some (.int .u8)) (hd : P.underlying dst = some .string) (hn : bs.length = n)
    (h : w.heap[B]? = some (.cells (cb bs).toArray e (0, 0))) : (convert src dst (.slice (some ⟨B, 0, none⟩) n cap)).run P w = .ok (.string ⟨bs.toArray⟩) w := by
  rw [run_convert_bytes_arg (P := P) w src e hs he B 0 n cap (bs.map fun b => (b.toNat : Int)) (by simpa using hn) ?_ dst hd]
  · congr 2
    simp only [strOfNums, List.map_map]
    congr 2
    rw [show ((fun n : Int => UInt8.ofNat n.toNat) ∘ fun b : UInt8 => (b.toNat : Int)) = id from by funext b; simp]
    simp
  · intro i hi
    rw [Nat.zero_add, cell_of_row w _ _ _ _ _ h]
    simp [cb, List.getElem?_eq_getElem (show i < bs.length by omega)]
theorem str_bytes {P : Program} {src dst e : TypeId} (hs : P.underlying src = some .string) (hd : P.underlying dst = some (.slice e)) (he : P.underlying e = some (.int .u8)) (s : ByteArray) (w : World) :
    ∃ (cap : Nat) (tl : List Value) (m : Nat), s.size ≤ cap ∧ s.size ≤ m ∧ (convert src dst (.string s)).run P w = .ok (.slice (some ⟨w.heap.size, 0, none⟩) s.size cap) (w.drew.alloc (.cells (cb s.data.toList ++ tl).toArray e (m, m + 1))) := by
  have h := run_bytes_of_string (P := P) w src dst e s hs hd he
  refine ⟨grownCap w s.size 0 e, List.replicate (grownCap w s.size 0 e - s.size) (.int .u8 0), (bytesRow s (grownCap w s.size 0 e)).size, grownCap_ge _ _ _ _, ?_, ?_⟩
  · simp [bytesRow]
  · rw [h]
    congr 3
    apply Array.toList_inj.1
    simp [bytesRow, cb]
theorem cb_set (l tl) (i : Nat) (b : UInt8) (h : i < l.length) : ((cb l ++ tl).toArray).setIfInBounds i (.int .u8 (b.toNat : Int)) = (cb (l.set i b) ++ tl).toArray := by
  rw [List.setIfInBounds_toArray, List.set_append_left _ _ (by rw [cb_length]; exact h)]
  simp [cb, List.map_set]
theorem cb_get (l : List UInt8) (i : Nat) (h : i < l.length) : (cb l)[i]? = some (.int .u8 ((l.getD i 0).toNat : Int)) := by
  simp [cb, h, List.getD]
theorem bthen {w w1 w2 : World} (h : Below w.heap.size w w1) (k : Below w1.heap.size w1 w2) : Below w.heap.size w w2 := h.trans (k.mono h.size)
theorem drew_left {w w' : World} (h : Below w.drew.heap.size w.drew w') : Below w.heap.size w w' := ⟨h.os, h.tape, h.output, h.size, h.block⟩
theorem list_size (s : ByteArray) : s.data.toList.length = s.size := Array.length_toList
end Go.Proofs.YtnmlephjhcmbhaaGreat
namespace Go.Proofs.YtnmlephjhcmbhaaGreat
set_option linter.unusedSimpArgs false
set_option linter.unusedVariables false
open Go Go.RowKit
section
variable {P : Program} {ops : Array Oper} {md : Region.Mode} {S : World → Prop} {fl nS : Nat → Bool} {Q : Exit → Act → World → Prop}
/-- The operation gives v in every world that meets S, and leaves it (or its guard passes it over). -/
def FloatAt (P : Program) (ops : Array Oper) (S : World → Prop) (o : Oper) (v : Value) (a : Act) : Prop :=
  (Region.wanted o (yielded ops a.tmps) = true ∧ ((∀ w, S w → (execOp a.eval o).run P w = .ok (.value v) w) ∨
    ∀ w, S w → ∃ f args, (execOp a.eval o).run P w = .ok (.enter f args) w ∧ Calls P f args w fun e w' => e = .returned v ∧ w = w')) ∨
  (Region.wanted o (yielded ops a.tmps) = false ∧ v = undef)
theorem FloatAt.of_same {o : Oper} {v : Value} {a a' : Act} (hy : FloatAt P ops S o v a) (he : execOp a'.eval o = execOp a.eval o)
    (hw : Region.wanted o (yielded ops a'.tmps) = Region.wanted o (yielded ops a.tmps)) : FloatAt P ops S o v a' := by
  unfold FloatAt at *
  rw [he, hw]
  exact hy
def stepX (P : Program) (ops : Array Oper) (S : World → Prop) (fl nS : Nat → Bool) (Q : Exit → Act → World → Prop) (i : Nat) (K : Act → World → Prop) (a : Act) (w : World) : Prop :=
  match ops[i]? with
  | none => False
  | some o =>
    if fl i = true then ∃ v, FloatAt P ops S o v a ∧ K (a.put o.dst v) w
    else if Region.wanted o (yielded ops a.tmps) = true then o.wp P a w (fun a' w' => (nS i = true → S w') ∧ K a' w') Q
    else K (a.put o.dst undef) w
def wpX (P : Program) (md : Region.Mode) (ops : Array Oper) (S : World → Prop) (fl nS : Nat → Bool) (Q : Exit → Act → World → Prop) : Nat → Array Bool → Act → World → Prop
  | 0, listed, a, w => Region.ready md ops listed = [] ∧ Q .normal a w
  | fuel + 1, listed, a, w =>
    (Region.ready md ops listed = [] → Q .normal a w) ∧
    ∀ i ∈ Region.ready md ops listed, stepX P ops S fl nS Q i (wpX P md ops S fl nS Q fuel (listed.setIfInBounds i true)) a w
theorem stepX_mono {i : Nat} {a : Act} {w : World} {K K' : Act → World → Prop} (h : ∀ a w, K a w → K' a w) (hh : stepX P ops S fl nS Q i K a w) : stepX P ops S fl nS Q i K' a w := by
  unfold stepX at *
  split
  · rename_i ho; simp only [ho] at hh
  · rename_i o ho
    simp only [ho] at hh
    split
    · rename_i hf
      rw [if_pos hf] at hh
      obtain ⟨v, hy, hk⟩ := hh
      exact ⟨v, hy, h _ _ hk⟩
    · rename_i hf
      rw [if_neg hf] at hh
      split
      · rename_i hw
        rw [if_pos hw] at hh
        exact Oper.wp_mono (fun a w hk => ⟨hk.1, h _ _ hk.2⟩) hh
      · rename_i hw
        rw [if_neg hw] at hh
        exact h _ _ hh
theorem stepX_put {j : Nat} {oi oj : Oper} {v : Value} (hj : ops[j]? = some oj) (hap : oi.apart ops oj = true)
    (hsi : ∀ cs b, oi.op ≠ .select cs b) (hsj : ∀ cs b, oj.op ≠ .select cs b)
    (hQ : ∀ c a d v w, Q (.panic c) (a.put d v) w → Q (.panic c) a w) {K : Act → World → Prop} {a : Act} {w : World}
    (hy : FloatAt P ops S oi v a) (h : stepX P ops S fl nS Q j K (a.put oi.dst v) w) :
    stepX P ops S fl nS Q j (fun a' w' => FloatAt P ops S oi v a' ∧ K (a'.put oi.dst v) w') a w := by
  obtain ⟨h1, h2, h3⟩ := Oper.apart_spec hap
  have keep : ∀ (a : Act), FloatAt P ops S oi v a → ∀ u, FloatAt P ops S oi v (a.put oj.dst u) := fun a hy u =>
    hy.of_same (execOp_put oi hsi a oj.dst u h3) (wanted_put oi a oj.dst u h3)
  have keepD : ∀ d, FloatAt P ops S oi v { a with defers := d :: a.defers } := fun d => hy.of_same rfl rfl
  unfold stepX at *
  simp only [hj] at *
  split
  · rename_i hf
    rw [if_pos hf] at h
    obtain ⟨u, hu, hk⟩ := h
    refine ⟨u, hu.of_same (execOp_put oj hsj a oi.dst v h1).symm (wanted_put oj a oi.dst v h1).symm, keep a hy u, ?_⟩
    rw [← Act.put_comm a v u h2]
    exact hk
  · rename_i hf
    rw [if_neg hf] at h
    rw [wanted_put oj a oi.dst v h1] at h
    split
    · rename_i hw
      rw [if_pos hw] at h
      unfold Oper.wp at *
      rw [execOp_put oj hsj a oi.dst v h1] at h
      generalize (execOp a.eval oj).run P w = r at *
      cases r with
      | ok n w' =>
        cases n <;> simp only [Oper.upon] at h ⊢
        case value u => exact ⟨h.1, keep a hy u, by rw [← Act.put_comm a v u h2]; exact h.2⟩
        case skip => exact ⟨h.1, keep a hy _, by rw [← Act.put_comm a v undef h2]; exact h.2⟩
        case defer d =>
          refine ⟨h.1, keep _ (keepD d) _, ?_⟩
          rw [← Act.put_comm _ v undef h2, ← Act.put_defers]
          exact h.2
        case enter f args =>
          refine Calls.mono h fun e w'' he => ?_
          cases e with
          | returned u => exact ⟨he.1, keep a hy u, by rw [← Act.put_comm a v u h2]; exact he.2⟩
          | panicked c => exact hQ _ _ _ _ _ he
          | outgrown => exact he
        case row row args => exact Rows.mono h fun u w'' he => ⟨he.1, keep a hy u, by rw [← Act.put_comm a v u h2]; exact he.2⟩
      | halt x w' =>
        cases x <;> simp only [Oper.upon] at h ⊢
        case panic u => exact hQ _ _ _ _ _ h
    · rename_i hw
      rw [if_neg hw] at h
      exact ⟨keep a hy _, by rw [← Act.put_comm a v undef h2]; exact h⟩
theorem stepX_float {i : Nat} {o : Oper} {v : Value} {a : Act} {w : World} {K : Act → World → Prop} (hi : ops[i]? = some o) (hf : fl i = true) (hy : FloatAt P ops S o v a) (h : K (a.put o.dst v) w) :
    stepX P ops S fl nS Q i K a w := by
  unfold stepX
  simp only [hi]
  rw [if_pos hf]
  exact ⟨v, hy, h⟩
/-- A float that is ready may be taken first. -/
theorem wpX_first {i : Nat} {oi : Oper} {v : Value} (hi : ops[i]? = some oi) (hf : fl i = true) (hsel : ∀ (j : Nat) (o : Oper) cs b, ops[j]? = some o → o.op ≠ .select cs b)
    (hQ : ∀ c a d v w, Q (.panic c) (a.put d v) w → Q (.panic c) a w) :
    ∀ (fuel : Nat) (listed : Array Bool) (a : Act) (w : World),
      (∀ j oj, ops[j]? = some oj → j ≠ i → listed.getD j true = false → (∀ e ∈ oj.after, Region.binds md e = true → e.on ≠ i) → oi.apart ops oj = true) →
      i ∈ Region.ready md ops listed → FloatAt P ops S oi v a →
      wpX P md ops S fl nS Q fuel (listed.setIfInBounds i true) (a.put oi.dst v) w → wpX P md ops S fl nS Q (fuel + 1) listed a w := by
  intro fuel
  induction fuel with
  | zero =>
    intro listed a w _ hr hy H
    refine ⟨fun h => (by rw [h] at hr; cases hr), fun j hj => ?_⟩
    by_cases hji : j = i
    · subst hji; exact stepX_float hi hf hy H
    · have := ready_mono hj hji
      rw [H.1] at this
      cases this
  | succ fuel ih =>
    intro listed a w hfree hr hy H
    refine ⟨fun h => (by rw [h] at hr; cases hr), fun j hj => ?_⟩
    by_cases hji : j = i
    · subst hji; exact stepX_float hi hf hy H
    · have h1 := H.2 j (ready_mono hj hji)
      obtain ⟨hjun, oj, hoj, hall⟩ := mem_ready.1 hj
      have hnot : ∀ e ∈ oj.after, Region.binds md e = true → e.on ≠ i := fun e he hb heq => by
        have h1 := hall e he hb
        have h0 := (mem_ready.1 hr).1
        rw [heq] at h1
        rcases Nat.lt_or_ge i listed.size with h' | h'
        · simp [h'] at h0 h1; rw [h0] at h1; cases h1
        · simp [Array.getElem?_eq_none h'] at h1
      have h2 := stepX_put hoj (hfree j oj hoj hji hjun hnot) (fun cs b => hsel i oi cs b hi) (fun cs b => hsel j oj cs b hoj) hQ hy h1
      have hfree' : ∀ k ok, ops[k]? = some ok → k ≠ i → (listed.setIfInBounds j true).getD k true = false →
          (∀ e ∈ ok.after, Region.binds md e = true → e.on ≠ i) → oi.apart ops ok = true := fun k ok hk hki hun hno => by
        refine hfree k ok hk hki ?_ hno
        by_cases hjk : j = k
        · subst hjk; exact hjun
        · rw [getD_set_ne true hjk] at hun; exact hun
      refine stepX_mono (fun a' w' h3 => ih (listed.setIfInBounds j true) a' w' hfree' (ready_mono hr (Ne.symm hji)) h3.1 ?_) h2
      rw [Array.setIfInBounds_comm _ _ hji]
      exact h3.2
/-- i stands before j by a chain of edges. -/
inductive Anc (md : Region.Mode) (ops : Array Oper) : Nat → Nat → Prop
  | edge {j : Nat} {o : Oper} {e : Edge} (ho : ops[j]? = some o) (he : e ∈ o.after) (hb : Region.binds md e = true) : Anc md ops e.on j
  | step {i j : Nat} {o : Oper} {e : Edge} (ho : ops[j]? = some o) (he : e ∈ o.after) (hb : Region.binds md e = true) (h : Anc md ops i e.on) : Anc md ops i j
/-- The operations that stand before one, as a number's bits. -/
def maskOf (md : Region.Mode) (acc : Array Nat) (es : List Edge) : Nat := es.foldl (fun s e => if Region.binds md e = true then (s ||| 2 ^ e.on) ||| acc.getD e.on 0 else s) 0
def masks (md : Region.Mode) : List Oper → Array Nat → Array Nat
  | [], acc => acc
  | o :: l, acc => masks md l (acc.push (maskOf md acc o.after.toList))
theorem mask_fold (md : Region.Mode) (acc : Array Nat) (i : Nat) : ∀ (es : List Edge) (s : Nat), (es.foldl (fun s e => if Region.binds md e = true then (s ||| 2 ^ e.on) ||| acc.getD e.on 0 else s) s).testBit i = true →
    s.testBit i = true ∨ ∃ e ∈ es, Region.binds md e = true ∧ (e.on = i ∨ (acc.getD e.on 0).testBit i = true)
  | [], _, h => .inl h
  | e :: es, s, h => by
    rw [List.foldl_cons] at h
    rcases mask_fold md acc i es _ h with h1 | ⟨e', he', h1⟩
    · by_cases hb : Region.binds md e = true
      · rw [if_pos hb, Nat.testBit_or, Nat.testBit_or, Bool.or_eq_true, Bool.or_eq_true] at h1
        rcases h1 with (h1 | h1) | h1
        · exact .inl h1
        · rw [Nat.testBit_two_pow] at h1
          exact .inr ⟨e, List.mem_cons_self .., hb, .inl (of_decide_eq_true h1)⟩
        · exact .inr ⟨e, List.mem_cons_self .., hb, .inr h1⟩
      · rw [if_neg hb] at h1
        exact .inl h1
    · exact .inr ⟨e', List.mem_cons_of_mem _ he', h1⟩
theorem masks_anc (md : Region.Mode) (ops : Array Oper) : ∀ (l : List Oper) (acc : Array Nat), (∀ j, l[j]? = ops[acc.size + j]?) → (∀ i j, (acc.getD j 0).testBit i = true → Anc md ops i j) →
    ∀ i j, ((masks md l acc).getD j 0).testBit i = true → Anc md ops i j
  | [], _, _, h => h
  | o :: l, acc, hl, h => by
    refine masks_anc md ops l _ (fun j => ?_) (fun i j hij => ?_)
    · have := hl (j + 1)
      rw [List.getElem?_cons_succ] at this
      rw [this, Array.size_push]
      congr 1
      omega
    · by_cases hj : j = acc.size
      · subst hj
        have ho : ops[acc.size]? = some o := by simpa using (hl 0).symm
        have e1 : (acc.push (maskOf md acc o.after.toList)).getD acc.size 0 = maskOf md acc o.after.toList := by simp
        rw [e1] at hij
        rcases mask_fold md acc i _ _ hij with h1 | ⟨e, he, hb, h1 | h1⟩
        · simp at h1
        · subst h1
          exact .edge ho (Array.mem_toList_iff.1 he) hb
        · exact .step ho (Array.mem_toList_iff.1 he) hb (h i e.on h1)
      · have e1 : (acc.push (maskOf md acc o.after.toList)).getD j 0 = acc.getD j 0 := by
          simp only [Array.getD_eq_getD_getElem?, Array.getElem?_push]
          rw [if_neg hj]
        rw [e1] at hij
        exact h i j hij
def Down (md : Region.Mode) (ops : Array Oper) (listed : Array Bool) : Prop :=
  ∀ j o, ops[j]? = some o → listed.getD j false = true → ∀ e ∈ o.after, Region.binds md e = true → listed.getD e.on false = true
theorem anc_listed {listed : Array Bool} (hd : Down md ops listed) {i j : Nat} (h : Anc md ops i j) : ∀ (o : Oper), ops[j]? = some o →
    (∀ e ∈ o.after, Region.binds md e = true → listed.getD e.on false = true) → listed.getD i false = true := by
  induction h with
  | edge ho he hb =>
    intro o ho' hall
    rw [ho] at ho'
    cases ho'
    exact hall _ he hb
  | step ho he hb h ih =>
    intro o ho' hall
    rw [ho] at ho'
    cases ho'
    have hl := hall _ he hb
    cases h with
    | edge ho1 he1 hb1 => exact ih _ ho1 (hd _ _ ho1 hl)
    | step ho1 he1 hb1 h1 => exact ih _ ho1 (hd _ _ ho1 hl)
theorem Down.set {listed : Array Bool} (hd : Down md ops listed) {j : Nat} (hj : j ∈ Region.ready md ops listed) : Down md ops (listed.setIfInBounds j true) := by
  intro k o hk hl e he hb
  by_cases hjk : j = k
  · subst hjk
    obtain ⟨_, oj, hoj, hall⟩ := mem_ready.1 hj
    rw [hoj] at hk
    cases hk
    exact getD_set_true (hall e he hb)
  · rw [getD_set_ne false hjk] at hl
    exact getD_set_true (hd k o hk hl e he hb)
/-- The check: a loud operation that need not keep S comes behind all floats. -/
def safeB (md : Region.Mode) (ops : Array Oper) (fl nS : Nat → Bool) : Bool :=
  let m := masks md ops.toList #[]
  (List.range ops.size).all fun j => fl j || nS j || (List.range ops.size).all fun i => !fl i || (m.getD j 0).testBit i
theorem safeB_spec {j i : Nat} (hB : safeB md ops fl nS = true) (hj : j < ops.size) (hi : i < ops.size) (hfj : fl j = false) (hn : nS j = false) (hfi : fl i = true) : Anc md ops i j := by
  unfold safeB at hB
  simp only [List.all_eq_true] at hB
  have h1 := hB j (List.mem_range.2 hj)
  rw [hfj, hn, Bool.false_or, Bool.false_or, List.all_eq_true] at h1
  have h2 := h1 i (List.mem_range.2 hi)
  rw [hfi] at h2
  exact masks_anc md ops ops.toList #[] (fun j => by simp) (fun i j h => by simp at h) i j (by simpa using h2)
theorem FloatAt.wpOp {i : Nat} {o : Oper} {v : Value} {a : Act} (hi : ops[i]? = some o) (hy : FloatAt P ops S o v a) {K : Act → World → Prop} {w : World} (hS : S w) (h : K (a.put o.dst v) w) :
    wpOp P ops Q i K a w := by
  unfold Go.wpOp
  simp only [hi]
  rcases hy with ⟨hw, hv | hc⟩ | ⟨hw, rfl⟩
  · rw [if_pos hw]
    refine .inl ?_
    unfold Oper.wp
    rw [hv w hS]
    exact h
  · rw [if_pos hw]
    refine .inl ?_
    obtain ⟨f, args, hr, hcall⟩ := hc w hS
    unfold Oper.wp
    rw [hr]
    exact Calls.mono hcall fun e w' ⟨he, hw'⟩ => by subst he; subst hw'; exact h
  · rw [if_neg (by rw [hw]; simp)]
    exact h
theorem wpAny_of_X (hB : safeB md ops fl nS = true) : ∀ (fuel : Nat) (listed : Array Bool) (a : Act) (w : World), Down md ops listed → listed.size = ops.size →
    ((∃ i, i < ops.size ∧ fl i = true ∧ listed.getD i true = false) → S w) → wpX P md ops S fl nS Q fuel listed a w → wpAny P md ops Q fuel listed a w
  | 0, _, _, _, _, _, _, h => h
  | fuel + 1, listed, a, w, hd, hsz, hS, h => ⟨h.1, fun j hj => by
      have hh := h.2 j hj
      have hd' := hd.set hj
      have hsz' : (listed.setIfInBounds j true).size = ops.size := by rw [Array.size_setIfInBounds]; exact hsz
      obtain ⟨hjun, oj, hoj, hall⟩ := mem_ready.1 hj
      have hlt : j < ops.size := (Array.getElem?_eq_some_iff.1 hoj).1
      have less : ∀ w', (∃ i, i < ops.size ∧ fl i = true ∧ (listed.setIfInBounds j true).getD i true = false) → S w → S w' → S w' := fun _ _ _ h => h
      have sub : (∃ i, i < ops.size ∧ fl i = true ∧ (listed.setIfInBounds j true).getD i true = false) → ∃ i, i < ops.size ∧ fl i = true ∧ listed.getD i true = false := by
        rintro ⟨i, hi, hf, hl⟩
        refine ⟨i, hi, hf, ?_⟩
        by_cases hji : j = i
        · subst hji; exact hjun
        · rwa [getD_set_ne true hji] at hl
      by_cases hf : fl j = true
      · have hSw : S w := hS ⟨j, hlt, hf, hjun⟩
        unfold stepX at hh
        simp only [hoj] at hh
        rw [if_pos hf] at hh
        obtain ⟨v, hy, hk⟩ := hh
        exact hy.wpOp hoj hSw (wpAny_of_X hB fuel _ _ _ hd' hsz' (fun _ => hSw) hk)
      · unfold stepX at hh
        unfold wpOp
        simp only [hoj] at hh ⊢
        rw [if_neg hf] at hh
        split
        · rename_i hw
          rw [if_pos hw] at hh
          refine .inl (Oper.wp_mono (fun a' w' hk => wpAny_of_X hB fuel _ a' w' hd' hsz' (fun hex => ?_) hk.2) hh)
          by_cases hn : nS j = true
          · exact hk.1 hn
          · exfalso
            obtain ⟨i, hi, hfi, hli⟩ := hex
            have h3 := anc_listed hd (safeB_spec hB hlt hi (by simpa using hf) (by simpa using hn) hfi) oj hoj hall
            by_cases hji : j = i
            · subst hji; exact hf hfi
            · rw [getD_set_ne true hji] at hli
              have hlt' : i < listed.size := by omega
              simp [hlt'] at h3 hli
              rw [h3] at hli
              cases hli
        · rename_i hw
          rw [if_neg hw] at hh
          exact wpAny_of_X hB fuel _ _ _ hd' hsz' (fun hex => hS (sub hex)) hh⟩
/-- The schedule: floats when they are ready, loud ones when they alone are. -/
def schedB (md : Region.Mode) (ops : Array Oper) (fl : Nat → Bool) : List Nat → Array Bool → Bool
  | [], listed => (Region.ready md ops listed).isEmpty
  | i :: rest, listed => (if fl i = true then (Region.ready md ops listed).contains i && Region.free md ops listed i else decide (Region.ready md ops listed = [i])) && schedB md ops fl rest (listed.setIfInBounds i true)
def wpSch (P : Program) (ops : Array Oper) (S : World → Prop) (fl nS : Nat → Bool) (Q : Exit → Act → World → Prop) : List Nat → Act → World → Prop
  | [], a, w => Q .normal a w
  | i :: rest, a, w => stepX P ops S fl nS Q i (wpSch P ops S fl nS Q rest) a w
theorem wpX_of_sch (hsel : Region.noSelect ops = true) (hQ : ∀ c a d v w, Q (.panic c) (a.put d v) w → Q (.panic c) a w) :
    ∀ (L : List Nat) (listed : Array Bool) (a : Act) (w : World), schedB md ops fl L listed = true → wpSch P ops S fl nS Q L a w → wpX P md ops S fl nS Q L.length listed a w
  | [], listed, a, w, hB, h => ⟨by simpa [schedB] using hB, h⟩
  | i :: rest, listed, a, w, hB, h => by
    simp only [schedB, Bool.and_eq_true] at hB
    obtain ⟨h1, h2⟩ := hB
    by_cases hf : fl i = true
    · rw [if_pos hf] at h1
      simp only [Bool.and_eq_true] at h1
      unfold wpSch stepX at h
      cases ho : ops[i]? with
      | none => simp only [ho] at h
      | some o =>
        simp only [ho] at h
        rw [if_pos hf] at h
        obtain ⟨v, hy, hk⟩ := h
        exact wpX_first ho hf (Region.noSelect_spec hsel) hQ rest.length listed a w (Region.free_spec ho h1.2) (by simpa using h1.1) hy (wpX_of_sch hsel hQ rest _ _ _ h2 hk)
    · rw [if_neg hf] at h1
      have hr : Region.ready md ops listed = [i] := of_decide_eq_true h1
      refine ⟨fun h0 => (by rw [hr] at h0; cases h0), fun j hj => ?_⟩
      rw [hr] at hj
      obtain rfl : j = i := by simpa using hj
      exact stepX_mono (fun a' w' hk => wpX_of_sch hsel hQ rest _ a' w' h2 hk) h
end
section
variable {P : Program} {ops : Array Oper} {S : World → Prop} {Q : Exit → Act → World → Prop} {K : Act → World → Prop}
/-- The walk of a schedule: floats (true) and loud ones that keep S (false); then K. -/
def wpM (P : Program) (ops : Array Oper) (S : World → Prop) (Q : Exit → Act → World → Prop) (K : Act → World → Prop) : List (Bool × Oper) → Act → World → Prop
  | [], a, w => K a w
  | (true, o) :: rest, a, w => ∃ v, FloatAt P ops S o v a ∧ wpM P ops S Q K rest (a.put o.dst v) w
  | (false, o) :: rest, a, w => if Region.wanted o (yielded ops a.tmps) = true then o.wp P a w (fun a' w' => S w' ∧ wpM P ops S Q K rest a' w') Q else wpM P ops S Q K rest (a.put o.dst undef) w
def flM (M : List (Bool × Nat)) (i : Nat) : Bool := M.contains (true, i)
def nsM (M : List (Bool × Nat)) (i : Nat) : Bool := M.contains (false, i)
/-- Every check at once: M: the floats and the loud ones that keep S, as they are taken; T: the rest. -/
def rgnB (l : List Oper) (M : List (Bool × Nat)) (T : List Nat) : Bool :=
  Region.noSelect l.toArray && safeB .any l.toArray (flM M) (nsM M) && schedB .any l.toArray (flM M) (M.map (·.2) ++ T) (Array.replicate l.toArray.size false) &&
  (M.length + T.length == l.length) && (M.all fun x => flM M x.2 == x.1 && x.2 < l.length) && T.all fun i => !flM M i && !nsM M i && i < l.length
def pickM (l : List Oper) (M : List (Bool × Nat)) : List (Bool × Oper) := M.filterMap fun x => (l[x.2]?).map fun o => (x.1, o)
def pickT (l : List Oper) (T : List Nat) : List Oper := T.filterMap fun i => l[i]?
theorem down_start (ops : Array Oper) : Down .any ops (Array.replicate ops.size false) := by
  intro j o _ hl
  exfalso
  by_cases h : j < ops.size
  · simp [h] at hl
  · simp [h] at hl
theorem sch_tail {l : List Oper} {fl nS : Nat → Bool} (hL : ¬ LetsOut Q) : ∀ (T : List Nat) (a : Act) (w : World), (∀ i ∈ T, fl i = false ∧ nS i = false ∧ i < l.length) →
    wpList P l.toArray Q (pickT l T) a w → wpSch P l.toArray S fl nS Q T a w
  | [], _, _, _, h => h
  | i :: T, a, w, hf, h => by
    obtain ⟨hfi, hni, hlt⟩ := hf i (List.mem_cons_self ..)
    have hf' : ∀ i ∈ T, fl i = false ∧ nS i = false ∧ i < l.length := fun j hj => hf j (List.mem_cons_of_mem _ hj)
    have ho : l[i]? = some l[i] := List.getElem?_eq_getElem hlt
    have hp : pickT l (i :: T) = l[i] :: pickT l T := by simp [pickT, ho]
    rw [hp] at h
    have ho' : l.toArray[i]? = some l[i] := by simp [hlt]
    unfold wpSch stepX
    simp only [ho']
    rw [if_neg (by rw [hfi]; simp)]
    unfold wpList at h
    by_cases hw : Region.wanted l[i] (yielded l.toArray a.tmps) = true
    · rw [if_pos hw] at h ⊢
      rcases h with h | h
      · exact Oper.wp_mono (fun a' w' hk => ⟨fun h0 => (by rw [hni] at h0; cases h0), sch_tail hL T a' w' hf' hk⟩) h
      · exact (hL h.2).elim
    · rw [if_neg hw] at h ⊢
      exact sch_tail hL T _ _ hf' h
theorem sch_of_M {l : List Oper} {fl nS : Nat → Bool} {T : List Nat} (hK : ∀ a w, K a w → wpSch P l.toArray S fl nS Q T a w) :
    ∀ (M : List (Bool × Nat)) (a : Act) (w : World), (∀ x ∈ M, fl x.2 = x.1 ∧ x.2 < l.length) → wpM P l.toArray S Q K (pickM l M) a w → wpSch P l.toArray S fl nS Q (M.map (·.2) ++ T) a w
  | [], a, w, _, h => hK a w h
  | (b, i) :: M, a, w, hf, h => by
    obtain ⟨hfi, hlt⟩ := hf (b, i) (List.mem_cons_self ..)
    have hf' : ∀ x ∈ M, fl x.2 = x.1 ∧ x.2 < l.length := fun x hx => hf x (List.mem_cons_of_mem _ hx)
    have ho : l[i]? = some l[i] := List.getElem?_eq_getElem hlt
    have hp : pickM l ((b, i) :: M) = (b, l[i]) :: pickM l M := by simp [pickM, ho]
    rw [hp] at h
    have ho' : l.toArray[i]? = some l[i] := by simp [hlt]
    show wpSch P l.toArray S fl nS Q (i :: (M.map (·.2) ++ T)) a w
    unfold wpSch stepX
    simp only [ho']
    simp only at hfi
    cases b with
    | true =>
      obtain ⟨v, hy, hk⟩ := h
      rw [if_pos hfi]
      exact ⟨v, hy, sch_of_M hK M _ _ hf' hk⟩
    | false =>
      unfold wpM at h
      rw [if_neg (by rw [hfi]; simp)]
      by_cases hw : Region.wanted l[i] (yielded l.toArray a.tmps) = true
      · rw [if_pos hw] at h ⊢
        exact Oper.wp_mono (fun a' w' hk => ⟨fun _ => hk.1, sch_of_M hK M a' w' hf' hk.2⟩) h
      · rw [if_neg hw] at h ⊢
        exact sch_of_M hK M _ _ hf' h
theorem wpAny_sch {l : List Oper} (S : World → Prop) (M : List (Bool × Nat)) (T : List Nat) {a : Act} {w : World} (hB : rgnB l M T = true) (hL : ¬ LetsOut Q) (hQ : ∀ c a d v w, Q (.panic c) (a.put d v) w → Q (.panic c) a w)
    (hS : S w) (h : wpM P l.toArray S Q (wpList P l.toArray Q (pickT l T)) (pickM l M) a w) : wpAny P .any l.toArray Q l.toArray.size (Array.replicate l.toArray.size false) a w := by
  unfold rgnB at hB
  simp only [Bool.and_eq_true, beq_iff_eq, List.all_eq_true, decide_eq_true_eq, Bool.not_eq_true'] at hB
  obtain ⟨⟨⟨⟨⟨h1, h2⟩, h3⟩, h4⟩, h5⟩, h6⟩ := hB
  have hsch := sch_of_M (fl := flM M) (nS := nsM M) (T := T) (fun a w hk => sch_tail hL T a w (fun i hi => ⟨(h6 i hi).1.1, (h6 i hi).1.2, (h6 i hi).2⟩) hk) M a w (fun x hx => ⟨(h5 x hx).1, (h5 x hx).2⟩) h
  have := wpX_of_sch h1 hQ _ _ a w h3 hsch
  rw [show (M.map (·.2) ++ T).length = l.toArray.size by simp [h4]] at this
  exact wpAny_of_X h2 _ _ _ _ (down_start _) (by simp) (fun _ => hS) this
/-- **A region that draws its order, walked by a schedule.** -/
theorem region_sch {id : Nat} {l : List Oper} {a : Act} {w : World} (S : World → Prop) (M : List (Bool × Nat)) (T : List Nat) (hm : P.follows .mixedOrders = true) (hB : rgnB l M T = true)
    (hL : ¬ LetsOut Q) (hQ : ∀ c a d v w, Q (.panic c) (a.put d v) w → Q (.panic c) a w) (hS : S w.drew) (h : wpM P l.toArray S Q (wpList P l.toArray Q (pickT l T)) (pickM l M) a w.drew) : (Code.region id l.toArray true).wp P Q a w :=
  wp_region_any hm (wpAny_sch S M T hB hL hQ hS h)
theorem m_nil {a : Act} {w : World} (h : K a w) : wpM P ops S Q K [] a w := h
/-- A float. -/
theorem m_float {o : Oper} {rest : List (Bool × Oper)} {a : Act} {w : World} (h : ∃ v, FloatAt P ops S o v a ∧ ∀ K' : Act → Prop, (∀ a', wpM P ops S Q K rest a' w → K' a') → K' (a.put o.dst v)) :
    wpM P ops S Q K ((true, o) :: rest) a w := by
  obtain ⟨v, hy, hk⟩ := h
  exact ⟨v, hy, hk _ fun _ h => h⟩
/-- A loud operation, as the walk takes one: what it leaves goes to K'. -/
theorem m_loud {o : Oper} {rest : List (Bool × Oper)} {a : Act} {w : World} (hL : ¬ LetsOut Q)
    (h : ∀ K' : Act → World → Prop, (∀ a' w', S w' → wpM P ops S Q K rest a' w' → K' a' w') → wpList P ops (Exit.then K' Q) [o] a w) :
    wpM P ops S Q K ((false, o) :: rest) a w := by
  have h := h (fun a' w' => S w' ∧ wpM P ops S Q K rest a' w') (fun _ _ h1 h2 => ⟨h1, h2⟩)
  unfold wpM
  unfold wpList at h
  by_cases hw : Region.wanted o (yielded ops a.tmps) = true
  · rw [if_pos hw] at h ⊢
    rcases h with h | h
    · unfold Oper.wp at *
      generalize (execOp a.eval o).run P w = r at *
      cases r with
      | ok x w' => cases x <;> exact h
      | halt x w' => cases x <;> exact h
    · exact (hL h.2).elim
  · rw [if_neg hw] at h ⊢
    exact h.2
end
/-! ### In a round of a range over a function -/
section
variable {P : Program}
theorem rcalls {n l : Nat} {f : FuncId} {args : Array Value} {w : World} {R : Ending → World → Prop} (h : Calls P f args w R) : CallsIn (Fence.wide.inRound l) n P f args w R :=
  CallsIn.inRound l (callsIn_wide.2 h)
theorem rwp {o : Oper} {a : Act} {w : World} {K K' : Act → World → Prop} {Q : Exit → Act → World → Prop} (n l : Nat) (hd : ∀ c, o.op ≠ .defer c) (hK : ∀ a w, K a w → K' a w) (h : o.wp P a w K Q) :
    o.wpIn (Fence.wide.inRound l) n P a w K' Q := by
  refine ⟨fun _ _ => trivial, ?_⟩
  rw [Oper.semAt_eq _ _ _ hd]
  unfold Oper.wp at h
  generalize (execOp a.eval o).run P w = r at *
  cases r with
  | ok x w' =>
    cases x <;> simp only [Oper.upon] at h <;> simp only [Oper.uponIn]
    case value v => exact hK _ _ h
    case skip => exact hK _ _ h
    case defer d => exact hK _ _ h
    case enter f args =>
      refine ⟨fun hh => by simp [Fence.wide, Fence.inRound] at hh, rcalls (h.mono ?_)⟩
      intro e w2 he
      cases e with
      | returned v => exact hK _ _ he
      | panicked ch => exact he
      | outgrown => exact he
    case row r args =>
      refine ⟨fun hh => by simp [Fence.wide, Fence.inRound] at hh, fun c cs _ => ?_⟩
      obtain ⟨v, w2, hr, hs⟩ := h c cs
      refine ⟨v, w2, hK _ _ hr, ?_⟩
      exact stepsIn_wide.2 hs
  | halt x w' =>
    cases x <;> simp only [Oper.upon] at h <;> simp only [Oper.uponIn]
    case panic v => exact h
theorem rwpAny {md : Region.Mode} {ops : Array Oper} {Q : Exit → Act → World → Prop} (n l : Nat) (hd : ∀ (i : Nat) (o : Oper) (c : Call), ops[i]? = some o → o.op ≠ Op.defer c) (hL : ¬ LetsOut Q) :
    ∀ (fuel : Nat) (listed : Array Bool) (a : Act) (w : World), wpAny P md ops Q fuel listed a w → wpAnyIn (Fence.wide.inRound l) n P md ops Q fuel listed a w
  | 0, _, _, _, h => h
  | fuel + 1, listed, a, w, h => ⟨h.1, fun i hi => by
      have hh := h.2 i hi
      unfold wpOp at hh
      unfold wpOpIn
      cases ho : ops[i]? with
      | none => simp only [ho] at hh ⊢; exact rwpAny n l hd hL fuel _ _ _ hh
      | some o =>
        simp only [ho] at hh ⊢
        split
        · rename_i hw
          rw [if_pos hw] at hh
          rcases hh with hh | hh
          · exact rwp n l (fun c => hd i o c ho) (fun a w => rwpAny n l hd hL fuel _ a w) hh
          · exact (hL hh.2).elim
        · rename_i hw
          rw [if_neg hw] at hh
          exact ⟨fun _ _ => trivial, rwpAny n l hd hL fuel _ _ _ hh⟩⟩
def calmB (l : List Oper) : Bool := l.all fun o => match o.op with | .defer _ => false | _ => true
theorem round_sch {id : Nat} {Q : Exit → Act → World → Prop} {l : List Oper} {a : Act} {w : World} {m r : Nat} (S : World → Prop) (M : List (Bool × Nat)) (T : List Nat) (hm : P.follows .mixedOrders = true) (hB : rgnB l M T = true)
    (hd : calmB l = true) (hL : ¬ LetsOut Q) (hQ : ∀ c a d v w, Q (.panic c) (a.put d v) w → Q (.panic c) a w) (hS : S w.drew)
    (h : wpM P l.toArray S Q (wpList P l.toArray Q (pickT l T)) (pickM l M) a w.drew) : (Code.region id l.toArray true).wpIn (Fence.wide.inRound r) m P Q a w := by
  refine wpIn_region_any hm (rwpAny m r ?_ hL _ _ _ _ (wpAny_sch S M T hB hL hQ hS h))
  intro i o c hi hc
  unfold calmB at hd
  rw [List.all_eq_true] at hd
  have := hd o (by
    have h1 : l[i]? = some o := by simpa using hi
    exact List.mem_of_getElem? h1)
  rw [hc] at this
  cases this
end
end Go.Proofs.YtnmlephjhcmbhaaGreat
namespace Go.Proofs.YtnmlephjhcmbhaaGreat
set_option linter.unusedSimpArgs false
set_option linter.unusedVariables false
open Go Go.RowKit
theorem m_skip {P : Program} {ops : Array Oper} {S : World → Prop} {Q : Exit → Act → World → Prop} {K : Act → World → Prop} {o : Oper} {rest : List (Bool × Oper)} {a : Act} {w : World} (hw : Region.wanted o (yielded ops a.tmps) = false)
    (h : wpM P ops S Q K rest (a.put o.dst undef) w) : wpM P ops S Q K ((false, o) :: rest) a w := by
  unfold wpM
  rw [if_neg (by rw [hw]; decide)]
  exact h
end Go.Proofs.YtnmlephjhcmbhaaGreat
namespace Go.Proofs.YtnmlephjhcmbhaaGreat
set_option linter.unusedSimpArgs false
set_option linter.unusedVariables false
open Go Go.RowKit
/-- The frame behind the values us of the operations whose destinations are D. -/
def putAll (a : Act) : List (Option Tmp) → (Nat → Value) → Nat → Act
  | [], _, _ => a
  | d :: ds, us, k => putAll (a.put d (us k)) ds us (k + 1)
def upd (us : Nat → Value) (i : Nat) (v : Value) : Nat → Value := fun j => if j = i then v else us j
theorem putAll_congr : ∀ (D : List (Option Tmp)) (a : Act) (us vs : Nat → Value) (k : Nat), (∀ j, k ≤ j → us j = vs j) → putAll a D us k = putAll a D vs k
  | [], _, _, _, _, _ => rfl
  | d :: ds, a, us, vs, k, h => by
    rw [putAll, putAll, h k (Nat.le_refl _)]
    exact putAll_congr ds _ us vs (k + 1) fun j hj => h j (by omega)
theorem put_put (a : Act) (d : Option Tmp) (u v : Value) : (a.put d u).put d v = a.put d v := by
  cases d with
  | none => rfl
  | some t => simp [Act.put]
theorem putAll_put : ∀ (D : List (Option Tmp)) (a : Act) (us : Nat → Value) (k : Nat) (d : Option Tmp) (v : Value), (∀ t, d = some t → some t ∉ D) → (putAll a D us k).put d v = putAll (a.put d v) D us k
  | [], _, _, _, _, _, _ => rfl
  | e :: ds, a, us, k, d, v, h => by
    rw [putAll, putAll, putAll_put ds _ us (k + 1) d v fun t ht hm => h t ht (List.mem_cons_of_mem _ hm)]
    congr 1
    refine Act.put_comm a _ _ fun t ht hd => ?_
    exact h t hd (by rw [ht]; exact List.mem_cons_self ..)
theorem putAll_upd : ∀ (D : List (Option Tmp)) (a : Act) (us : Nat → Value) (k i : Nat) (v : Value) (d : Option Tmp), D[i]? = some d → (D.filterMap id).Nodup → putAll a D (upd us (k + i) v) k = (putAll a D us k).put d v
  | [], _, _, _, _, _, _, h, _ => by simp at h
  | e :: ds, a, us, k, 0, v, d, h, hn => by
    simp only [List.getElem?_cons_zero, Option.some.injEq] at h
    subst h
    rw [putAll, putAll, putAll_congr ds _ (upd us (k + 0) v) us (k + 1) fun j hj => by simp only [upd]; rw [if_neg (by omega)]]
    rw [putAll_put ds _ us (k + 1) e v ?_, put_put]
    · simp [upd]
    · intro t ht hm
      subst ht
      rw [List.filterMap_cons] at hn
      simp only [id_eq, List.nodup_cons] at hn
      exact hn.1 (List.mem_filterMap.2 ⟨some t, hm, rfl⟩)
  | e :: ds, a, us, k, i + 1, v, d, h, hn => by
    have hn' : (ds.filterMap id).Nodup := by
      cases e with
      | none => simpa using hn
      | some t =>
        rw [List.filterMap_cons] at hn
        simp only [id_eq, List.nodup_cons] at hn
        exact hn.2
    rw [putAll, putAll, show k + (i + 1) = k + 1 + i by omega, putAll_upd ds _ us (k + 1) i v d (by simpa using h) hn']
    simp only [upd]
    rw [if_neg (by omega)]
/-- The values that stand in the destinations already. -/
def selfV (a : Act) (D : List (Option Tmp)) : Nat → Value := fun i => match D[i]? with
  | some (some t) => a.tmps.getD t undef
  | _ => undef
theorem put_self (a : Act) (t : Tmp) : a.put (some t) (a.tmps.getD t undef) = a := by
  unfold Act.put
  have : a.tmps.setIfInBounds t (a.tmps.getD t undef) = a.tmps := by
    apply Array.ext
    · simp
    · intro i h1 h2
      rw [Array.getElem_setIfInBounds]
      split
      · rename_i h; subst h
        rw [Array.getD_eq_getD_getElem?, Array.getElem?_eq_getElem h2, Option.getD_some]
      · rfl
  simp only [this]
theorem putAll_self' (a : Act) (us : Nat → Value) : ∀ (D : List (Option Tmp)) (k : Nat), (∀ i t, D[i]? = some (some t) → us (k + i) = a.tmps.getD t undef) → putAll a D us k = a
  | [], _, _ => rfl
  | none :: ds, k, h => by
    rw [putAll]
    exact putAll_self' a us ds (k + 1) fun i t hi => by rw [show k + 1 + i = k + (i + 1) by omega]; exact h (i + 1) t (by simpa using hi)
  | some t :: ds, k, h => by
    rw [putAll, show us k = a.tmps.getD t undef from h 0 t rfl, put_self]
    exact putAll_self' a us ds (k + 1) fun i t hi => by rw [show k + 1 + i = k + (i + 1) by omega]; exact h (i + 1) t (by simpa using hi)
theorem putAll_self (a : Act) (D : List (Option Tmp)) : putAll a D (selfV a D) 0 = a :=
  putAll_self' a _ D 0 fun i t hi => by simp only [selfV, Nat.zero_add, hi]
/-- How many of the operations have not come up yet. -/
def left (listed : Array Bool) : Nat := listed.toList.count false
theorem count_set : ∀ (l : List Bool) (i : Nat), l[i]? = some false → (l.set i true).count false + 1 = l.count false
  | [], _, h => by simp at h
  | b :: l, 0, h => by
    simp only [List.getElem?_cons_zero, Option.some.injEq] at h
    subst h
    simp
  | b :: l, i + 1, h => by
    have := count_set l i (by simpa using h)
    rw [List.set_cons_succ, List.count_cons, List.count_cons]
    omega
theorem left_set {listed : Array Bool} {i : Nat} (h : listed.getD i true = false) : left (listed.setIfInBounds i true) + 1 = left listed := by
  unfold left
  rw [Array.toList_setIfInBounds]
  refine count_set _ _ ?_
  rw [Array.getD_eq_getD_getElem?] at h
  rw [Array.getElem?_toList]
  cases hh : listed[i]? with
  | none => rw [hh] at h; simp at h
  | some b => rw [hh] at h; simp at h; rw [h]
/-- The checks: each edge goes back; no two operations have one destination. -/
def rgvB (ops : List Oper) : Bool :=
  ((List.range ops.length).all fun i => ((ops[i]?).map fun o => o.after.all fun e => decide (e.on < i)).getD true) && decide ((ops.map (·.dst)).filterMap id).Nodup
section
variable {P : Program} {l : List Oper} {Q : Exit → Act → World → Prop}
theorem all_listed (hb : rgvB l = true) {listed : Array Bool} (hsz : listed.size = l.length) (hr : Region.ready .any l.toArray listed = []) : ∀ i, i < l.length → listed.getD i false = true := by
  intro i
  induction i using Nat.strongRecOn with
  | ind i ih =>
    intro hi
    cases hl : listed.getD i false with
    | true => rfl
    | false =>
      exfalso
      simp only [rgvB, Bool.and_eq_true, List.all_eq_true] at hb
      have h1 := hb.1 i (List.mem_range.2 hi)
      rw [List.getElem?_eq_getElem hi] at h1
      simp only [Option.map_some, Option.getD_some, Array.all_eq_true'] at h1
      have hm : i ∈ Region.ready .any l.toArray listed := mem_ready.2 ⟨by
        simp only [Array.getD_eq_getD_getElem?] at hl ⊢
        rw [Array.getElem?_eq_getElem (by omega)] at hl ⊢
        exact hl, l[i], by simp [hi], fun e he _ => by
        have h2 := of_decide_eq_true (h1 e he)
        exact ih e.on h2 (by omega)⟩
      rw [hr] at hm
      cases hm
/-- What the operations that stand before one have given. -/
def predsV (V : Nat → World → Value → Prop) (w : World) (us : Nat → Value) : List Edge → Prop
  | [] => True
  | e :: es => (match e.ground with | .textOnly _ => True | .gcOnly _ => True | _ => V e.on w (us e.on)) ∧ predsV V w us es
theorem predsV_of {V : Nat → World → Value → Prop} {w : World} {us : Nat → Value} : ∀ (es : List Edge), (∀ e ∈ es, Region.binds .any e = true → V e.on w (us e.on)) → predsV V w us es
  | [], _ => trivial
  | e :: es, h => by
    refine ⟨?_, predsV_of es fun e' he' => h e' (List.mem_cons_of_mem _ he')⟩
    have h1 := h e (List.mem_cons_self ..)
    unfold Region.binds at h1
    split
    · trivial
    · trivial
    · rename_i n1 n2
      refine h1 ?_
      split
      · exact absurd ‹_› (n1 _)
      · exact absurd ‹_› (n2 _)
      · rfl
/-- What is to be shown of the operation with the number i. -/
def OpOk (P : Program) (l : List Oper) (Le : World → World → Prop) (V : Nat → World → Value → Prop) (Q : Exit → Act → World → Prop) (a0 : Act) (w0 : World) (i : Nat) (o : Oper) : Prop :=
  ∀ (us : Nat → Value) (w : World), Le w0 w → predsV V w us o.after.toList →
    ∀ K' : Act → World → Prop, (∀ v w', V i w' v → Le w w' → K' ((putAll a0 (l.map (·.dst)) us 0).put o.dst v) w') → wpList P l.toArray (Exit.then K' Q) [o] (putAll a0 (l.map (·.dst)) us 0) w
theorem wpOp_of_list (hL : ¬ LetsOut Q) {i : Nat} {o : Oper} (ho : l[i]? = some o) {K : Act → World → Prop} {a : Act} {w : World} (h : wpList P l.toArray (Exit.then K Q) [o] a w) : wpOp P l.toArray Q i K a w := by
  unfold wpOp
  simp only [List.getElem?_toArray, ho]
  unfold wpList at h
  by_cases hw : Region.wanted o (yielded l.toArray a.tmps) = true
  · rw [if_pos hw] at h ⊢
    refine .inl ?_
    rcases h with h | h
    · unfold Oper.wp at *
      generalize (execOp a.eval o).run P w = r at *
      cases r with
      | ok x w' => cases x <;> exact h
      | halt x w' => cases x <;> exact h
    · exact (hL h.2).elim
  · rw [if_neg hw] at h ⊢
    exact h
theorem wpAny_vals (hb : rgvB l = true) (hL : ¬ LetsOut Q) {Le : World → World → Prop} {V : Nat → World → Value → Prop} {a0 : Act} {w0 : World} (hT : ∀ w w', Le w0 w → Le w w' → Le w0 w')
    (hV : ∀ i w w' v, Le w w' → V i w v → V i w' v) (hop : ∀ i o, l[i]? = some o → OpOk P l Le V Q a0 w0 i o)
    (hend : ∀ (us : Nat → Value) (w : World), Le w0 w → (∀ i, i < l.length → V i w (us i)) → Q .normal (putAll a0 (l.map (·.dst)) us 0) w) :
    ∀ (fuel : Nat) (listed : Array Bool) (us : Nat → Value) (w : World), listed.size = l.length → left listed ≤ fuel → Le w0 w → (∀ i, listed.getD i false = true → V i w (us i)) →
      wpAny P .any l.toArray Q fuel listed (putAll a0 (l.map (·.dst)) us 0) w
  | 0, listed, us, w, hsz, hf, hw, hv => by
    have hall : ∀ i, i < l.length → listed.getD i false = true := fun i hi => by
      cases hl : listed.getD i false with
      | true => rfl
      | false =>
        have hlt : i < listed.size := by omega
        have : 0 < left listed := by
          unfold left
          refine List.count_pos_iff.2 ?_
          rw [Array.getD_eq_getD_getElem?, Array.getElem?_eq_getElem hlt, Option.getD_some] at hl
          exact hl ▸ Array.getElem_mem_toList hlt
        omega
    refine ⟨?_, hend us w hw fun i hi => hv i (hall i hi)⟩
    refine List.eq_nil_iff_forall_not_mem.2 fun j hj => ?_
    obtain ⟨h1, o, ho, _⟩ := mem_ready.1 hj
    have hlt : j < l.length := by
      rcases Nat.lt_or_ge j l.length with h' | h'
      · exact h'
      · simp [h'] at ho
    have h2 := hall j hlt
    have hlt2 : j < listed.size := by omega
    rw [Array.getD_eq_getD_getElem?, Array.getElem?_eq_getElem hlt2, Option.getD_some] at h1 h2
    rw [h1] at h2
    cases h2
  | fuel + 1, listed, us, w, hsz, hf, hw, hv => by
    refine ⟨fun hr => hend us w hw fun i hi => hv i (all_listed hb hsz hr i hi), fun j hj => ?_⟩
    obtain ⟨hjun, o, ho, hall⟩ := mem_ready.1 hj
    have ho' : l[j]? = some o := by simpa using ho
    refine wpOp_of_list hL ho' (hop j o ho' us w hw (predsV_of _ fun e he hbd => hv e.on (hall e (Array.mem_toList_iff.1 he) hbd)) _ fun v w' hvv hle => ?_)
    have hd : (l.map (·.dst))[j]? = some o.dst := by rw [List.getElem?_map, ho']; rfl
    have hnd : ((l.map (·.dst)).filterMap id).Nodup := by
      simp only [rgvB, Bool.and_eq_true, decide_eq_true_eq] at hb
      exact hb.2
    have hput := putAll_upd (l.map (·.dst)) a0 us 0 j v o.dst hd hnd
    rw [Nat.zero_add] at hput
    rw [← hput]
    refine wpAny_vals hb hL hT hV hop hend fuel _ (upd us j v) w' (by rw [Array.size_setIfInBounds]; exact hsz) (by have := left_set hjun; omega) (hT _ _ hw hle) fun i hi => ?_
    by_cases hij : i = j
    · subst hij
      simpa [upd] using hvv
    · simp only [upd]
      rw [if_neg hij]
      rw [getD_set_ne false (Ne.symm hij)] at hi
      exact hV i w w' _ hle (hv i hi)
/-- A region, operation by operation. -/
theorem region_vals {id : Nat} {a : Act} {w : World} (Le : World → World → Prop) (V : Nat → World → Value → Prop) (hm : P.follows .mixedOrders = true) (hb : rgvB l = true) (hL : ¬ LetsOut Q)
    (hR : Le w.drew w.drew) (hT : ∀ w1 w', Le w.drew w1 → Le w1 w' → Le w.drew w') (hV : ∀ i w w' v, Le w w' → V i w v → V i w' v) 
    (hop : ∀ i o, l[i]? = some o → OpOk P l Le V Q a w.drew (0 + i) o)
    (hend : ∀ (us : Nat → Value) (w1 : World), Le w.drew w1 → (∀ i, i < l.length → V i w1 (us i)) → Q .normal (putAll a (l.map (·.dst)) us 0) w1) : (Code.region id l.toArray true).wp P Q a w := by
  refine wp_region_any hm ?_
  have h := wpAny_vals hb hL hT hV (fun i o ho => by have := hop i o ho; rwa [Nat.zero_add] at this) hend l.toArray.size (Array.replicate l.toArray.size false) (selfV a (l.map (·.dst))) w.drew (by simp) ?_ hR fun i hi => ?_
  · rw [putAll_self] at h
    exact h
  · unfold left
    refine Nat.le_trans List.count_le_length ?_
    simp
  · exfalso
    rw [Array.getD_eq_getD_getElem?, Array.getElem?_replicate] at hi
    split at hi <;> simp at hi
/-- The predicates of values: a known value; a slice of a known row of its own; nothing. -/
def VC (x : Value) : World → Value → Prop := fun _ v => v = x
def VS (cs : Array Value) (T : TypeId) (n : Nat) : World → Value → Prop := fun w v => ∃ g : Nat, v = .slice (some ⟨g, 0, none⟩) n n ∧ w.heap[g]? = some (.cells cs T (0, 0))
def VT : World → Value → Prop := fun _ _ => True
def vsel (Vs : List (World → Value → Prop)) (i : Nat) : World → Value → Prop := Vs.getD i VT
def Keeps (R : World → Value → Prop) : Prop := ∀ (w w' : World) (v : Value), Below w.heap.size w w' → R w v → R w' v
def KeepsL : List (World → Value → Prop) → Prop
  | [] => True
  | R :: rs => Keeps R ∧ KeepsL rs
theorem KeepsL_cons {R : World → Value → Prop} {rs : List (World → Value → Prop)} (h : Keeps R) (k : KeepsL rs) : KeepsL (R :: rs) := ⟨h, k⟩
theorem VC_keeps (x : Value) : Keeps (VC x) := fun _ _ _ _ h => h
theorem VT_keeps : Keeps VT := fun _ _ _ _ h => h
theorem VS_keeps (cs : Array Value) (T : TypeId) (n : Nat) : Keeps (VS cs T n) := fun w w' v hB ⟨g, hv, hg⟩ => by
  refine ⟨g, hv, (hB.block _ ?_).trans hg⟩
  rcases Nat.lt_or_ge g w.heap.size with h' | h'
  · exact h'
  · simp [Array.getElem?_eq_none h'] at hg
theorem vsel_keeps : ∀ (Vs : List (World → Value → Prop)), KeepsL Vs → ∀ i, Keeps (vsel Vs i)
  | [], _, _ => VT_keeps
  | _ :: _, h, 0 => h.1
  | _ :: rs, h, i + 1 => vsel_keeps rs h.2 i
theorem region_below {id : Nat} {a : Act} {w : World} (Vs : List (World → Value → Prop)) (hm : P.follows .mixedOrders = true) (hb : rgvB l = true) (hL : ¬ LetsOut Q) (hV : KeepsL Vs)
    (hop : ∀ i o, l[i]? = some o → OpOk P l (fun w w' => Below w.heap.size w w') (vsel Vs) Q a w.drew (0 + i) o)
    (hend : ∀ (us : Nat → Value) (w1 : World), Below w.drew.heap.size w.drew w1 → (∀ i, i < l.length → vsel Vs i w1 (us i)) → Q .normal (putAll a (l.map (·.dst)) us 0) w1) : (Code.region id l.toArray true).wp P Q a w :=
  region_vals (fun w w' => Below w.heap.size w w') (vsel Vs) hm hb hL (Below.refl _ _) (fun _ _ h k => bthen h k) (fun i w w' v h k => vsel_keeps Vs hV i w w' v h k) hop hend
theorem ops_nil (p : Nat → Oper → Prop) (k : Nat) : ∀ (i : Nat) (o : Oper), ([] : List Oper)[i]? = some o → p (k + i) o := by
  intro i o h
  simp at h
theorem ops_cons {p : Nat → Oper → Prop} {o : Oper} {r : List Oper} {k : Nat} (h1 : p k o) (h2 : ∀ (i : Nat) (o : Oper), r[i]? = some o → p (k + 1 + i) o) : ∀ (i : Nat) (o' : Oper), (o :: r)[i]? = some o' → p (k + i) o'
  | 0, o', h => by simp at h; subst h; exact h1
  | i + 1, o', h => by rw [show k + (i + 1) = k + 1 + i by omega]; exact h2 i o' (by simpa using h)
end
end Go.Proofs.YtnmlephjhcmbhaaGreat
namespace Go.Proofs.YtnmlephjhcmbhaaGreat
set_option linter.unusedSimpArgs false
set_option linter.unusedVariables false
open Go Go.RowKit
/-- The checks, of the edges that bind alone. -/
def rgwB (ops : List Oper) : Bool :=
  ((List.range ops.length).all fun i => ((ops[i]?).map fun o => o.after.all fun e => !(Region.binds .any e) || decide (e.on < i)).getD true) && decide ((ops.map (·.dst)).filterMap id).Nodup
section
variable {P : Program} {l : List Oper} {Q : Exit → Act → World → Prop}
theorem all_listedW (hb : rgwB l = true) {listed : Array Bool} (hsz : listed.size = l.length) (hr : Region.ready .any l.toArray listed = []) : ∀ i, i < l.length → listed.getD i false = true := by
  intro i
  induction i using Nat.strongRecOn with
  | ind i ih =>
    intro hi
    cases hl : listed.getD i false with
    | true => rfl
    | false =>
      exfalso
      simp only [rgwB, Bool.and_eq_true, List.all_eq_true] at hb
      have h1 := hb.1 i (List.mem_range.2 hi)
      rw [List.getElem?_eq_getElem hi] at h1
      simp only [Option.map_some, Option.getD_some, Array.all_eq_true'] at h1
      have hm : i ∈ Region.ready .any l.toArray listed := mem_ready.2 ⟨by
        simp only [Array.getD_eq_getD_getElem?] at hl ⊢
        rw [Array.getElem?_eq_getElem (by omega)] at hl ⊢
        exact hl, l[i], by simp [hi], fun e he hbd => by
        have h2 : e.on < i := by
          have h3 := h1 e he
          rw [hbd] at h3
          simpa using h3
        exact ih e.on h2 (by omega)⟩
      rw [hr] at hm
      cases hm
theorem wpAny_valsW (hb : rgwB l = true) (hL : ¬ LetsOut Q) {Le : World → World → Prop} {V : Nat → World → Value → Prop} {a0 : Act} {w0 : World} (hT : ∀ w w', Le w0 w → Le w w' → Le w0 w')
    (hV : ∀ i w w' v, Le w w' → V i w v → V i w' v) (hop : ∀ i o, l[i]? = some o → OpOk P l Le V Q a0 w0 i o)
    (hend : ∀ (us : Nat → Value) (w : World), Le w0 w → (∀ i, i < l.length → V i w (us i)) → Q .normal (putAll a0 (l.map (·.dst)) us 0) w) :
    ∀ (fuel : Nat) (listed : Array Bool) (us : Nat → Value) (w : World), listed.size = l.length → left listed ≤ fuel → Le w0 w → (∀ i, listed.getD i false = true → V i w (us i)) →
      wpAny P .any l.toArray Q fuel listed (putAll a0 (l.map (·.dst)) us 0) w
  | 0, listed, us, w, hsz, hf, hw, hv => by
    have hall : ∀ i, i < l.length → listed.getD i false = true := fun i hi => by
      cases hl : listed.getD i false with
      | true => rfl
      | false =>
        have hlt : i < listed.size := by omega
        have : 0 < left listed := by
          unfold left
          refine List.count_pos_iff.2 ?_
          rw [Array.getD_eq_getD_getElem?, Array.getElem?_eq_getElem hlt, Option.getD_some] at hl
          exact hl ▸ Array.getElem_mem_toList hlt
        omega
    refine ⟨?_, hend us w hw fun i hi => hv i (hall i hi)⟩
    refine List.eq_nil_iff_forall_not_mem.2 fun j hj => ?_
    obtain ⟨h1, o, ho, _⟩ := mem_ready.1 hj
    have hlt : j < l.length := by
      rcases Nat.lt_or_ge j l.length with h' | h'
      · exact h'
      · simp [h'] at ho
    have h2 := hall j hlt
    have hlt2 : j < listed.size := by omega
    rw [Array.getD_eq_getD_getElem?, Array.getElem?_eq_getElem hlt2, Option.getD_some] at h1 h2
    rw [h1] at h2
    cases h2
  | fuel + 1, listed, us, w, hsz, hf, hw, hv => by
    refine ⟨fun hr => hend us w hw fun i hi => hv i (all_listedW hb hsz hr i hi), fun j hj => ?_⟩
    obtain ⟨hjun, o, ho, hall⟩ := mem_ready.1 hj
    have ho' : l[j]? = some o := by simpa using ho
    refine wpOp_of_list hL ho' (hop j o ho' us w hw (predsV_of _ fun e he hbd => hv e.on (hall e (Array.mem_toList_iff.1 he) hbd)) _ fun v w' hvv hle => ?_)
    have hd : (l.map (·.dst))[j]? = some o.dst := by rw [List.getElem?_map, ho']; rfl
    have hnd : ((l.map (·.dst)).filterMap id).Nodup := by
      simp only [rgwB, Bool.and_eq_true, decide_eq_true_eq] at hb
      exact hb.2
    have hput := putAll_upd (l.map (·.dst)) a0 us 0 j v o.dst hd hnd
    rw [Nat.zero_add] at hput
    rw [← hput]
    refine wpAny_valsW hb hL hT hV hop hend fuel _ (upd us j v) w' (by rw [Array.size_setIfInBounds]; exact hsz) (by have := left_set hjun; omega) (hT _ _ hw hle) fun i hi => ?_
    by_cases hij : i = j
    · subst hij
      simpa [upd] using hvv
    · simp only [upd]
      rw [if_neg hij]
      rw [getD_set_ne false (Ne.symm hij)] at hi
      exact hV i w w' _ hle (hv i hi)
/-- A region, operation by operation. -/
theorem region_valsW {id : Nat} {a : Act} {w : World} (Le : World → World → Prop) (V : Nat → World → Value → Prop) (hm : P.follows .mixedOrders = true) (hb : rgwB l = true) (hL : ¬ LetsOut Q)
    (hR : Le w.drew w.drew) (hT : ∀ w1 w', Le w.drew w1 → Le w1 w' → Le w.drew w') (hV : ∀ i w w' v, Le w w' → V i w v → V i w' v) 
    (hop : ∀ i o, l[i]? = some o → OpOk P l Le V Q a w.drew (0 + i) o)
    (hend : ∀ (us : Nat → Value) (w1 : World), Le w.drew w1 → (∀ i, i < l.length → V i w1 (us i)) → Q .normal (putAll a (l.map (·.dst)) us 0) w1) : (Code.region id l.toArray true).wp P Q a w := by
  refine wp_region_any hm ?_
  have h := wpAny_valsW hb hL hT hV (fun i o ho => by have := hop i o ho; rwa [Nat.zero_add] at this) hend l.toArray.size (Array.replicate l.toArray.size false) (selfV a (l.map (·.dst))) w.drew (by simp) ?_ hR fun i hi => ?_
  · rw [putAll_self] at h
    exact h
  · unfold left
    refine Nat.le_trans List.count_le_length ?_
    simp
  · exfalso
    rw [Array.getD_eq_getD_getElem?, Array.getElem?_replicate] at hi
    split at hi <;> simp at hi
theorem region_belowW {id : Nat} {a : Act} {w : World} (Vs : List (World → Value → Prop)) (hm : P.follows .mixedOrders = true) (hb : rgwB l = true) (hL : ¬ LetsOut Q) (hV : KeepsL Vs)
    (hop : ∀ i o, l[i]? = some o → OpOk P l (fun w w' => Below w.heap.size w w') (vsel Vs) Q a w.drew (0 + i) o)
    (hend : ∀ (us : Nat → Value) (w1 : World), Below w.drew.heap.size w.drew w1 → (∀ i, i < l.length → vsel Vs i w1 (us i)) → Q .normal (putAll a (l.map (·.dst)) us 0) w1) : (Code.region id l.toArray true).wp P Q a w :=
  region_valsW (fun w w' => Below w.heap.size w w') (vsel Vs) hm hb hL (Below.refl _ _) (fun _ _ h k => bthen h k) (fun i w w' v h k => vsel_keeps Vs hV i w w' v h k) hop hend
end
end Go.Proofs.YtnmlephjhcmbhaaGreat
namespace Go.Proofs.YtnmlephjhcmbhaaGreat
set_option linter.unusedSimpArgs false
set_option linter.unusedVariables false
open Go Go.RowKit
section
variable {P : Program} {l : List Oper} {Q : Exit → Act → World → Prop}
def OpOkF (P : Program) (l : List Oper) (Vs : List (World → Value → Prop)) (Q : Exit → Act → World → Prop) (F : (Nat → Value) → Act) (w0 : World) (i : Nat) (o : Oper) : Prop :=
  ∀ (us : Nat → Value) (w : World), Below w0.heap.size w0 w → predsV (vsel Vs) w us o.after.toList →
    ∀ K' : Act → World → Prop, (∀ v w', vsel Vs i w' v → Below w.heap.size w w' → K' ((F us).put o.dst v) w') → wpList P l.toArray (Exit.then K' Q) [o] (F us) w
theorem region_belowF {id : Nat} {a : Act} {w : World} (Vs : List (World → Value → Prop)) (F : (Nat → Value) → Act) (hF : ∀ us, putAll a (l.map (·.dst)) us 0 = F us) (hm : P.follows .mixedOrders = true) (hb : rgvB l = true) (hL : ¬ LetsOut Q) (hV : KeepsL Vs)
    (hop : ∀ i o, l[i]? = some o → OpOkF P l Vs Q F w.drew (0 + i) o)
    (hend : ∀ (us : Nat → Value) (w1 : World), Below w.drew.heap.size w.drew w1 → (∀ i, i < l.length → vsel Vs i w1 (us i)) → Q .normal (F us) w1) : (Code.region id l.toArray true).wp P Q a w :=
  region_below Vs hm hb hL hV (fun i o ho us w1 hle hp K' hK => by
    rw [hF us] at hK ⊢
    exact hop i o ho us w1 hle hp K' hK) (fun us w1 h1 h2 => by rw [hF us]; exact hend us w1 h1 h2)
end
end Go.Proofs.YtnmlephjhcmbhaaGreat
