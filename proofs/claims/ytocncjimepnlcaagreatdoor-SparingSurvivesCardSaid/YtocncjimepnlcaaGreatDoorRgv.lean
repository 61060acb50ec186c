/- A region that draws its order, walked operation by operation, WHATEVER THE ORDER: each operation's value is told by a predicate that later worlds keep. -/
import Derived.Test.YtocncjimepnlcaaGreatDoorRgn
import Derived.Test.YtocncjimepnlcaaGreatDoorGen
namespace Go.Proofs.YtocncjimepnlcaaGreatDoor
set_option linter.unusedSimpArgs false
set_option linter.unusedVariables false
open Go Go.RowKit
/-- The frame behind the values us of the operations whose destinations are D. -/
def putAll (a : Act) : List (Option Tmp) → (Nat → Value) → Nat → Act
  | [], _, _ => a
  | d :: ds, us, k => putAll (a.put d (us k)) ds us (k + 1)
def upd (us : Nat → Value) (i : Nat) (v : Value) : Nat → Value := fun j => if j = i then v else us j
theorem putAll_congr : ∀ (D : List (Option Tmp)) (a : Act) (us vs : Nat → Value) (k : Nat), (∀ j, k ≤ j → us j = vs j) → putAll a D us k = putAll a D vs k
  | [], _, _, _, _, _ => rfl
  | d :: ds, a, us, vs, k, h => by
    rw [putAll, putAll, h k (Nat.le_refl _)]
    exact putAll_congr ds _ us vs (k + 1) fun j hj => h j (by omega)
theorem put_put (a : Act) (d : Option Tmp) (u v : Value) : (a.put d u).put d v = a.put d v := by
  cases d with
  | none => rfl
  | some t => simp [Act.put]
theorem putAll_put : ∀ (D : List (Option Tmp)) (a : Act) (us : Nat → Value) (k : Nat) (d : Option Tmp) (v : Value), (∀ t, d = some t → some t ∉ D) → (putAll a D us k).put d v = putAll (a.put d v) D us k
  | [], _, _, _, _, _, _ => rfl
  | e :: ds, a, us, k, d, v, h => by
    rw [putAll, putAll, putAll_put ds _ us (k + 1) d v fun t ht hm => h t ht (List.mem_cons_of_mem _ hm)]
    congr 1
    refine Act.put_comm a _ _ fun t ht hd => ?_
    exact h t hd (by rw [ht]; exact List.mem_cons_self ..)
theorem putAll_upd : ∀ (D : List (Option Tmp)) (a : Act) (us : Nat → Value) (k i : Nat) (v : Value) (d : Option Tmp), D[i]? = some d → (D.filterMap id).Nodup → putAll a D (upd us (k + i) v) k = (putAll a D us k).put d v
  | [], _, _, _, _, _, _, h, _ => by simp at h
  | e :: ds, a, us, k, 0, v, d, h, hn => by
    simp only [List.getElem?_cons_zero, Option.some.injEq] at h
    subst h
    rw [putAll, putAll, putAll_congr ds _ (upd us (k + 0) v) us (k + 1) fun j hj => by simp only [upd]; rw [if_neg (by omega)]]
    rw [putAll_put ds _ us (k + 1) e v ?_, put_put]
    · simp [upd]
    · intro t ht hm
      subst ht
      rw [List.filterMap_cons] at hn
      simp only [id_eq, List.nodup_cons] at hn
      exact hn.1 (List.mem_filterMap.2 ⟨some t, hm, rfl⟩)
  | e :: ds, a, us, k, i + 1, v, d, h, hn => by
    have hn' : (ds.filterMap id).Nodup := by
      cases e with
      | none => simpa using hn
      | some t =>
        rw [List.filterMap_cons] at hn
        simp only [id_eq, List.nodup_cons] at hn
        exact hn.2
    rw [putAll, putAll, show k + (i + 1) = k + 1 + i by omega, putAll_upd ds _ us (k + 1) i v d (by simpa using h) hn']
    simp only [upd]
    rw [if_neg (by omega)]
/-- The values that stand in the destinations already. -/
def selfV (a : Act) (D : List (Option Tmp)) : Nat → Value := fun i => match D[i]? with
  | some (some t) => a.tmps.getD t undef
  | _ => undef
theorem put_self (a : Act) (t : Tmp) : a.put (some t) (a.tmps.getD t undef) = a := by
  unfold Act.put
  have : a.tmps.setIfInBounds t (a.tmps.getD t undef) = a.tmps := by
    apply Array.ext
    · simp
    · intro i h1 h2
      rw [Array.getElem_setIfInBounds]
      split
      · rename_i h; subst h
        rw [Array.getD_eq_getD_getElem?, Array.getElem?_eq_getElem h2, Option.getD_some]
      · rfl
  simp only [this]
theorem putAll_self' (a : Act) (us : Nat → Value) : ∀ (D : List (Option Tmp)) (k : Nat), (∀ i t, D[i]? = some (some t) → us (k + i) = a.tmps.getD t undef) → putAll a D us k = a
  | [], _, _ => rfl
  | none :: ds, k, h => by
    rw [putAll]
    exact putAll_self' a us ds (k + 1) fun i t hi => by rw [show k + 1 + i = k + (i + 1) by omega]; exact h (i + 1) t (by simpa using hi)
  | some t :: ds, k, h => by
    rw [putAll, show us k = a.tmps.getD t undef from h 0 t rfl, put_self]
    exact putAll_self' a us ds (k + 1) fun i t hi => by rw [show k + 1 + i = k + (i + 1) by omega]; exact h (i + 1) t (by simpa using hi)
theorem putAll_self (a : Act) (D : List (Option Tmp)) : putAll a D (selfV a D) 0 = a :=
  putAll_self' a _ D 0 fun i t hi => by simp only [selfV, Nat.zero_add, hi]
/-- How many of the operations have not come up yet. -/
def left (listed : Array Bool) : Nat := listed.toList.count false
theorem count_set : ∀ (l : List Bool) (i : Nat), l[i]? = some false → (l.set i true).count false + 1 = l.count false
  | [], _, h => by simp at h
  | b :: l, 0, h => by
    simp only [List.getElem?_cons_zero, Option.some.injEq] at h
    subst h
    simp
  | b :: l, i + 1, h => by
    have := count_set l i (by simpa using h)
    rw [List.set_cons_succ, List.count_cons, List.count_cons]
    omega
theorem left_set {listed : Array Bool} {i : Nat} (h : listed.getD i true = false) : left (listed.setIfInBounds i true) + 1 = left listed := by
  unfold left
  rw [Array.toList_setIfInBounds]
  refine count_set _ _ ?_
  rw [Array.getD_eq_getD_getElem?] at h
  rw [Array.getElem?_toList]
  cases hh : listed[i]? with
  | none => rw [hh] at h; simp at h
  | some b => rw [hh] at h; simp at h; rw [h]
/-- The checks: each edge goes back; no two operations have one destination. -/
def rgvB (ops : List Oper) : Bool :=
  ((List.range ops.length).all fun i => ((ops[i]?).map fun o => o.after.all fun e => decide (e.on < i)).getD true) && decide ((ops.map (·.dst)).filterMap id).Nodup
section
variable {P : Program} {l : List Oper} {Q : Exit → Act → World → Prop}
theorem all_listed (hb : rgvB l = true) {listed : Array Bool} (hsz : listed.size = l.length) (hr : Region.ready .any l.toArray listed = []) : ∀ i, i < l.length → listed.getD i false = true := by
  intro i
  induction i using Nat.strongRecOn with
  | ind i ih =>
    intro hi
    cases hl : listed.getD i false with
    | true => rfl
    | false =>
      exfalso
      simp only [rgvB, Bool.and_eq_true, List.all_eq_true] at hb
      have h1 := hb.1 i (List.mem_range.2 hi)
      rw [List.getElem?_eq_getElem hi] at h1
      simp only [Option.map_some, Option.getD_some, Array.all_eq_true'] at h1
      have hm : i ∈ Region.ready .any l.toArray listed := mem_ready.2 ⟨by
        simp only [Array.getD_eq_getD_getElem?] at hl ⊢
        rw [Array.getElem?_eq_getElem (by omega)] at hl ⊢
        exact hl, l[i], by simp [hi], fun e he _ => by
        have h2 := of_decide_eq_true (h1 e he)
        exact ih e.on h2 (by omega)⟩
      rw [hr] at hm
      cases hm
/-- What the operations that stand before one have given. -/
def predsV (V : Nat → World → Value → Prop) (w : World) (us : Nat → Value) : List Edge → Prop
  | [] => True
  | e :: es => (match e.ground with | .textOnly _ => True | .gcOnly _ => True | _ => V e.on w (us e.on)) ∧ predsV V w us es
theorem predsV_of {V : Nat → World → Value → Prop} {w : World} {us : Nat → Value} : ∀ (es : List Edge), (∀ e ∈ es, Region.binds .any e = true → V e.on w (us e.on)) → predsV V w us es
  | [], _ => trivial
  | e :: es, h => by
    refine ⟨?_, predsV_of es fun e' he' => h e' (List.mem_cons_of_mem _ he')⟩
    have h1 := h e (List.mem_cons_self ..)
    unfold Region.binds at h1
    split
    · trivial
    · trivial
    · rename_i n1 n2
      refine h1 ?_
      split
      · exact absurd ‹_› (n1 _)
      · exact absurd ‹_› (n2 _)
      · rfl
/-- What is to be shown of the operation with the number i. -/
def OpOk (P : Program) (l : List Oper) (Le : World → World → Prop) (V : Nat → World → Value → Prop) (Q : Exit → Act → World → Prop) (a0 : Act) (w0 : World) (i : Nat) (o : Oper) : Prop :=
  ∀ (us : Nat → Value) (w : World), Le w0 w → predsV V w us o.after.toList →
    ∀ K' : Act → World → Prop, (∀ v w', V i w' v → Le w w' → K' ((putAll a0 (l.map (·.dst)) us 0).put o.dst v) w') → wpList P l.toArray (Exit.then K' Q) [o] (putAll a0 (l.map (·.dst)) us 0) w
theorem wpOp_of_list (hL : ¬ LetsOut Q) {i : Nat} {o : Oper} (ho : l[i]? = some o) {K : Act → World → Prop} {a : Act} {w : World} (h : wpList P l.toArray (Exit.then K Q) [o] a w) : wpOp P l.toArray Q i K a w := by
  unfold wpOp
  simp only [List.getElem?_toArray, ho]
  unfold wpList at h
  by_cases hw : Region.wanted o (yielded l.toArray a.tmps) = true
  · rw [if_pos hw] at h ⊢
    refine .inl ?_
    rcases h with h | h
    · unfold Oper.wp at *
      generalize (execOp a.eval o).run P w = r at *
      cases r with
      | ok x w' => cases x <;> exact h
      | halt x w' => cases x <;> exact h
    · exact (hL h.2).elim
  · rw [if_neg hw] at h ⊢
    exact h
theorem wpAny_vals (hb : rgvB l = true) (hL : ¬ LetsOut Q) {Le : World → World → Prop} {V : Nat → World → Value → Prop} {a0 : Act} {w0 : World} (hT : ∀ w w', Le w0 w → Le w w' → Le w0 w')
    (hV : ∀ i w w' v, Le w w' → V i w v → V i w' v) (hop : ∀ i o, l[i]? = some o → OpOk P l Le V Q a0 w0 i o)
    (hend : ∀ (us : Nat → Value) (w : World), Le w0 w → (∀ i, i < l.length → V i w (us i)) → Q .normal (putAll a0 (l.map (·.dst)) us 0) w) :
    ∀ (fuel : Nat) (listed : Array Bool) (us : Nat → Value) (w : World), listed.size = l.length → left listed ≤ fuel → Le w0 w → (∀ i, listed.getD i false = true → V i w (us i)) →
      wpAny P .any l.toArray Q fuel listed (putAll a0 (l.map (·.dst)) us 0) w
  | 0, listed, us, w, hsz, hf, hw, hv => by
    have hall : ∀ i, i < l.length → listed.getD i false = true := fun i hi => by
      cases hl : listed.getD i false with
      | true => rfl
      | false =>
        have hlt : i < listed.size := by omega
        have : 0 < left listed := by
          unfold left
          refine List.count_pos_iff.2 ?_
          rw [Array.getD_eq_getD_getElem?, Array.getElem?_eq_getElem hlt, Option.getD_some] at hl
          exact hl ▸ Array.getElem_mem_toList hlt
        omega
    refine ⟨?_, hend us w hw fun i hi => hv i (hall i hi)⟩
    refine List.eq_nil_iff_forall_not_mem.2 fun j hj => ?_
    obtain ⟨h1, o, ho, _⟩ := mem_ready.1 hj
    have hlt : j < l.length := by
      rcases Nat.lt_or_ge j l.length with h' | h'
      · exact h'
      · simp [h'] at ho
    have h2 := hall j hlt
    have hlt2 : j < listed.size := by omega
    rw [Array.getD_eq_getD_getElem?, Array.getElem?_eq_getElem hlt2, Option.getD_some] at h1 h2
    rw [h1] at h2
    cases h2
  | fuel + 1, listed, us, w, hsz, hf, hw, hv => by
    refine ⟨fun hr => hend us w hw fun i hi => hv i (all_listed hb hsz hr i hi), fun j hj => ?_⟩
    obtain ⟨hjun, o, ho, hall⟩ := mem_ready.1 hj
    have ho' : l[j]? = some o := by simpa using ho
    refine wpOp_of_list hL ho' (hop j o ho' us w hw (predsV_of _ fun e he hbd => hv e.on (hall e (Array.mem_toList_iff.1 he) hbd)) _ fun v w' hvv hle => ?_)
    have hd : (l.map (·.dst))[j]? = some o.dst := by rw [List.getElem?_map, ho']; rfl
    have hnd : ((l.map (·.dst)).filterMap id).Nodup := by
      simp only [rgvB, Bool.and_eq_true, decide_eq_true_eq] at hb
      exact hb.2
    have hput := putAll_upd (l.map (·.dst)) a0 us 0 j v o.dst hd hnd
    rw [Nat.zero_add] at hput
    rw [← hput]
    refine wpAny_vals hb hL hT hV hop hend fuel _ (upd us j v) w' (by rw [Array.size_setIfInBounds]; exact hsz) (by have := left_set hjun; omega) (hT _ _ hw hle) fun i hi => ?_
    by_cases hij : i = j
    · subst hij
      simpa [upd] using hvv
    · simp only [upd]
      rw [if_neg hij]
      rw [getD_set_ne false (Ne.symm hij)] at hi
      exact hV i w w' _ hle (hv i hi)
/-- A region, operation by operation. -/
theorem region_vals {id : Nat} {a : Act} {w : World} (Le : World → World → Prop) (V : Nat → World → Value → Prop) (hm : P.follows .mixedOrders = true) (hb : rgvB l = true) (hL : ¬ LetsOut Q)
    (hR : Le w.drew w.drew) (hT : ∀ w1 w', Le w.drew w1 → Le w1 w' → Le w.drew w') (hV : ∀ i w w' v, Le w w' → V i w v → V i w' v) 
    (hop : ∀ i o, l[i]? = some o → OpOk P l Le V Q a w.drew (0 + i) o)
    (hend : ∀ (us : Nat → Value) (w1 : World), Le w.drew w1 → (∀ i, i < l.length → V i w1 (us i)) → Q .normal (putAll a (l.map (·.dst)) us 0) w1) : (Code.region id l.toArray true).wp P Q a w := by
  refine wp_region_any hm ?_
  have h := wpAny_vals hb hL hT hV (fun i o ho => by have := hop i o ho; rwa [Nat.zero_add] at this) hend l.toArray.size (Array.replicate l.toArray.size false) (selfV a (l.map (·.dst))) w.drew (by simp) ?_ hR fun i hi => ?_
  · rw [putAll_self] at h
    exact h
  · unfold left
    refine Nat.le_trans List.count_le_length ?_
    simp
  · exfalso
    rw [Array.getD_eq_getD_getElem?, Array.getElem?_replicate] at hi
    split at hi <;> simp at hi
/-- The predicates of values: a known value; a slice of a known row of its own; nothing. -/
def VC (x : Value) : World → Value → Prop := fun _ v => v = x
def VS (cs : Array Value) (T : TypeId) (n : Nat) : World → Value → Prop := fun w v => ∃ g : Nat, v = .slice (some ⟨g, 0, none⟩) n n ∧ w.heap[g]? = some (.cells cs T (0, 0))
def VT : World → Value → Prop := fun _ _ => True
def vsel (Vs : List (World → Value → Prop)) (i : Nat) : World → Value → Prop := Vs.getD i VT
def Keeps (R : World → Value → Prop) : Prop := ∀ (w w' : World) (v : Value), Below w.heap.size w w' → R w v → R w' v
def KeepsL : List (World → Value → Prop) → Prop
  | [] => True
  | R :: rs => Keeps R ∧ KeepsL rs
theorem KeepsL_cons {R : World → Value → Prop} {rs : List (World → Value → Prop)} (h : Keeps R) (k : KeepsL rs) : KeepsL (R :: rs) := ⟨h, k⟩
theorem VC_keeps (x : Value) : Keeps (VC x) := fun _ _ _ _ h => h
theorem VT_keeps : Keeps VT := fun _ _ _ _ h => h
theorem VS_keeps (cs : Array Value) (T : TypeId) (n : Nat) : Keeps (VS cs T n) := fun w w' v hB ⟨g, hv, hg⟩ => by
  refine ⟨g, hv, (hB.block _ ?_).trans hg⟩
  rcases Nat.lt_or_ge g w.heap.size with h' | h'
  · exact h'
  · simp [Array.getElem?_eq_none h'] at hg
theorem vsel_keeps : ∀ (Vs : List (World → Value → Prop)), KeepsL Vs → ∀ i, Keeps (vsel Vs i)
  | [], _, _ => VT_keeps
  | _ :: _, h, 0 => h.1
  | _ :: rs, h, i + 1 => vsel_keeps rs h.2 i
theorem region_below {id : Nat} {a : Act} {w : World} (Vs : List (World → Value → Prop)) (hm : P.follows .mixedOrders = true) (hb : rgvB l = true) (hL : ¬ LetsOut Q) (hV : KeepsL Vs)
    (hop : ∀ i o, l[i]? = some o → OpOk P l (fun w w' => Below w.heap.size w w') (vsel Vs) Q a w.drew (0 + i) o)
    (hend : ∀ (us : Nat → Value) (w1 : World), Below w.drew.heap.size w.drew w1 → (∀ i, i < l.length → vsel Vs i w1 (us i)) → Q .normal (putAll a (l.map (·.dst)) us 0) w1) : (Code.region id l.toArray true).wp P Q a w :=
  region_vals (fun w w' => Below w.heap.size w w') (vsel Vs) hm hb hL (Below.refl _ _) (fun _ _ h k => bthen h k) (fun i w w' v h k => vsel_keeps Vs hV i w w' v h k) hop hend
theorem ops_nil (p : Nat → Oper → Prop) (k : Nat) : ∀ (i : Nat) (o : Oper), ([] : List Oper)[i]? = some o → p (k + i) o := by
  intro i o h
  simp at h
theorem ops_cons {p : Nat → Oper → Prop} {o : Oper} {r : List Oper} {k : Nat} (h1 : p k o) (h2 : ∀ (i : Nat) (o : Oper), r[i]? = some o → p (k + 1 + i) o) : ∀ (i : Nat) (o' : Oper), (o :: r)[i]? = some o' → p (k + i) o'
  | 0, o', h => by simp at h; subst h; exact h1
  | i + 1, o', h => by rw [show k + (i + 1) = k + 1 + i by omega]; exact h2 i o' (by simpa using h)
end
end Go.Proofs.YtocncjimepnlcaaGreatDoor
