/- A region that draws its order, walked operation by operation, where an edge that does not bind goes forward. -/
import Derived.Test.YtocncjimepnlcaaGreatDoorRgv
namespace Go.Proofs.YtocncjimepnlcaaGreatDoor
set_option linter.unusedSimpArgs false
set_option linter.unusedVariables false
open Go Go.RowKit
/-- The checks, of the edges that bind alone. -/
def rgwB (ops : List Oper) : Bool :=
  ((List.range ops.length).all fun i => ((ops[i]?).map fun o => o.after.all fun e => !(Region.binds .any e) || decide (e.on < i)).getD true) && decide ((ops.map (·.dst)).filterMap id).Nodup
section
variable {P : Program} {l : List Oper} {Q : Exit → Act → World → Prop}
theorem all_listedW (hb : rgwB l = true) {listed : Array Bool} (hsz : listed.size = l.length) (hr : Region.ready .any l.toArray listed = []) : ∀ i, i < l.length → listed.getD i false = true := by
  intro i
  induction i using Nat.strongRecOn with
  | ind i ih =>
    intro hi
    cases hl : listed.getD i false with
    | true => rfl
    | false =>
      exfalso
      simp only [rgwB, Bool.and_eq_true, List.all_eq_true] at hb
      have h1 := hb.1 i (List.mem_range.2 hi)
      rw [List.getElem?_eq_getElem hi] at h1
      simp only [Option.map_some, Option.getD_some, Array.all_eq_true'] at h1
      have hm : i ∈ Region.ready .any l.toArray listed := mem_ready.2 ⟨by
        simp only [Array.getD_eq_getD_getElem?] at hl ⊢
        rw [Array.getElem?_eq_getElem (by omega)] at hl ⊢
        exact hl, l[i], by simp [hi], fun e he hbd => by
        have h2 : e.on < i := by
          have h3 := h1 e he
          rw [hbd] at h3
          simpa using h3
        exact ih e.on h2 (by omega)⟩
      rw [hr] at hm
      cases hm
theorem wpAny_valsW (hb : rgwB l = true) (hL : ¬ LetsOut Q) {Le : World → World → Prop} {V : Nat → World → Value → Prop} {a0 : Act} {w0 : World} (hT : ∀ w w', Le w0 w → Le w w' → Le w0 w')
    (hV : ∀ i w w' v, Le w w' → V i w v → V i w' v) (hop : ∀ i o, l[i]? = some o → OpOk P l Le V Q a0 w0 i o)
    (hend : ∀ (us : Nat → Value) (w : World), Le w0 w → (∀ i, i < l.length → V i w (us i)) → Q .normal (putAll a0 (l.map (·.dst)) us 0) w) :
    ∀ (fuel : Nat) (listed : Array Bool) (us : Nat → Value) (w : World), listed.size = l.length → left listed ≤ fuel → Le w0 w → (∀ i, listed.getD i false = true → V i w (us i)) →
      wpAny P .any l.toArray Q fuel listed (putAll a0 (l.map (·.dst)) us 0) w
  | 0, listed, us, w, hsz, hf, hw, hv => by
    have hall : ∀ i, i < l.length → listed.getD i false = true := fun i hi => by
      cases hl : listed.getD i false with
      | true => rfl
      | false =>
        have hlt : i < listed.size := by omega
        have : 0 < left listed := by
          unfold left
          refine List.count_pos_iff.2 ?_
          rw [Array.getD_eq_getD_getElem?, Array.getElem?_eq_getElem hlt, Option.getD_some] at hl
          exact hl ▸ Array.getElem_mem_toList hlt
        omega
    refine ⟨?_, hend us w hw fun i hi => hv i (hall i hi)⟩
    refine List.eq_nil_iff_forall_not_mem.2 fun j hj => ?_
    obtain ⟨h1, o, ho, _⟩ := mem_ready.1 hj
    have hlt : j < l.length := by
      rcases Nat.lt_or_ge j l.length with h' | h'
      · exact h'
      · simp [h'] at ho
    have h2 := hall j hlt
    have hlt2 : j < listed.size := by omega
    rw [Array.getD_eq_getD_getElem?, Array.getElem?_eq_getElem hlt2, Option.getD_some] at h1 h2
    rw [h1] at h2
    cases h2
  | fuel + 1, listed, us, w, hsz, hf, hw, hv => by
    refine ⟨fun hr => hend us w hw fun i hi => hv i (all_listedW hb hsz hr i hi), fun j hj => ?_⟩
    obtain ⟨hjun, o, ho, hall⟩ := mem_ready.1 hj
    have ho' : l[j]? = some o := by simpa using ho
    refine wpOp_of_list hL ho' (hop j o ho' us w hw (predsV_of _ fun e he hbd => hv e.on (hall e (Array.mem_toList_iff.1 he) hbd)) _ fun v w' hvv hle => ?_)
    have hd : (l.map (·.dst))[j]? = some o.dst := by rw [List.getElem?_map, ho']; rfl
    have hnd : ((l.map (·.dst)).filterMap id).Nodup := by
      simp only [rgwB, Bool.and_eq_true, decide_eq_true_eq] at hb
      exact hb.2
    have hput := putAll_upd (l.map (·.dst)) a0 us 0 j v o.dst hd hnd
    rw [Nat.zero_add] at hput
    rw [← hput]
    refine wpAny_valsW hb hL hT hV hop hend fuel _ (upd us j v) w' (by rw [Array.size_setIfInBounds]; exact hsz) (by have := left_set hjun; omega) (hT _ _ hw hle) fun i hi => ?_
    by_cases hij : i = j
    · subst hij
      simpa [upd] using hvv
    · simp only [upd]
      rw [if_neg hij]
      rw [getD_set_ne false (Ne.symm hij)] at hi
      exact hV i w w' _ hle (hv i hi)
/-- A region, operation by operation. -/
theorem region_valsW {id : Nat} {a : Act} {w : World} (Le : World → World → Prop) (V : Nat → World → Value → Prop) (hm : P.follows .mixedOrders = true) (hb : rgwB l = true) (hL : ¬ LetsOut Q)
    (hR : Le w.drew w.drew) (hT : ∀ w1 w', Le w.drew w1 → Le w1 w' → Le w.drew w') (hV : ∀ i w w' v, Le w w' → V i w v → V i w' v) 
    (hop : ∀ i o, l[i]? = some o → OpOk P l Le V Q a w.drew (0 + i) o)
    (hend : ∀ (us : Nat → Value) (w1 : World), Le w.drew w1 → (∀ i, i < l.length → V i w1 (us i)) → Q .normal (putAll a (l.map (·.dst)) us 0) w1) : (Code.region id l.toArray true).wp P Q a w := by
  refine wp_region_any hm ?_
  have h := wpAny_valsW hb hL hT hV (fun i o ho => by have := hop i o ho; rwa [Nat.zero_add] at this) hend l.toArray.size (Array.replicate l.toArray.size false) (selfV a (l.map (·.dst))) w.drew (by simp) ?_ hR fun i hi => ?_
  · rw [putAll_self] at h
    exact h
  · unfold left
    refine Nat.le_trans List.count_le_length ?_
    simp
  · exfalso
    rw [Array.getD_eq_getD_getElem?, Array.getElem?_replicate] at hi
    split at hi <;> simp at hi
theorem region_belowW {id : Nat} {a : Act} {w : World} (Vs : List (World → Value → Prop)) (hm : P.follows .mixedOrders = true) (hb : rgwB l = true) (hL : ¬ LetsOut Q) (hV : KeepsL Vs)
    (hop : ∀ i o, l[i]? = some o → OpOk P l (fun w w' => Below w.heap.size w w') (vsel Vs) Q a w.drew (0 + i) o)
    (hend : ∀ (us : Nat → Value) (w1 : World), Below w.drew.heap.size w.drew w1 → (∀ i, i < l.length → vsel Vs i w1 (us i)) → Q .normal (putAll a (l.map (·.dst)) us 0) w1) : (Code.region id l.toArray true).wp P Q a w :=
  region_valsW (fun w w' => Below w.heap.size w w') (vsel Vs) hm hb hL (Below.refl _ _) (fun _ _ h k => bthen h k) (fun i w w' v h k => vsel_keeps Vs hV i w w' v h k) hop hend
end
end Go.Proofs.YtocncjimepnlcaaGreatDoor
