/- A region that draws its order, walked in ONE order: operations that give the same value in every world that meets S ('floats') are taken first; the others ('loud') one by one. -/
import Derived.WalkKit
import Derived.OrdersIn
import Derived.RangeFuncCalls
namespace Go.Proofs.YtocncjimepnlcaaGreatDoor
set_option linter.unusedSimpArgs false
set_option linter.unusedVariables false
open Go Go.RowKit
section
variable {P : Program} {ops : Array Oper} {md : Region.Mode} {S : World → Prop} {fl nS : Nat → Bool} {Q : Exit → Act → World → Prop}
/-- The operation gives v in every world that meets S, and leaves it (or its guard passes it over). -/
def FloatAt (P : Program) (ops : Array Oper) (S : World → Prop) (o : Oper) (v : Value) (a : Act) : Prop :=
  (Region.wanted o (yielded ops a.tmps) = true ∧ ((∀ w, S w → (execOp a.eval o).run P w = .ok (.value v) w) ∨
    ∀ w, S w → ∃ f args, (execOp a.eval o).run P w = .ok (.enter f args) w ∧ Calls P f args w fun e w' => e = .returned v ∧ w = w')) ∨
  (Region.wanted o (yielded ops a.tmps) = false ∧ v = undef)
theorem FloatAt.of_same {o : Oper} {v : Value} {a a' : Act} (hy : FloatAt P ops S o v a) (he : execOp a'.eval o = execOp a.eval o)
    (hw : Region.wanted o (yielded ops a'.tmps) = Region.wanted o (yielded ops a.tmps)) : FloatAt P ops S o v a' := by
  unfold FloatAt at *
  rw [he, hw]
  exact hy
def stepX (P : Program) (ops : Array Oper) (S : World → Prop) (fl nS : Nat → Bool) (Q : Exit → Act → World → Prop) (i : Nat) (K : Act → World → Prop) (a : Act) (w : World) : Prop :=
  match ops[i]? with
  | none => False
  | some o =>
    if fl i = true then ∃ v, FloatAt P ops S o v a ∧ K (a.put o.dst v) w
    else if Region.wanted o (yielded ops a.tmps) = true then o.wp P a w (fun a' w' => (nS i = true → S w') ∧ K a' w') Q
    else K (a.put o.dst undef) w
def wpX (P : Program) (md : Region.Mode) (ops : Array Oper) (S : World → Prop) (fl nS : Nat → Bool) (Q : Exit → Act → World → Prop) : Nat → Array Bool → Act → World → Prop
  | 0, listed, a, w => Region.ready md ops listed = [] ∧ Q .normal a w
  | fuel + 1, listed, a, w =>
    (Region.ready md ops listed = [] → Q .normal a w) ∧
    ∀ i ∈ Region.ready md ops listed, stepX P ops S fl nS Q i (wpX P md ops S fl nS Q fuel (listed.setIfInBounds i true)) a w
theorem stepX_mono {i : Nat} {a : Act} {w : World} {K K' : Act → World → Prop} (h : ∀ a w, K a w → K' a w) (hh : stepX P ops S fl nS Q i K a w) : stepX P ops S fl nS Q i K' a w := by
  unfold stepX at *
  split
  · rename_i ho; simp only [ho] at hh
  · rename_i o ho
    simp only [ho] at hh
    split
    · rename_i hf
      rw [if_pos hf] at hh
      obtain ⟨v, hy, hk⟩ := hh
      exact ⟨v, hy, h _ _ hk⟩
    · rename_i hf
      rw [if_neg hf] at hh
      split
      · rename_i hw
        rw [if_pos hw] at hh
        exact Oper.wp_mono (fun a w hk => ⟨hk.1, h _ _ hk.2⟩) hh
      · rename_i hw
        rw [if_neg hw] at hh
        exact h _ _ hh
theorem stepX_put {j : Nat} {oi oj : Oper} {v : Value} (hj : ops[j]? = some oj) (hap : oi.apart ops oj = true)
    (hsi : ∀ cs b, oi.op ≠ .select cs b) (hsj : ∀ cs b, oj.op ≠ .select cs b)
    (hQ : ∀ c a d v w, Q (.panic c) (a.put d v) w → Q (.panic c) a w) {K : Act → World → Prop} {a : Act} {w : World}
    (hy : FloatAt P ops S oi v a) (h : stepX P ops S fl nS Q j K (a.put oi.dst v) w) :
    stepX P ops S fl nS Q j (fun a' w' => FloatAt P ops S oi v a' ∧ K (a'.put oi.dst v) w') a w := by
  obtain ⟨h1, h2, h3⟩ := Oper.apart_spec hap
  have keep : ∀ (a : Act), FloatAt P ops S oi v a → ∀ u, FloatAt P ops S oi v (a.put oj.dst u) := fun a hy u =>
    hy.of_same (execOp_put oi hsi a oj.dst u h3) (wanted_put oi a oj.dst u h3)
  have keepD : ∀ d, FloatAt P ops S oi v { a with defers := d :: a.defers } := fun d => hy.of_same rfl rfl
  unfold stepX at *
  simp only [hj] at *
  split
  · rename_i hf
    rw [if_pos hf] at h
    obtain ⟨u, hu, hk⟩ := h
    refine ⟨u, hu.of_same (execOp_put oj hsj a oi.dst v h1).symm (wanted_put oj a oi.dst v h1).symm, keep a hy u, ?_⟩
    rw [← Act.put_comm a v u h2]
    exact hk
  · rename_i hf
    rw [if_neg hf] at h
    rw [wanted_put oj a oi.dst v h1] at h
    split
    · rename_i hw
      rw [if_pos hw] at h
      unfold Oper.wp at *
      rw [execOp_put oj hsj a oi.dst v h1] at h
      generalize (execOp a.eval oj).run P w = r at *
      cases r with
      | ok n w' =>
        cases n <;> simp only [Oper.upon] at h ⊢
        case value u => exact ⟨h.1, keep a hy u, by rw [← Act.put_comm a v u h2]; exact h.2⟩
        case skip => exact ⟨h.1, keep a hy _, by rw [← Act.put_comm a v undef h2]; exact h.2⟩
        case defer d =>
          refine ⟨h.1, keep _ (keepD d) _, ?_⟩
          rw [← Act.put_comm _ v undef h2, ← Act.put_defers]
          exact h.2
        case enter f args =>
          refine Calls.mono h fun e w'' he => ?_
          cases e with
          | returned u => exact ⟨he.1, keep a hy u, by rw [← Act.put_comm a v u h2]; exact he.2⟩
          | panicked c => exact hQ _ _ _ _ _ he
          | outgrown => exact he
        case row row args => exact Rows.mono h fun u w'' he => ⟨he.1, keep a hy u, by rw [← Act.put_comm a v u h2]; exact he.2⟩
      | halt x w' =>
        cases x <;> simp only [Oper.upon] at h ⊢
        case panic u => exact hQ _ _ _ _ _ h
    · rename_i hw
      rw [if_neg hw] at h
      exact ⟨keep a hy _, by rw [← Act.put_comm a v undef h2]; exact h⟩
theorem stepX_float {i : Nat} {o : Oper} {v : Value} {a : Act} {w : World} {K : Act → World → Prop} (hi : ops[i]? = some o) (hf : fl i = true) (hy : FloatAt P ops S o v a) (h : K (a.put o.dst v) w) :
    stepX P ops S fl nS Q i K a w := by
  unfold stepX
  simp only [hi]
  rw [if_pos hf]
  exact ⟨v, hy, h⟩
/-- A float that is ready may be taken first. -/
theorem wpX_first {i : Nat} {oi : Oper} {v : Value} (hi : ops[i]? = some oi) (hf : fl i = true) (hsel : ∀ (j : Nat) (o : Oper) cs b, ops[j]? = some o → o.op ≠ .select cs b)
    (hQ : ∀ c a d v w, Q (.panic c) (a.put d v) w → Q (.panic c) a w) :
    ∀ (fuel : Nat) (listed : Array Bool) (a : Act) (w : World),
      (∀ j oj, ops[j]? = some oj → j ≠ i → listed.getD j true = false → (∀ e ∈ oj.after, Region.binds md e = true → e.on ≠ i) → oi.apart ops oj = true) →
      i ∈ Region.ready md ops listed → FloatAt P ops S oi v a →
      wpX P md ops S fl nS Q fuel (listed.setIfInBounds i true) (a.put oi.dst v) w → wpX P md ops S fl nS Q (fuel + 1) listed a w := by
  intro fuel
  induction fuel with
  | zero =>
    intro listed a w _ hr hy H
    refine ⟨fun h => (by rw [h] at hr; cases hr), fun j hj => ?_⟩
    by_cases hji : j = i
    · subst hji; exact stepX_float hi hf hy H
    · have := ready_mono hj hji
      rw [H.1] at this
      cases this
  | succ fuel ih =>
    intro listed a w hfree hr hy H
    refine ⟨fun h => (by rw [h] at hr; cases hr), fun j hj => ?_⟩
    by_cases hji : j = i
    · subst hji; exact stepX_float hi hf hy H
    · have h1 := H.2 j (ready_mono hj hji)
      obtain ⟨hjun, oj, hoj, hall⟩ := mem_ready.1 hj
      have hnot : ∀ e ∈ oj.after, Region.binds md e = true → e.on ≠ i := fun e he hb heq => by
        have h1 := hall e he hb
        have h0 := (mem_ready.1 hr).1
        rw [heq] at h1
        rcases Nat.lt_or_ge i listed.size with h' | h'
        · simp [h'] at h0 h1; rw [h0] at h1; cases h1
        · simp [Array.getElem?_eq_none h'] at h1
      have h2 := stepX_put hoj (hfree j oj hoj hji hjun hnot) (fun cs b => hsel i oi cs b hi) (fun cs b => hsel j oj cs b hoj) hQ hy h1
      have hfree' : ∀ k ok, ops[k]? = some ok → k ≠ i → (listed.setIfInBounds j true).getD k true = false →
          (∀ e ∈ ok.after, Region.binds md e = true → e.on ≠ i) → oi.apart ops ok = true := fun k ok hk hki hun hno => by
        refine hfree k ok hk hki ?_ hno
        by_cases hjk : j = k
        · subst hjk; exact hjun
        · rw [getD_set_ne true hjk] at hun; exact hun
      refine stepX_mono (fun a' w' h3 => ih (listed.setIfInBounds j true) a' w' hfree' (ready_mono hr (Ne.symm hji)) h3.1 ?_) h2
      rw [Array.setIfInBounds_comm _ _ hji]
      exact h3.2
/-- i stands before j by a chain of edges. -/
inductive Anc (md : Region.Mode) (ops : Array Oper) : Nat → Nat → Prop
  | edge {j : Nat} {o : Oper} {e : Edge} (ho : ops[j]? = some o) (he : e ∈ o.after) (hb : Region.binds md e = true) : Anc md ops e.on j
  | step {i j : Nat} {o : Oper} {e : Edge} (ho : ops[j]? = some o) (he : e ∈ o.after) (hb : Region.binds md e = true) (h : Anc md ops i e.on) : Anc md ops i j
/-- The operations that stand before one, as a number's bits. -/
def maskOf (md : Region.Mode) (acc : Array Nat) (es : List Edge) : Nat := es.foldl (fun s e => if Region.binds md e = true then (s ||| 2 ^ e.on) ||| acc.getD e.on 0 else s) 0
def masks (md : Region.Mode) : List Oper → Array Nat → Array Nat
  | [], acc => acc
  | o :: l, acc => masks md l (acc.push (maskOf md acc o.after.toList))
theorem mask_fold (md : Region.Mode) (acc : Array Nat) (i : Nat) : ∀ (es : List Edge) (s : Nat), (es.foldl (fun s e => if Region.binds md e = true then (s ||| 2 ^ e.on) ||| acc.getD e.on 0 else s) s).testBit i = true →
    s.testBit i = true ∨ ∃ e ∈ es, Region.binds md e = true ∧ (e.on = i ∨ (acc.getD e.on 0).testBit i = true)
  | [], _, h => .inl h
  | e :: es, s, h => by
    rw [List.foldl_cons] at h
    rcases mask_fold md acc i es _ h with h1 | ⟨e', he', h1⟩
    · by_cases hb : Region.binds md e = true
      · rw [if_pos hb, Nat.testBit_or, Nat.testBit_or, Bool.or_eq_true, Bool.or_eq_true] at h1
        rcases h1 with (h1 | h1) | h1
        · exact .inl h1
        · rw [Nat.testBit_two_pow] at h1
          exact .inr ⟨e, List.mem_cons_self .., hb, .inl (of_decide_eq_true h1)⟩
        · exact .inr ⟨e, List.mem_cons_self .., hb, .inr h1⟩
      · rw [if_neg hb] at h1
        exact .inl h1
    · exact .inr ⟨e', List.mem_cons_of_mem _ he', h1⟩
theorem masks_anc (md : Region.Mode) (ops : Array Oper) : ∀ (l : List Oper) (acc : Array Nat), (∀ j, l[j]? = ops[acc.size + j]?) → (∀ i j, (acc.getD j 0).testBit i = true → Anc md ops i j) →
    ∀ i j, ((masks md l acc).getD j 0).testBit i = true → Anc md ops i j
  | [], _, _, h => h
  | o :: l, acc, hl, h => by
    refine masks_anc md ops l _ (fun j => ?_) (fun i j hij => ?_)
    · have := hl (j + 1)
      rw [List.getElem?_cons_succ] at this
      rw [this, Array.size_push]
      congr 1
      omega
    · by_cases hj : j = acc.size
      · subst hj
        have ho : ops[acc.size]? = some o := by simpa using (hl 0).symm
        have e1 : (acc.push (maskOf md acc o.after.toList)).getD acc.size 0 = maskOf md acc o.after.toList := by simp
        rw [e1] at hij
        rcases mask_fold md acc i _ _ hij with h1 | ⟨e, he, hb, h1 | h1⟩
        · simp at h1
        · subst h1
          exact .edge ho (Array.mem_toList_iff.1 he) hb
        · exact .step ho (Array.mem_toList_iff.1 he) hb (h i e.on h1)
      · have e1 : (acc.push (maskOf md acc o.after.toList)).getD j 0 = acc.getD j 0 := by
          simp only [Array.getD_eq_getD_getElem?, Array.getElem?_push]
          rw [if_neg hj]
        rw [e1] at hij
        exact h i j hij
def Down (md : Region.Mode) (ops : Array Oper) (listed : Array Bool) : Prop :=
  ∀ j o, ops[j]? = some o → listed.getD j false = true → ∀ e ∈ o.after, Region.binds md e = true → listed.getD e.on false = true
theorem anc_listed {listed : Array Bool} (hd : Down md ops listed) {i j : Nat} (h : Anc md ops i j) : ∀ (o : Oper), ops[j]? = some o →
    (∀ e ∈ o.after, Region.binds md e = true → listed.getD e.on false = true) → listed.getD i false = true := by
  induction h with
  | edge ho he hb =>
    intro o ho' hall
    rw [ho] at ho'
    cases ho'
    exact hall _ he hb
  | step ho he hb h ih =>
    intro o ho' hall
    rw [ho] at ho'
    cases ho'
    have hl := hall _ he hb
    cases h with
    | edge ho1 he1 hb1 => exact ih _ ho1 (hd _ _ ho1 hl)
    | step ho1 he1 hb1 h1 => exact ih _ ho1 (hd _ _ ho1 hl)
theorem Down.set {listed : Array Bool} (hd : Down md ops listed) {j : Nat} (hj : j ∈ Region.ready md ops listed) : Down md ops (listed.setIfInBounds j true) := by
  intro k o hk hl e he hb
  by_cases hjk : j = k
  · subst hjk
    obtain ⟨_, oj, hoj, hall⟩ := mem_ready.1 hj
    rw [hoj] at hk
    cases hk
    exact getD_set_true (hall e he hb)
  · rw [getD_set_ne false hjk] at hl
    exact getD_set_true (hd k o hk hl e he hb)
/-- The check: a loud operation that need not keep S comes behind all floats. -/
def safeB (md : Region.Mode) (ops : Array Oper) (fl nS : Nat → Bool) : Bool :=
  let m := masks md ops.toList #[]
  (List.range ops.size).all fun j => fl j || nS j || (List.range ops.size).all fun i => !fl i || (m.getD j 0).testBit i
theorem safeB_spec {j i : Nat} (hB : safeB md ops fl nS = true) (hj : j < ops.size) (hi : i < ops.size) (hfj : fl j = false) (hn : nS j = false) (hfi : fl i = true) : Anc md ops i j := by
  unfold safeB at hB
  simp only [List.all_eq_true] at hB
  have h1 := hB j (List.mem_range.2 hj)
  rw [hfj, hn, Bool.false_or, Bool.false_or, List.all_eq_true] at h1
  have h2 := h1 i (List.mem_range.2 hi)
  rw [hfi] at h2
  exact masks_anc md ops ops.toList #[] (fun j => by simp) (fun i j h => by simp at h) i j (by simpa using h2)
theorem FloatAt.wpOp {i : Nat} {o : Oper} {v : Value} {a : Act} (hi : ops[i]? = some o) (hy : FloatAt P ops S o v a) {K : Act → World → Prop} {w : World} (hS : S w) (h : K (a.put o.dst v) w) :
    wpOp P ops Q i K a w := by
  unfold Go.wpOp
  simp only [hi]
  rcases hy with ⟨hw, hv | hc⟩ | ⟨hw, rfl⟩
  · rw [if_pos hw]
    refine .inl ?_
    unfold Oper.wp
    rw [hv w hS]
    exact h
  · rw [if_pos hw]
    refine .inl ?_
    obtain ⟨f, args, hr, hcall⟩ := hc w hS
    unfold Oper.wp
    rw [hr]
    exact Calls.mono hcall fun e w' ⟨he, hw'⟩ => by subst he; subst hw'; exact h
  · rw [if_neg (by rw [hw]; simp)]
    exact h
theorem wpAny_of_X (hB : safeB md ops fl nS = true) : ∀ (fuel : Nat) (listed : Array Bool) (a : Act) (w : World), Down md ops listed → listed.size = ops.size →
    ((∃ i, i < ops.size ∧ fl i = true ∧ listed.getD i true = false) → S w) → wpX P md ops S fl nS Q fuel listed a w → wpAny P md ops Q fuel listed a w
  | 0, _, _, _, _, _, _, h => h
  | fuel + 1, listed, a, w, hd, hsz, hS, h => ⟨h.1, fun j hj => by
      have hh := h.2 j hj
      have hd' := hd.set hj
      have hsz' : (listed.setIfInBounds j true).size = ops.size := by rw [Array.size_setIfInBounds]; exact hsz
      obtain ⟨hjun, oj, hoj, hall⟩ := mem_ready.1 hj
      have hlt : j < ops.size := (Array.getElem?_eq_some_iff.1 hoj).1
      have less : ∀ w', (∃ i, i < ops.size ∧ fl i = true ∧ (listed.setIfInBounds j true).getD i true = false) → S w → S w' → S w' := fun _ _ _ h => h
      have sub : (∃ i, i < ops.size ∧ fl i = true ∧ (listed.setIfInBounds j true).getD i true = false) → ∃ i, i < ops.size ∧ fl i = true ∧ listed.getD i true = false := by
        rintro ⟨i, hi, hf, hl⟩
        refine ⟨i, hi, hf, ?_⟩
        by_cases hji : j = i
        · subst hji; exact hjun
        · rwa [getD_set_ne true hji] at hl
      by_cases hf : fl j = true
      · have hSw : S w := hS ⟨j, hlt, hf, hjun⟩
        unfold stepX at hh
        simp only [hoj] at hh
        rw [if_pos hf] at hh
        obtain ⟨v, hy, hk⟩ := hh
        exact hy.wpOp hoj hSw (wpAny_of_X hB fuel _ _ _ hd' hsz' (fun _ => hSw) hk)
      · unfold stepX at hh
        unfold wpOp
        simp only [hoj] at hh ⊢
        rw [if_neg hf] at hh
        split
        · rename_i hw
          rw [if_pos hw] at hh
          refine .inl (Oper.wp_mono (fun a' w' hk => wpAny_of_X hB fuel _ a' w' hd' hsz' (fun hex => ?_) hk.2) hh)
          by_cases hn : nS j = true
          · exact hk.1 hn
          · exfalso
            obtain ⟨i, hi, hfi, hli⟩ := hex
            have h3 := anc_listed hd (safeB_spec hB hlt hi (by simpa using hf) (by simpa using hn) hfi) oj hoj hall
            by_cases hji : j = i
            · subst hji; exact hf hfi
            · rw [getD_set_ne true hji] at hli
              have hlt' : i < listed.size := by omega
              simp [hlt'] at h3 hli
              rw [h3] at hli
              cases hli
        · rename_i hw
          rw [if_neg hw] at hh
          exact wpAny_of_X hB fuel _ _ _ hd' hsz' (fun hex => hS (sub hex)) hh⟩
/-- The schedule: floats when they are ready, loud ones when they alone are. -/
def schedB (md : Region.Mode) (ops : Array Oper) (fl : Nat → Bool) : List Nat → Array Bool → Bool
  | [], listed => (Region.ready md ops listed).isEmpty
  | i :: rest, listed => (if fl i = true then (Region.ready md ops listed).contains i && Region.free md ops listed i else decide (Region.ready md ops listed = [i])) && schedB md ops fl rest (listed.setIfInBounds i true)
def wpSch (P : Program) (ops : Array Oper) (S : World → Prop) (fl nS : Nat → Bool) (Q : Exit → Act → World → Prop) : List Nat → Act → World → Prop
  | [], a, w => Q .normal a w
  | i :: rest, a, w => stepX P ops S fl nS Q i (wpSch P ops S fl nS Q rest) a w
theorem wpX_of_sch (hsel : Region.noSelect ops = true) (hQ : ∀ c a d v w, Q (.panic c) (a.put d v) w → Q (.panic c) a w) :
    ∀ (L : List Nat) (listed : Array Bool) (a : Act) (w : World), schedB md ops fl L listed = true → wpSch P ops S fl nS Q L a w → wpX P md ops S fl nS Q L.length listed a w
  | [], listed, a, w, hB, h => ⟨by simpa [schedB] using hB, h⟩
  | i :: rest, listed, a, w, hB, h => by
    simp only [schedB, Bool.and_eq_true] at hB
    obtain ⟨h1, h2⟩ := hB
    by_cases hf : fl i = true
    · rw [if_pos hf] at h1
      simp only [Bool.and_eq_true] at h1
      unfold wpSch stepX at h
      cases ho : ops[i]? with
      | none => simp only [ho] at h
      | some o =>
        simp only [ho] at h
        rw [if_pos hf] at h
        obtain ⟨v, hy, hk⟩ := h
        exact wpX_first ho hf (Region.noSelect_spec hsel) hQ rest.length listed a w (Region.free_spec ho h1.2) (by simpa using h1.1) hy (wpX_of_sch hsel hQ rest _ _ _ h2 hk)
    · rw [if_neg hf] at h1
      have hr : Region.ready md ops listed = [i] := of_decide_eq_true h1
      refine ⟨fun h0 => (by rw [hr] at h0; cases h0), fun j hj => ?_⟩
      rw [hr] at hj
      obtain rfl : j = i := by simpa using hj
      exact stepX_mono (fun a' w' hk => wpX_of_sch hsel hQ rest _ a' w' h2 hk) h
end
section
variable {P : Program} {ops : Array Oper} {S : World → Prop} {Q : Exit → Act → World → Prop} {K : Act → World → Prop}
/-- The walk of a schedule: floats (true) and loud ones that keep S (false); then K. -/
def wpM (P : Program) (ops : Array Oper) (S : World → Prop) (Q : Exit → Act → World → Prop) (K : Act → World → Prop) : List (Bool × Oper) → Act → World → Prop
  | [], a, w => K a w
  | (true, o) :: rest, a, w => ∃ v, FloatAt P ops S o v a ∧ wpM P ops S Q K rest (a.put o.dst v) w
  | (false, o) :: rest, a, w => if Region.wanted o (yielded ops a.tmps) = true then o.wp P a w (fun a' w' => S w' ∧ wpM P ops S Q K rest a' w') Q else wpM P ops S Q K rest (a.put o.dst undef) w
def flM (M : List (Bool × Nat)) (i : Nat) : Bool := M.contains (true, i)
def nsM (M : List (Bool × Nat)) (i : Nat) : Bool := M.contains (false, i)
/-- Every check at once: M: the floats and the loud ones that keep S, as they are taken; T: the rest. -/
def rgnB (l : List Oper) (M : List (Bool × Nat)) (T : List Nat) : Bool :=
  Region.noSelect l.toArray && safeB .any l.toArray (flM M) (nsM M) && schedB .any l.toArray (flM M) (M.map (·.2) ++ T) (Array.replicate l.toArray.size false) &&
  (M.length + T.length == l.length) && (M.all fun x => flM M x.2 == x.1 && x.2 < l.length) && T.all fun i => !flM M i && !nsM M i && i < l.length
def pickM (l : List Oper) (M : List (Bool × Nat)) : List (Bool × Oper) := M.filterMap fun x => (l[x.2]?).map fun o => (x.1, o)
def pickT (l : List Oper) (T : List Nat) : List Oper := T.filterMap fun i => l[i]?
theorem down_start (ops : Array Oper) : Down .any ops (Array.replicate ops.size false) := by
  intro j o _ hl
  exfalso
  by_cases h : j < ops.size
  · simp [h] at hl
  · simp [h] at hl
theorem sch_tail {l : List Oper} {fl nS : Nat → Bool} (hL : ¬ LetsOut Q) : ∀ (T : List Nat) (a : Act) (w : World), (∀ i ∈ T, fl i = false ∧ nS i = false ∧ i < l.length) →
    wpList P l.toArray Q (pickT l T) a w → wpSch P l.toArray S fl nS Q T a w
  | [], _, _, _, h => h
  | i :: T, a, w, hf, h => by
    obtain ⟨hfi, hni, hlt⟩ := hf i (List.mem_cons_self ..)
    have hf' : ∀ i ∈ T, fl i = false ∧ nS i = false ∧ i < l.length := fun j hj => hf j (List.mem_cons_of_mem _ hj)
    have ho : l[i]? = some l[i] := List.getElem?_eq_getElem hlt
    have hp : pickT l (i :: T) = l[i] :: pickT l T := by simp [pickT, ho]
    rw [hp] at h
    have ho' : l.toArray[i]? = some l[i] := by simp [hlt]
    unfold wpSch stepX
    simp only [ho']
    rw [if_neg (by rw [hfi]; simp)]
    unfold wpList at h
    by_cases hw : Region.wanted l[i] (yielded l.toArray a.tmps) = true
    · rw [if_pos hw] at h ⊢
      rcases h with h | h
      · exact Oper.wp_mono (fun a' w' hk => ⟨fun h0 => (by rw [hni] at h0; cases h0), sch_tail hL T a' w' hf' hk⟩) h
      · exact (hL h.2).elim
    · rw [if_neg hw] at h ⊢
      exact sch_tail hL T _ _ hf' h
theorem sch_of_M {l : List Oper} {fl nS : Nat → Bool} {T : List Nat} (hK : ∀ a w, K a w → wpSch P l.toArray S fl nS Q T a w) :
    ∀ (M : List (Bool × Nat)) (a : Act) (w : World), (∀ x ∈ M, fl x.2 = x.1 ∧ x.2 < l.length) → wpM P l.toArray S Q K (pickM l M) a w → wpSch P l.toArray S fl nS Q (M.map (·.2) ++ T) a w
  | [], a, w, _, h => hK a w h
  | (b, i) :: M, a, w, hf, h => by
    obtain ⟨hfi, hlt⟩ := hf (b, i) (List.mem_cons_self ..)
    have hf' : ∀ x ∈ M, fl x.2 = x.1 ∧ x.2 < l.length := fun x hx => hf x (List.mem_cons_of_mem _ hx)
    have ho : l[i]? = some l[i] := List.getElem?_eq_getElem hlt
    have hp : pickM l ((b, i) :: M) = (b, l[i]) :: pickM l M := by simp [pickM, ho]
    rw [hp] at h
    have ho' : l.toArray[i]? = some l[i] := by simp [hlt]
    show wpSch P l.toArray S fl nS Q (i :: (M.map (·.2) ++ T)) a w
    unfold wpSch stepX
    simp only [ho']
    simp only at hfi
    cases b with
    | true =>
      obtain ⟨v, hy, hk⟩ := h
      rw [if_pos hfi]
      exact ⟨v, hy, sch_of_M hK M _ _ hf' hk⟩
    | false =>
      unfold wpM at h
      rw [if_neg (by rw [hfi]; simp)]
      by_cases hw : Region.wanted l[i] (yielded l.toArray a.tmps) = true
      · rw [if_pos hw] at h ⊢
        exact Oper.wp_mono (fun a' w' hk => ⟨fun _ => hk.1, sch_of_M hK M a' w' hf' hk.2⟩) h
      · rw [if_neg hw] at h ⊢
        exact sch_of_M hK M _ _ hf' h
theorem wpAny_sch {l : List Oper} (S : World → Prop) (M : List (Bool × Nat)) (T : List Nat) {a : Act} {w : World} (hB : rgnB l M T = true) (hL : ¬ LetsOut Q) (hQ : ∀ c a d v w, Q (.panic c) (a.put d v) w → Q (.panic c) a w)
    (hS : S w) (h : wpM P l.toArray S Q (wpList P l.toArray Q (pickT l T)) (pickM l M) a w) : wpAny P .any l.toArray Q l.toArray.size (Array.replicate l.toArray.size false) a w := by
  unfold rgnB at hB
  simp only [Bool.and_eq_true, beq_iff_eq, List.all_eq_true, decide_eq_true_eq, Bool.not_eq_true'] at hB
  obtain ⟨⟨⟨⟨⟨h1, h2⟩, h3⟩, h4⟩, h5⟩, h6⟩ := hB
  have hsch := sch_of_M (fl := flM M) (nS := nsM M) (T := T) (fun a w hk => sch_tail hL T a w (fun i hi => ⟨(h6 i hi).1.1, (h6 i hi).1.2, (h6 i hi).2⟩) hk) M a w (fun x hx => ⟨(h5 x hx).1, (h5 x hx).2⟩) h
  have := wpX_of_sch h1 hQ _ _ a w h3 hsch
  rw [show (M.map (·.2) ++ T).length = l.toArray.size by simp [h4]] at this
  exact wpAny_of_X h2 _ _ _ _ (down_start _) (by simp) (fun _ => hS) this
/-- **A region that draws its order, walked by a schedule.** -/
theorem region_sch {id : Nat} {l : List Oper} {a : Act} {w : World} (S : World → Prop) (M : List (Bool × Nat)) (T : List Nat) (hm : P.follows .mixedOrders = true) (hB : rgnB l M T = true)
    (hL : ¬ LetsOut Q) (hQ : ∀ c a d v w, Q (.panic c) (a.put d v) w → Q (.panic c) a w) (hS : S w.drew) (h : wpM P l.toArray S Q (wpList P l.toArray Q (pickT l T)) (pickM l M) a w.drew) : (Code.region id l.toArray true).wp P Q a w :=
  wp_region_any hm (wpAny_sch S M T hB hL hQ hS h)
theorem m_nil {a : Act} {w : World} (h : K a w) : wpM P ops S Q K [] a w := h
/-- A float. -/
theorem m_float {o : Oper} {rest : List (Bool × Oper)} {a : Act} {w : World} (h : ∃ v, FloatAt P ops S o v a ∧ ∀ K' : Act → Prop, (∀ a', wpM P ops S Q K rest a' w → K' a') → K' (a.put o.dst v)) :
    wpM P ops S Q K ((true, o) :: rest) a w := by
  obtain ⟨v, hy, hk⟩ := h
  exact ⟨v, hy, hk _ fun _ h => h⟩
/-- A loud operation, as the walk takes one: what it leaves goes to K'. -/
theorem m_loud {o : Oper} {rest : List (Bool × Oper)} {a : Act} {w : World} (hL : ¬ LetsOut Q)
    (h : ∀ K' : Act → World → Prop, (∀ a' w', S w' → wpM P ops S Q K rest a' w' → K' a' w') → wpList P ops (Exit.then K' Q) [o] a w) :
    wpM P ops S Q K ((false, o) :: rest) a w := by
  have h := h (fun a' w' => S w' ∧ wpM P ops S Q K rest a' w') (fun _ _ h1 h2 => ⟨h1, h2⟩)
  unfold wpM
  unfold wpList at h
  by_cases hw : Region.wanted o (yielded ops a.tmps) = true
  · rw [if_pos hw] at h ⊢
    rcases h with h | h
    · unfold Oper.wp at *
      generalize (execOp a.eval o).run P w = r at *
      cases r with
      | ok x w' => cases x <;> exact h
      | halt x w' => cases x <;> exact h
    · exact (hL h.2).elim
  · rw [if_neg hw] at h ⊢
    exact h.2
end
/-! ### In a round of a range over a function -/
section
variable {P : Program}
theorem rcalls {n l : Nat} {f : FuncId} {args : Array Value} {w : World} {R : Ending → World → Prop} (h : Calls P f args w R) : CallsIn (Fence.wide.inRound l) n P f args w R :=
  CallsIn.inRound l (callsIn_wide.2 h)
theorem rwp {o : Oper} {a : Act} {w : World} {K K' : Act → World → Prop} {Q : Exit → Act → World → Prop} (n l : Nat) (hd : ∀ c, o.op ≠ .defer c) (hK : ∀ a w, K a w → K' a w) (h : o.wp P a w K Q) :
    o.wpIn (Fence.wide.inRound l) n P a w K' Q := by
  refine ⟨fun _ _ => trivial, ?_⟩
  rw [Oper.semAt_eq _ _ _ hd]
  unfold Oper.wp at h
  generalize (execOp a.eval o).run P w = r at *
  cases r with
  | ok x w' =>
    cases x <;> simp only [Oper.upon] at h <;> simp only [Oper.uponIn]
    case value v => exact hK _ _ h
    case skip => exact hK _ _ h
    case defer d => exact hK _ _ h
    case enter f args =>
      refine ⟨fun hh => by simp [Fence.wide, Fence.inRound] at hh, rcalls (h.mono ?_)⟩
      intro e w2 he
      cases e with
      | returned v => exact hK _ _ he
      | panicked ch => exact he
      | outgrown => exact he
    case row r args =>
      refine ⟨fun hh => by simp [Fence.wide, Fence.inRound] at hh, fun c cs _ => ?_⟩
      obtain ⟨v, w2, hr, hs⟩ := h c cs
      refine ⟨v, w2, hK _ _ hr, ?_⟩
      exact stepsIn_wide.2 hs
  | halt x w' =>
    cases x <;> simp only [Oper.upon] at h <;> simp only [Oper.uponIn]
    case panic v => exact h
theorem rwpAny {md : Region.Mode} {ops : Array Oper} {Q : Exit → Act → World → Prop} (n l : Nat) (hd : ∀ (i : Nat) (o : Oper) (c : Call), ops[i]? = some o → o.op ≠ Op.defer c) (hL : ¬ LetsOut Q) :
    ∀ (fuel : Nat) (listed : Array Bool) (a : Act) (w : World), wpAny P md ops Q fuel listed a w → wpAnyIn (Fence.wide.inRound l) n P md ops Q fuel listed a w
  | 0, _, _, _, h => h
  | fuel + 1, listed, a, w, h => ⟨h.1, fun i hi => by
      have hh := h.2 i hi
      unfold wpOp at hh
      unfold wpOpIn
      cases ho : ops[i]? with
      | none => simp only [ho] at hh ⊢; exact rwpAny n l hd hL fuel _ _ _ hh
      | some o =>
        simp only [ho] at hh ⊢
        split
        · rename_i hw
          rw [if_pos hw] at hh
          rcases hh with hh | hh
          · exact rwp n l (fun c => hd i o c ho) (fun a w => rwpAny n l hd hL fuel _ a w) hh
          · exact (hL hh.2).elim
        · rename_i hw
          rw [if_neg hw] at hh
          exact ⟨fun _ _ => trivial, rwpAny n l hd hL fuel _ _ _ hh⟩⟩
def calmB (l : List Oper) : Bool := l.all fun o => match o.op with | .defer _ => false | _ => true
theorem round_sch {id : Nat} {Q : Exit → Act → World → Prop} {l : List Oper} {a : Act} {w : World} {m r : Nat} (S : World → Prop) (M : List (Bool × Nat)) (T : List Nat) (hm : P.follows .mixedOrders = true) (hB : rgnB l M T = true)
    (hd : calmB l = true) (hL : ¬ LetsOut Q) (hQ : ∀ c a d v w, Q (.panic c) (a.put d v) w → Q (.panic c) a w) (hS : S w.drew)
    (h : wpM P l.toArray S Q (wpList P l.toArray Q (pickT l T)) (pickM l M) a w.drew) : (Code.region id l.toArray true).wpIn (Fence.wide.inRound r) m P Q a w := by
  refine wpIn_region_any hm (rwpAny m r ?_ hL _ _ _ _ (wpAny_sch S M T hB hL hQ hS h))
  intro i o c hi hc
  unfold calmB at hd
  rw [List.all_eq_true] at hd
  have := hd o (by
    have h1 : l[i]? = some o := by simpa using hi
    exact List.mem_of_getElem? h1)
  rw [hc] at this
  cases this
end
end Go.Proofs.YtocncjimepnlcaaGreatDoor
