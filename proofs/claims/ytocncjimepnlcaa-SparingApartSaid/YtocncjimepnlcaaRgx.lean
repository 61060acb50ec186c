/- A region that draws its order, where two loud operations may come in either order. -/
import Derived.Test.YtocncjimepnlcaaRgn
namespace Go.Proofs.Ytocncjimepnlcaa
set_option linter.unusedSimpArgs false
set_option linter.unusedVariables false
open Go Go.RowKit
section
variable {P : Program} {md : Region.Mode} {ops : Array Oper} {S : World → Prop} {fl nS : Nat → Bool} {Q : Exit → Act → World → Prop}
def wpPre (P : Program) (ops : Array Oper) (S : World → Prop) (fl nS : Nat → Bool) (Q : Exit → Act → World → Prop) (K : Act → World → Prop) : List Nat → Act → World → Prop
  | [], a, w => K a w
  | i :: rest, a, w => stepX P ops S fl nS Q i (wpPre P ops S fl nS Q K rest) a w
def preB (md : Region.Mode) (ops : Array Oper) (fl : Nat → Bool) : List Nat → Array Bool → Bool
  | [], _ => true
  | i :: rest, listed => (if fl i = true then (Region.ready md ops listed).contains i && Region.free md ops listed i else decide (Region.ready md ops listed = [i])) && preB md ops fl rest (listed.setIfInBounds i true)
def listedBy : List Nat → Array Bool → Array Bool
  | [], l => l
  | i :: r, l => listedBy r (l.setIfInBounds i true)
theorem wpX_pre (hsel : Region.noSelect ops = true) (hQ : ∀ c a d v w, Q (.panic c) (a.put d v) w → Q (.panic c) a w) (n : Nat) :
    ∀ (L : List Nat) (listed : Array Bool) (a : Act) (w : World), preB md ops fl L listed = true → wpPre P ops S fl nS Q (wpX P md ops S fl nS Q n (listedBy L listed)) L a w → wpX P md ops S fl nS Q (n + L.length) listed a w
  | [], listed, a, w, hB, h => h
  | i :: rest, listed, a, w, hB, h => by
    simp only [preB, Bool.and_eq_true] at hB
    obtain ⟨h1, h2⟩ := hB
    by_cases hf : fl i = true
    · rw [if_pos hf] at h1
      simp only [Bool.and_eq_true] at h1
      unfold wpPre stepX at h
      cases ho : ops[i]? with
      | none => simp only [ho] at h
      | some o =>
        simp only [ho] at h
        rw [if_pos hf] at h
        obtain ⟨v, hy, hk⟩ := h
        exact wpX_first ho hf (Region.noSelect_spec hsel) hQ (n + rest.length) listed a w (Region.free_spec ho h1.2) (by simpa using h1.1) hy (wpX_pre hsel hQ n rest _ _ _ h2 hk)
    · rw [if_neg hf] at h1
      have hr : Region.ready md ops listed = [i] := of_decide_eq_true h1
      refine ⟨fun h0 => (by rw [hr] at h0; cases h0), fun j hj => ?_⟩
      rw [hr] at hj
      obtain rfl : j = i := by simpa using hj
      exact stepX_mono (fun a' w' hk => wpX_pre hsel hQ n rest _ a' w' h2 hk) h
theorem pre_of_M {l : List Oper} {K K' : Act → World → Prop} (hK : ∀ a w, K a w → K' a w) :
    ∀ (M : List (Bool × Nat)) (a : Act) (w : World), (∀ x ∈ M, fl x.2 = x.1 ∧ x.2 < l.length) → wpM P l.toArray S Q K (pickM l M) a w → wpPre P l.toArray S fl nS Q K' (M.map (·.2)) a w
  | [], a, w, _, h => hK a w h
  | (b, i) :: M, a, w, hf, h => by
    obtain ⟨hfi, hlt⟩ := hf (b, i) (List.mem_cons_self ..)
    have hf' : ∀ x ∈ M, fl x.2 = x.1 ∧ x.2 < l.length := fun x hx => hf x (List.mem_cons_of_mem _ hx)
    have ho : l[i]? = some l[i] := List.getElem?_eq_getElem hlt
    have hp : pickM l ((b, i) :: M) = (b, l[i]) :: pickM l M := by simp [pickM, ho]
    rw [hp] at h
    have ho' : l.toArray[i]? = some l[i] := by simp [hlt]
    show wpPre P l.toArray S fl nS Q K' (i :: M.map (·.2)) a w
    unfold wpPre stepX
    simp only [ho']
    simp only at hfi
    cases b with
    | true =>
      obtain ⟨v, hy, hk⟩ := h
      rw [if_pos hfi]
      exact ⟨v, hy, pre_of_M hK M _ _ hf' hk⟩
    | false =>
      unfold wpM at h
      rw [if_neg (by rw [hfi]; simp)]
      by_cases hw : Region.wanted l[i] (yielded l.toArray a.tmps) = true
      · rw [if_pos hw] at h ⊢
        exact Oper.wp_mono (fun a' w' hk => ⟨fun _ => hk.1, pre_of_M hK M a' w' hf' hk.2⟩) h
      · rw [if_neg hw] at h ⊢
        exact pre_of_M hK M _ _ hf' h
/-- Every check: M0 the prefix; then MA or MB; then T. -/
def rgtB (l : List Oper) (M0 MA MB : List (Bool × Nat)) (iA iB : Nat) (T : List Nat) : Bool :=
  let F := flM (M0 ++ (false, iA) :: MA)
  let N := nsM (M0 ++ (false, iA) :: MA)
  let L0 := listedBy (M0.map (·.2)) (Array.replicate l.toArray.size false)
  Region.noSelect l.toArray && safeB .any l.toArray F N && preB .any l.toArray F (M0.map (·.2)) (Array.replicate l.toArray.size false) && decide (Region.ready .any l.toArray L0 = [iA, iB]) &&
  schedB .any l.toArray F (MA.map (·.2) ++ T) (L0.setIfInBounds iA true) && schedB .any l.toArray F (MB.map (·.2) ++ T) (L0.setIfInBounds iB true) &&
  decide (MA.length + T.length + 1 + M0.length = l.length) && decide (MB.length = MA.length) && (M0.all fun x => F x.2 == x.1 && decide (x.2 < l.length)) && (((false, iA) :: MA).all fun x => F x.2 == x.1 && decide (x.2 < l.length)) &&
  (((false, iB) :: MB).all fun x => F x.2 == x.1 && decide (x.2 < l.length)) && T.all fun i => !F i && !N i && decide (i < l.length)
theorem region_two {id : Nat} {l : List Oper} {a : Act} {w : World} (S : World → Prop) (M0 MA MB : List (Bool × Nat)) (iA iB : Nat) (T : List Nat) (hm : P.follows .mixedOrders = true) (hB : rgtB l M0 MA MB iA iB T = true)
    (hL : ¬ LetsOut Q) (hQ : ∀ c a d v w, Q (.panic c) (a.put d v) w → Q (.panic c) a w) (hS : S w.drew)
    (h : wpM P l.toArray S Q (fun a w => wpM P l.toArray S Q (wpList P l.toArray Q (pickT l T)) (pickM l ((false, iA) :: MA)) a w ∧ wpM P l.toArray S Q (wpList P l.toArray Q (pickT l T)) (pickM l ((false, iB) :: MB)) a w) (pickM l M0) a w.drew) :
    (Code.region id l.toArray true).wp P Q a w := by
  refine wp_region_any hm ?_
  unfold rgtB at hB
  simp only [Bool.and_eq_true, List.all_eq_true, decide_eq_true_eq, Bool.not_eq_true', beq_iff_eq] at hB
  obtain ⟨⟨⟨⟨⟨⟨⟨⟨⟨⟨⟨h1, h2⟩, h3⟩, h4⟩, h5⟩, h6⟩, h7⟩, h8⟩, h9⟩, h10⟩, h11⟩, h12⟩ := hB
  have tl := fun a w hk => sch_tail (P := P) (S := S) hL T a w (fun i hi => ⟨(h12 i hi).1.1, (h12 i hi).1.2, (h12 i hi).2⟩) hk
  have hpre := pre_of_M (S := S) (P := P) (Q := Q) (fl := flM (M0 ++ (false, iA) :: MA)) (nS := nsM (M0 ++ (false, iA) :: MA)) (K' := wpX P .any l.toArray S (flM (M0 ++ (false, iA) :: MA)) (nsM (M0 ++ (false, iA) :: MA)) Q (MA.length + T.length + 1) (listedBy (M0.map (·.2)) (Array.replicate l.toArray.size false))) (fun a w hk => by
    obtain ⟨hA, hBb⟩ := hk
    have sA := sch_of_M tl ((false, iA) :: MA) a w (fun x hx => h10 x hx) hA
    have sB := sch_of_M tl ((false, iB) :: MB) a w (fun x hx => h11 x hx) hBb
    refine ⟨fun h0 => (by rw [h4] at h0; cases h0), fun j hj => ?_⟩
    rw [h4] at hj
    simp only [List.mem_cons, List.not_mem_nil, or_false] at hj
    rcases hj with rfl | rfl
    · refine stepX_mono (fun a' w' hk => ?_) sA
      have := wpX_of_sch h1 hQ _ _ a' w' h5 hk
      rwa [show (MA.map (·.2) ++ T).length = MA.length + T.length by simp] at this
    · refine stepX_mono (fun a' w' hk => ?_) sB
      have := wpX_of_sch h1 hQ _ _ a' w' h6 hk
      rwa [show (MB.map (·.2) ++ T).length = MA.length + T.length by simp [h8]] at this) M0 a w.drew (fun x hx => h9 x hx) h
  have hx := wpX_pre h1 hQ _ (M0.map (·.2)) _ a w.drew h3 hpre
  rw [show MA.length + T.length + 1 + (M0.map (·.2)).length = l.toArray.size by simp [h7]] at hx
  exact wpAny_of_X h2 _ _ _ _ (down_start _) (by simp) (fun _ => hS) hx
end
end Go.Proofs.Ytocncjimepnlcaa
