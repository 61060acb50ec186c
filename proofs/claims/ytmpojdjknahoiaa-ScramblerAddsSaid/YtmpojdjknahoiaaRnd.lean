/- A region that draws its order, met in a round of a range over a function: walked by the unfenced rule (reads first, one writer last). -/
import Derived.Test.YtmpojdjknahoiaaInf
import Derived.StillTailTactics
import Derived.OrdersIn
namespace Go.Proofs.Ytmpojdjknahoiaa
open Go Go.RowKit
variable {P : Program}
theorem calls_round {n l : Nat} {f : FuncId} {args : Array Value} {w : World} {R : Ending → World → Prop} (h : Calls P f args w R) : CallsIn (Fence.wide.inRound l) n P f args w R :=
  CallsIn.inRound l (callsIn_wide.2 h)
theorem wp_round {o : Oper} {a : Act} {w : World} {K K' : Act → World → Prop} {Q : Exit → Act → World → Prop} (n l : Nat) (hd : ∀ c, o.op ≠ .defer c) (hK : ∀ a w, K a w → K' a w) (h : o.wp P a w K Q) :
    o.wpIn (Fence.wide.inRound l) n P a w K' Q := by
  refine ⟨fun _ _ => trivial, ?_⟩
  rw [Oper.semAt_eq _ _ _ hd]
  unfold Oper.wp at h
  generalize (execOp a.eval o).run P w = r at *
  cases r with
  | ok x w' =>
    cases x <;> simp only [Oper.upon] at h <;> simp only [Oper.uponIn]
    case value v => exact hK _ _ h
    case skip => exact hK _ _ h
    case defer d => exact hK _ _ h
    case enter f args =>
      refine ⟨fun hh => by simp [Fence.wide, Fence.inRound] at hh, calls_round (h.mono ?_)⟩
      intro e w2 he
      cases e with
      | returned v => exact hK _ _ he
      | panicked ch => exact he
      | outgrown => exact he
    case row r args =>
      refine ⟨fun hh => by simp [Fence.wide, Fence.inRound] at hh, fun c cs _ => ?_⟩
      obtain ⟨v, w2, hr, hs⟩ := h c cs
      refine ⟨v, w2, hK _ _ hr, ?_⟩
      exact stepsIn_wide.2 hs
  | halt x w' =>
    cases x <;> simp only [Oper.upon] at h <;> simp only [Oper.uponIn]
    case panic v => exact h
theorem wpAny_round {md : Region.Mode} {ops : Array Oper} {Q : Exit → Act → World → Prop} (n l : Nat) (hd : ∀ (i : Nat) (o : Oper) (c : Call), ops[i]? = some o → o.op ≠ Op.defer c) (hL : ¬ LetsOut Q) :
    ∀ (fuel : Nat) (listed : Array Bool) (a : Act) (w : World), wpAny P md ops Q fuel listed a w → wpAnyIn (Fence.wide.inRound l) n P md ops Q fuel listed a w
  | 0, _, _, _, h => h
  | fuel + 1, listed, a, w, h => ⟨h.1, fun i hi => by
      have hh := h.2 i hi
      unfold wpOp at hh
      unfold wpOpIn
      cases ho : ops[i]? with
      | none => simp only [ho] at hh ⊢; exact wpAny_round n l hd hL fuel _ _ _ hh
      | some o =>
        simp only [ho] at hh ⊢
        split
        · rename_i hw
          rw [if_pos hw] at hh
          rcases hh with hh | hh
          · exact wp_round n l (fun c => hd i o c ho) (fun a w => wpAny_round n l hd hL fuel _ a w) hh
          · exact (hL hh.2).elim
        · rename_i hw
          rw [if_neg hw] at hh
          exact ⟨fun _ _ => trivial, wpAny_round n l hd hL fuel _ _ _ hh⟩⟩
theorem wpAny_still_tail {Q : Exit → Act → World → Prop} {a : Act} {w : World} {l : List Oper} (n : Nat) (hB : Region.lexTailB .any l.toArray n = true)
    (h : wpStill P l.toArray w (fun a' => wpList P l.toArray Q (l.drop n) a' w) (l.take n) a) : wpAny P .any l.toArray Q l.toArray.size (Array.replicate l.toArray.size false) a w := by
  simp only [Region.lexTailB, Bool.and_eq_true, decide_eq_true_eq] at hB
  obtain ⟨⟨⟨⟨hsel, hn⟩, hs⟩, hc⟩, hlex⟩ := hB
  have hn' : n < l.length := by simpa using hn
  have htl : (l.take n).length = n := by simp; omega
  have hdl : (l.drop n).length = l.toArray.size - n := by simp
  have inv0 : HeadInv .any l.toArray n (Array.replicate l.toArray.size false) :=
    ⟨by simp, fun j oj _ hl => (by rw [getD_replicate_false] at hl; cases hl), fun t _ ht => getD_in (by simpa using ht) (getD_replicate_false _ _)⟩
  have H := wpAnyL_lex (md := .any) (g := l.toArray.size - n) hsel hs hc hn (l.take n) 0 _ a (fun j hj => by
    have hj' : j < n := by rw [htl] at hj; exact hj
    simp [hj']) (by simpa using htl) inv0 (by rw [htl]; exact hlex) h
  have hh := wpAny_of_head (Q' := Q) (g := l.toArray.size - n) (fun listed a' hL => by
    have := wpAny_of_seq (md := .any) (Q' := Q) (l.drop n) n listed a' w (fun j => by simp [List.getElem?_drop]) (by rw [hdl]; exact hL.1) hL.2
    rwa [hdl] at this) _ _ _ H
  rwa [htl, show n + (l.toArray.size - n) = l.toArray.size by omega] at hh
def noDeferB (l : List Oper) : Bool := l.all fun o => match o.op with | .defer _ => false | _ => true
theorem round_still_tail {id : Nat} {Q : Exit → Act → World → Prop} {a : Act} {w : World} {l : List Oper} {m r : Nat} (n : Nat) (hm : P.follows .mixedOrders = true) (hB : Region.lexTailB .any l.toArray n = true)
    (hd : noDeferB l = true) (hL : ¬ LetsOut Q)
    (h : wpStill P l.toArray w.drew (fun a' => wpList P l.toArray Q (l.drop n) a' w.drew) (l.take n) a) : (Code.region id l.toArray true).wpIn (Fence.wide.inRound r) m P Q a w := by
  refine wpIn_region_any hm (wpAny_round m r ?_ hL _ _ _ _ (wpAny_still_tail n hB h))
  intro i o c hi hc
  unfold noDeferB at hd
  rw [List.all_eq_true] at hd
  have := hd o (by
    have h1 : l[i]? = some o := by simpa using hi
    exact List.mem_of_getElem? h1)
  rw [hc] at this
  cases this
end Go.Proofs.Ytmpojdjknahoiaa
