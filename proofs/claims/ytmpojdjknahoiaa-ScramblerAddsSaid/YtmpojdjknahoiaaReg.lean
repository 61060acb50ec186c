/- What Register of package scrambler returns: the state of the register after some steps. -/
import Derived.Test.YtmpojdjknahoiaaIt
import Derived.RangeFuncBox
namespace Go.Proofs.Ytmpojdjknahoiaa
open Go Go.RowKit Go.Shelf
attribute [local go_sem] Oper.semAt_some
set_option maxHeartbeats 400000 in
theorem registers_in (F : Fence) (n : Nat) (h23 : F.fn 23) (hro : F.round = none) (w : World) :
    CallsIn F n Try.prog 23 #[] w fun e w' => e = .returned (.func (.func 25) #[] #[]) ∧ w = w' := by
  refine callsIn_of_wp Try.func23 rfl h23 ?_ hro
  simp only [Try.ntmps23, List.size_toArray, List.length_nil, Nat.reduceSub, Array.replicate_succ, Array.replicate_zero, List.push_toArray, List.append_toArray, List.nil_append]
  gi_wp2
  go_ret
  exact ⟨rfl, rfl⟩
def RegI (w : World) (n : Nat) (k : Nat) (W : World) : Prop :=
  k ≤ n ∧ Boxed W w.heap.size 3 (.int .i64 ((n - k : Nat) : Int)) ∧ Boxed W (w.heap.size + 1) 3 (.int .i64 0) ∧ Boxed W (w.heap.size + 1 + 1) 23 (.int .i64 0) ∧ Below w.heap.size w W
def RegX (w : World) (n : Nat) (c : Code) (_k : Nat) (W : World) : Prop :=
  c = .ret ∧ Boxed W (w.heap.size + 1) 3 (.int .i64 (reg n)) ∧ Boxed W (w.heap.size + 1 + 1) 23 (.int .i64 0) ∧ Below w.heap.size w W
theorem RegI.own (w : World) (n B : Nat) (hB : w.heap.size ≤ B) : OwnFrom B (RegI w n) :=
  OwnFrom.and (ownFrom_pure B (fun k => k ≤ n)) (OwnFrom.and (Own.from (boxed_own _ _ (fun k => .int .i64 ((n - k : Nat) : Int))) _) (OwnFrom.and (Own.from (boxed_own _ _ (fun _ => .int .i64 0)) _)
    (OwnFrom.and (Own.from (boxed_own _ _ (fun _ => .int .i64 0)) _) (ownFrom_below (Nat.le_refl _) hB))))
theorem RegX.own (w : World) (n B : Nat) (hB : w.heap.size ≤ B) (c : Code) : OwnFrom B (RegX w n c) :=
  OwnFrom.and (ownFrom_pure B (fun _ => c = .ret)) (OwnFrom.and (Own.from (boxed_own _ _ (fun _ => .int .i64 (reg n))) _)
    (OwnFrom.and (Own.from (boxed_own _ _ (fun _ => .int .i64 0)) _) (ownFrom_below (Nat.le_refl _) hB)))
set_option maxHeartbeats 400000 in
theorem register_ok (n : Nat) (w : World) (h : (n : Int) ≤ 1048576) :
    CallsIn Fence.wide 3 Try.prog 13 #[.int .i64 n] w fun e w' => e = .returned (.tuple #[.int .i64 (reg n), .int .i64 0]) ∧ Below w.heap.size w w' := by
  refine callsIn_of_wp_marks Try.func13 rfl trivial ?_ rfl
  simp only [Try.ntmps13, List.size_toArray, List.length_cons, List.length_nil, Nat.reduceAdd, Nat.reduceSub, Array.replicate_succ, Array.replicate_zero, List.push_toArray, List.append_toArray, List.nil_append, List.cons_append]
  gi_wp2_with (refine ⟨trivial, ?_⟩; gi_at_call 23; refine (registers_in Fence.wide _ trivial rfl _).mono ?_; rintro e w' ⟨rfl, rfl⟩)
  refine wpIn_rangeFunc_inf rfl (by decide) (gf := 25) (lb := #[]) rfl trivial (enters_of Try.func25 (by kernel_rfl) rfl) (regs_inf Fence.wide 2 trivial rfl (by decide) n) (fun _ => rfl)
    (RegI w n) (RegX w n) (fun k W hi => hi.1) (RegI.own w n _ (by simp; omega)) (fun c => RegX.own w n _ (by simp; omega) c)
    ⟨Nat.zero_le _, ((Boxed.new _ _ _).alloc _).alloc _, by simpa using (Boxed.new (w.alloc (.cells #[.int .i64 n] 3)) 3 (.int .i64 0)).alloc (.cells #[.int .i64 0] 23), by simpa using Boxed.new ((w.alloc (.cells #[.int .i64 n] 3)).alloc (.cells #[.int .i64 0] 3)) 23 (.int .i64 0), (((Below.refl _ w).alloc (Nat.le_refl _) _).alloc (by simp) _).alloc (by simp; omega) _⟩
    ?a1 ?assign ?body ?stop
  case assign =>
    intro l k W K hK
    gi_wp2
    exact hK
  case body =>
    rintro l k W ⟨hk, b0, b1, b2, hB⟩
    have c0 := b0.cell
    have f0 := b0.frozen
    have c1 := b1.cell
    have f1 := b1.frozen
    have c2 := b2.cell
    have f2 := b2.frozen
    have ecast : ((n - k : Nat) : Int) = n - k := by omega
    rw [ecast] at c0
    by_cases hlt : k < n
    · gi_wp2
      have e : ((n - (k + 1) : Nat) : Int) = ↑n - ↑k - 1 := by omega
      exact ⟨KeepsOthers.setCell _ _ _, by omega, by rw [e]; exact b0.set _, b1.other (by omega) _, b2.other (by omega) _, hB.setCell (p := ⟨w.heap.size, 0, none⟩) (Nat.le_refl _) _⟩
    · obtain rfl : k = n := by omega
      gi_wp2
      exact ⟨(KeepsOthers.setCell _ _ _).trans (KeepsOthers.setCell _ _ _), rfl, (b1.set _).other (by omega) _, (b2.other (by omega) _).set _, (hB.setCell (p := ⟨w.heap.size + 1, 0, none⟩) (by simp) _).setCell (p := ⟨w.heap.size + 1 + 1, 0, none⟩) (by simp; omega) _⟩
  case stop =>
    rintro D c k W hD ⟨rfl, b1, b2, hB⟩ hK
    have c1 := b1.cell
    have c2 := b2.cell
    gi_wp2
    refine ⟨by simp, .inl ⟨_, _, rfl, run_takeDeferred hK, ?_⟩⟩
    have hr : ∀ r, some D = some r → ∃ o : Obj, W.heap[r]? = some o ∧ o.isCells = false := fun r e => by cases e; exact ⟨_, hK, rfl⟩
    have d1 := cell_kept c1 (grownBy_putObj' W D (.deferred none)) hr
    have d2 := cell_kept c2 (grownBy_putObj' W D (.deferred none)) hr
    simp at hD
    refine ⟨.tuple #[.int .i64 (reg n), .int .i64 0], by simp [results, Try.results13, go_sem, d1, d2], rfl, hB.trans (belowK_b (w := w) (Nat.le_refl _) W D _ _ (by omega) hK rfl rfl)⟩
end Go.Proofs.Ytmpojdjknahoiaa
