/- What sequence of package scrambler returns: a new slice with the first bytes of the scrambling sequence. -/
import Derived.Test.YtmpojdjknahoiaaReg
import Derived.Test.YtmpojdjknahoiaaRnd
namespace Go.Proofs.Ytmpojdjknahoiaa
open Go Go.RowKit Go.Shelf
attribute [local go_sem] Oper.semAt_some
theorem make_bytes {P : Program} {t e : TypeId} (ht : P.underlying t = some (.slice e)) (hinfo : (P.info? e).map (fun i => (i.zero, i.size, i.bytes)) = some (some (.int .u8 0), 1, 1)) (n : Nat) (hn : n ≤ 140737488355328) (w : World) :
    (Instr.makeSlice t (.int .i64 n) (.int .i64 n)).run P w = .ok (.slice (some ⟨w.heap.size, 0, none⟩) n n) (w.alloc (.cells (Array.replicate n (.int .u8 0)) e)) := by
  obtain ⟨i0, hi, hz0, hz1, hz2⟩ := info_parts hinfo
  rw [run_make (P := P) w t e i0 _ ht hi hz0 .i64 .i64 n n (by omega) (by omega) (by rw [hz2]; omega) (by omega), hz1]
  have : madeCells (Value.int IntKind.u8 0).cells ((n : Int).toNat * 1) = Array.replicate n (Value.int IntKind.u8 0) := by
    apply Array.toList_inj.1
    rw [show (Value.int IntKind.u8 0).cells = #[Value.int IntKind.u8 0] from rfl, toList_madeCells_one]
    simp
  rw [this]
  rfl
theorem bit_shw (b r : Nat) (hb : b < 2) (hr : r < 8) : IntKind.u8.wrap ((b : Int) * 2 ^ min r 8) = ((b * 2 ^ r : Nat) : Int) := by
  have h1 : min r 8 = r := by omega
  have h2 : b * 2 ^ r < 256 := Nat.lt_of_le_of_lt (Nat.mul_le_mul (show b ≤ 1 by omega) (Nat.pow_le_pow_right (by decide) (show r ≤ 7 by omega))) (by decide)
  have h3 : ((b : Int) * 2 ^ r) = ((b * 2 ^ r : Nat) : Int) := by simp
  rw [h1, IntKind.wrap_u8, h3]
  omega
theorem bit_or (A b r : Nat) (hA : A < 2 ^ r) (hb : b < 2) (hr : r < 8) : bits .or .u8 (A : Int) ((b * 2 ^ r : Nat) : Int) = ((A + b * 2 ^ r : Nat) : Int) := by
  have h2 : b * 2 ^ r < 256 := Nat.lt_of_le_of_lt (Nat.mul_le_mul (show b ≤ 1 by omega) (Nat.pow_le_pow_right (by decide) (show r ≤ 7 by omega))) (by decide)
  have h3 : 2 ^ r ≤ 128 := Nat.pow_le_pow_right (n := 2) (by decide) (show r ≤ 7 by omega)
  rw [u8_or_nat A _ (by omega) h2, Nat.or_comm, nat_join r _ _ (Nat.mul_mod_left _ _) hA, Nat.add_comm]
theorem heap_alloc_get (w : World) (o : Obj) (k : Nat) : (w.alloc o).heap[k]? = if k = w.heap.size then some o else w.heap[k]? := by
  show (w.heap.push o)[k]? = _
  rw [Array.getElem?_push]
theorem row_set {W : World} {B : Nat} {cur : Array Value} {t : TypeId} {m : Nat × Nat} (i : Nat) (v : Value) (h : W.heap[B]? = some (.cells cur t m)) :
    (W.setCell ⟨B, i, none⟩ v).heap[B]? = some (.cells (cur.setIfInBounds i v) t m) := by
  obtain ⟨hlt, hk⟩ := Array.getElem?_eq_some_iff.1 h
  show (W.heap.modify B _)[B]? = _
  rw [Array.getElem?_eq_getElem (by rw [Array.size_modify]; exact hlt), Array.getElem_modify_self, hk]
  rfl
theorem keeps_drew (W : World) : KeepsOthers W W.drew := ⟨Nat.le_refl _, fun _ _ h _ => h⟩
theorem row_other {W : World} {B B' : Nat} {o : Obj} (i : Nat) (v : Value) (h : W.heap[B]? = some o) (hne : B ≠ B') : (W.setCell ⟨B', i, none⟩ v).heap[B]? = some o :=
  (Below.heap_setCell W _ v B hne).trans h
/-- the bytes after k bits -/
def part (n k : Nat) : List Nat := (List.range n).map fun i => byteAcc (8 * i) (min (k - 8 * i) 8)
def partC (n k : Nat) : Array Value := ((part n k).map fun (b : Nat) => Value.int .u8 (b : Int)).toArray
theorem part_length (n k : Nat) : (part n k).length = n := by simp [part]
theorem partC_size (n k : Nat) : (partC n k).size = n := by simp [partC, part_length]
theorem part_get (n k : Nat) (i : Nat) (h : i < n) : (part n k)[i]? = some (byteAcc (8 * i) (min (k - 8 * i) 8)) := by simp [part, h]
theorem partC_get (n k : Nat) (i : Nat) (h : i < n) : (partC n k)[i]? = some (.int .u8 (byteAcc (8 * i) (min (k - 8 * i) 8) : Nat)) := by
  simp [partC, part_get n k i h]
theorem part_zero (n : Nat) : partC n 0 = Array.replicate n (.int .u8 0) := by
  apply Array.ext_getElem?
  intro i
  by_cases h : i < n
  · rw [partC_get n 0 i h]; simp [h, byteAcc]
  · rw [Array.getElem?_eq_none (by rw [partC_size]; omega), Array.getElem?_eq_none (by simp; omega)]
theorem part_full (n : Nat) : (partC n (8 * n)).toList = cb (seqL n) := by
  apply List.ext_getElem?
  intro i
  by_cases h : i < n
  · have := partC_get n (8 * n) i h
    rw [← Array.getElem?_toList] at this
    rw [this]
    have e : min (8 * n - 8 * i) 8 = 8 := by omega
    simp [cb, seqL, h, seqB, e]
    have := byteAcc_lt (8 * i) 8
    omega
  · rw [List.getElem?_eq_none (by rw [Array.length_toList, partC_size]; omega), List.getElem?_eq_none (by rw [cb_length]; simp [seqL]; omega)]
theorem part_succ (n k : Nat) : partC n (k + 1) = (partC n k).setIfInBounds (k / 8) (.int .u8 ((byteAcc (8 * (k / 8)) (k % 8) + reg k % 2 * 2 ^ (k % 8) : Nat) : Int)) := by
  apply Array.ext_getElem?
  intro i
  by_cases hi : i < n
  · rw [partC_get n (k + 1) i hi, Array.getElem?_setIfInBounds]
    by_cases e : k / 8 = i
    · rw [if_pos e, if_pos (by rw [partC_size]; omega)]
      have e1 : min (k + 1 - 8 * i) 8 = k % 8 + 1 := by omega
      have e2 : 8 * i + k % 8 = k := by omega
      rw [e1, e, byteAcc, e2]
    · rw [if_neg e, partC_get n k i hi]
      have e1 : min (k + 1 - 8 * i) 8 = min (k - 8 * i) 8 := by omega
      rw [e1]
  · rw [Array.getElem?_eq_none (by rw [partC_size]; omega), Array.getElem?_eq_none (by rw [Array.size_setIfInBounds, partC_size]; omega)]

def SqI (w : World) (n : Nat) (k : Nat) (W : World) : Prop :=
  k ≤ 8 * n ∧ Boxed W w.heap.size 3 (.int .i64 n) ∧ W.heap[w.heap.size + 1]? = some (.cells (partC n k) 5 (0, 0)) ∧ Boxed W (w.heap.size + 1 + 1) 40 (.slice (some ⟨w.heap.size + 1, 0, none⟩) n n) ∧ Boxed W (w.heap.size + 1 + 1 + 1) 3 (.int .i64 k) ∧ Below w.heap.size w W
def SqX (w : World) (n : Nat) (c : Code) (_k : Nat) (W : World) : Prop :=
  c = .exit 0 ∧ W.heap[w.heap.size + 1]? = some (.cells (partC n (8 * n)) 5 (0, 0)) ∧ Boxed W (w.heap.size + 1 + 1) 40 (.slice (some ⟨w.heap.size + 1, 0, none⟩) n n) ∧ Below w.heap.size w W
theorem row_own {β : Type} (b : Nat) (f : β → Array Value) (t : TypeId) : Own (fun s W => W.heap[b]? = some (.cells (f s) t (0, 0))) := by
  intro s X Y row h hg hrow
  refine (hg.block b (Array.getElem?_eq_some_iff.1 h).1 (fun e => ?_)).trans h
  obtain ⟨o, ho, hc⟩ := hrow b e.symm
  rw [h] at ho
  cases ho
  cases hc
theorem SqI.own (w : World) (n B : Nat) (hB : w.heap.size ≤ B) : OwnFrom B (SqI w n) :=
  OwnFrom.and (ownFrom_pure B (fun k => k ≤ 8 * n)) (OwnFrom.and (Own.from (boxed_own _ _ (fun _ => .int .i64 n)) _) (OwnFrom.and (Own.from (row_own _ (fun k => partC n k) 5) _)
    (OwnFrom.and (Own.from (boxed_own _ _ (fun _ => .slice (some ⟨w.heap.size + 1, 0, none⟩) n n)) _) (OwnFrom.and (Own.from (boxed_own _ _ (fun (k : Nat) => .int .i64 k)) _) (ownFrom_below (Nat.le_refl _) hB)))))
theorem SqX.own (w : World) (n B : Nat) (hB : w.heap.size ≤ B) (c : Code) : OwnFrom B (SqX w n c) :=
  OwnFrom.and (ownFrom_pure B (fun _ => c = .exit 0)) (OwnFrom.and (Own.from (row_own _ (fun _ => partC n (8 * n)) 5) _)
    (OwnFrom.and (Own.from (boxed_own _ _ (fun _ => .slice (some ⟨w.heap.size + 1, 0, none⟩) n n)) _) (ownFrom_below (Nat.le_refl _) hB)))
theorem Try.info5 : (Try.prog.info? 5).map (fun i => (i.zero, i.size, i.bytes)) = some (some (.int .u8 0), 1, 1) := by kernel_rfl
set_option maxHeartbeats 400000 in
theorem sequence_in (n : Nat) (w : World) (h : (n : Int) ≤ 65536) :
    CallsIn Fence.wide 3 Try.prog 21 #[.int .i64 n] w fun e w' => e = .returned (.slice (some ⟨w.heap.size + 1, 0, none⟩) n n) ∧ w'.heap[w.heap.size + 1]? = some (.cells (cb (seqL n)).toArray 5 (0, 0)) ∧ Below w.heap.size w w' := by
  have hmk := fun W : World => make_bytes Try.underlying40 Try.info5 n (by omega) W
  refine callsIn_of_wp_marks Try.func21 rfl trivial ?_ rfl
  simp only [Try.ntmps21, List.size_toArray, List.length_cons, List.length_nil, Nat.reduceAdd, Nat.reduceSub, Array.replicate_succ, Array.replicate_zero, List.push_toArray, List.append_toArray, List.nil_append, List.cons_append]
  gi_wp2_with (refine ⟨trivial, ?_⟩; gi_at_call 23; refine (registers_in Fence.wide _ trivial rfl _).mono ?_; rintro e w' ⟨rfl, rfl⟩)
  refine wpIn_rangeFunc_inf rfl (by decide) (gf := 25) (lb := #[]) rfl trivial (enters_of Try.func25 (by kernel_rfl) rfl) (regs_inf Fence.wide 2 trivial rfl (by decide) (8 * n)) (fun _ => rfl)
    (SqI w n) (SqX w n) (fun k W hi => hi.1) (SqI.own w n _ (by simp; omega)) (fun c => SqX.own w n _ (by simp; omega) c)
    ⟨Nat.zero_le _, ?_, ?_, ?_, ?_, ?_⟩
    ?a1 ?assign ?body ?stop
  case assign =>
    intro l k W K hK
    gi_wp2
    exact hK
  case body =>
    rintro l k W ⟨hk, b0, hrow, b2, b3, hB⟩
    have c0 := b0.cell
    have c2 := b2.cell
    have c3 := b3.cell
    have f3 := b3.frozen
    by_cases hlt : k < 8 * n
    · have hq : k / 8 < n := by omega
      have hcell : W.cell? ⟨w.heap.size + 1, k / 8, none⟩ = some (.int .u8 ((byteAcc (8 * (k / 8)) (k % 8) : Nat) : Int)) := by
        rw [cell_of_row W _ _ _ _ _ hrow, partC_get n k _ hq, show min (k - 8 * (k / 8)) 8 = k % 8 by omega]
      have hfz : W.frozen? ⟨w.heap.size + 1, k / 8, none⟩ = false := by simp [World.frozen?, hrow]
      have hq0 : 0 ≤ (k : Int) / 8 := by omega
      have hq1 : (k : Int) / 8 < (n : Int) := by omega
      have hq2 : ((k : Int) / 8).toNat = k / 8 := by omega
      have hw1 : IntKind.i64.wrap ((k : Int) / 8) = (k : Int) / 8 := by rw [IntKind.wrap_i64]; omega
      have hand : bits BinOp.and IntKind.i64 ((reg k : Nat) : Int) 1 = ((reg k % 2 : Nat) : Int) := by
        rw [show (1 : Int) = ((1 : Nat) : Int) from rfl, i64_and (Nat.lt_trans (reg_lt k) (by decide)) (by decide), nat_mask1]
      have hb2 : reg k % 2 < 2 := Nat.mod_lt _ (by decide)
      have hr8 : k % 8 < 8 := Nat.mod_lt _ (by decide)
      have hacc := byteAcc_lt (8 * (k / 8)) (k % 8)
      have hsh := bit_shw (reg k % 2) (k % 8) hb2 hr8
      have hor := bit_or _ _ _ hacc hb2 hr8
      have htm : (k : Int).tmod 8 = ((k % 8 : Nat) : Int) := by rw [Int.tmod_eq_emod_of_nonneg (by omega)]; omega
      have hps := part_succ n k
      have hwb : IntKind.u8.wrap ((reg k % 2 : Nat) : Int) = ((reg k % 2 : Nat) : Int) := by rw [IntKind.wrap_u8]; omega
      generalize reg k % 2 * 2 ^ (k % 8) = c at hsh hor hps
      generalize hbe : reg k % 2 = b at hand hsh hwb
      generalize hre : k % 8 = r at htm hsh hor hps hcell
      generalize byteAcc (8 * (k / 8)) r = A at hor hps hcell
      generalize A + c = d at hor hps
      have HS := Lib.hid hps
      clear hps hbe hre hb2 hr8 hacc
      have HR := Lib.hid hrow
      clear hrow
      gi_wp2
      refine round_still_tail 13 (by kernel_rfl) (by kernel_rfl) (by kernel_rfl) (by rintro ⟨a, w, h⟩; exact h) ?_
      simp only [List.take_succ_cons, List.take_zero, List.drop_succ_cons, List.drop_zero]
      repeat still_step
      refine wpStill_nil ?_
      go_wp2
      gi_wp2
      have ek : ((k + 1 : Nat) : Int) = (k : Int) + 1 := by omega
      have g1 := row_other (B' := w.heap.size + 1 + 1 + 1) 0 (.int .i64 ((k + 1 : Nat) : Int)) (row_set (k / 8) (.int .u8 (d : Int)) HR.out) (by omega)
      rw [← HS.out, ek] at g1
      exact ⟨((KeepsOthers.setCell _ _ _).trans (KeepsOthers.setCell _ _ _)).trans (keeps_drew _), by omega, row_other (B' := w.heap.size + 1 + 1 + 1) 0 _ (row_other (k / 8) _ b0 (by omega)) (by omega), g1,
        row_other (B' := w.heap.size + 1 + 1 + 1) 0 _ (row_other (k / 8) _ b2 (by omega)) (by omega), by rw [ek]; exact Boxed.set _ (row_other (k / 8) _ b3 (by omega)),
        ((hB.setCell (p := ⟨w.heap.size + 1, k / 8, none⟩) (by simp) _).setCell (p := ⟨w.heap.size + 1 + 1 + 1, 0, none⟩) (by simp; omega) _).drew⟩
    · obtain rfl : k = 8 * n := by omega
      gi_wp2
      exact ⟨KeepsOthers.refl _, rfl, hrow, b2, hB⟩
  case stop =>
    rintro D c k W hD ⟨rfl, hrow, b2, hB⟩ hK
    have c2 := b2.cell
    have hr : ∀ r, some D = some r → ∃ o : Obj, W.heap[r]? = some o ∧ o.isCells = false := fun r e => by cases e; exact ⟨_, hK, rfl⟩
    have hrow' := row_own (β := Unit) (w.heap.size + 1) (fun _ => partC n (8 * n)) 5 () W _ _ hrow (grownBy_putObj' W D (.deferred none)) hr
    simp at hD
    have HR := Lib.hid hrow'
    have HD := Lib.hid (hB.trans (belowK_b (w := w) (Nat.le_refl _) W D (.deferred (some [])) (.deferred none) (by omega) hK rfl rfl))
    clear hrow hrow'
    gi_wp2
    refine ⟨by simp, .inl ⟨_, _, rfl, run_takeDeferred hK, ?_⟩⟩
    refine ⟨_, results_tmp rfl _ _ _, rfl, ?_, HD.out⟩
    rw [HR.out]
    congr 2
    exact Array.toList_inj.1 (part_full n)
  case refine_1 => exact (((Boxed.new w _ _).alloc _).alloc _).alloc _
  case refine_2 =>
    rw [part_zero]
    simp only [heap_alloc_get, World.size_alloc]
    repeat (first | rw [if_neg (by omega)] | rw [if_pos trivial])
  case refine_3 =>
    simp only [Boxed, heap_alloc_get, World.size_alloc]
    repeat (first | rw [if_neg (by omega)] | rw [if_pos trivial])
  case refine_4 =>
    simp only [Boxed, heap_alloc_get, World.size_alloc]
    repeat (first | rw [if_neg (by omega)] | rw [if_pos trivial])
    rfl
  case refine_5 => exact ((((Below.refl _ w).alloc (Nat.le_refl _) _).alloc (by simp) _).alloc (by simp; omega) _).alloc (by simp; omega) _
end Go.Proofs.Ytmpojdjknahoiaa
