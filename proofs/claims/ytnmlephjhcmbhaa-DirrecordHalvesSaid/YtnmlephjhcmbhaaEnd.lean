/- Package endian: what write, fits, Little, Big, Both, read, ReadLittle, ReadBig, ReadBoth return. -/
import Derived.Test.YtnmlephjhcmbhaaBld
import Derived.Test.YtnmlephjhcmbhaaRgn
namespace Go.Proofs.Ytnmlephjhcmbhaa
set_option linter.unusedSimpArgs false
set_option linter.unusedVariables false
open Go Go.RowKit
/-- The byte of a number with the weight 256^i. -/
def byteAt (n i : Nat) : UInt8 := UInt8.ofNat (n / 2 ^ (8 * i))
theorem byteAt_nat (n i : Nat) : (byteAt n i).toNat = n / 2 ^ (8 * i) % 256 := by simp [byteAt]
/-- The k least bytes of a number, the least one first. -/
def leL (n k : Nat) : List UInt8 := (List.range k).map (byteAt n)
theorem leL_length (n k : Nat) : (leL n k).length = k := by simp [leL]
theorem leL_succ (n k : Nat) : leL n (k + 1) = leL n k ++ [byteAt n k] := by simp [leL, List.range_succ]
theorem leL_get (n k j : Nat) (h : j < k) : (leL n k)[j]? = some (byteAt n j) := by simp [leL, h]
/-- What the loop of write has written in k rounds. -/
def wrL (p : Nat → Nat) (n s : Nat) : Nat → List UInt8
  | 0 => List.replicate s 0
  | k + 1 => (wrL p n s k).set (p k) (byteAt n k)
theorem wrL_length (p : Nat → Nat) (n s k : Nat) : (wrL p n s k).length = s := by
  induction k with
  | zero => simp [wrL]
  | succ k ih => simp [wrL, ih]
theorem wrL_up (n s k : Nat) (h : k ≤ s) : wrL (fun i => i) n s k = leL n k ++ List.replicate (s - k) 0 := by
  induction k with
  | zero => simp [wrL, leL]
  | succ k ih =>
    rw [wrL, ih (by omega), leL_succ, List.set_append_right _ _ (by rw [leL_length]; omega), leL_length, Nat.sub_self, show s - k = (s - (k + 1)) + 1 by omega, List.replicate_succ]
    simp
theorem wrL_down (n s k : Nat) (h : k ≤ s) : wrL (fun i => s - 1 - i) n s k = List.replicate (s - k) 0 ++ (leL n k).reverse := by
  induction k with
  | zero => simp [wrL, leL]
  | succ k ih =>
    rw [wrL, ih (by omega), leL_succ, List.set_append_left _ _ (by rw [List.length_replicate]; omega), List.reverse_append]
    have e : (List.replicate (s - k) (0 : UInt8)).set (s - 1 - k) (byteAt n k) = List.replicate (s - (k + 1)) 0 ++ [byteAt n k] := by
      rw [show s - k = (s - (k + 1)) + 1 by omega, List.replicate_succ', List.set_append_right _ _ (by rw [List.length_replicate]; omega), List.length_replicate, show s - 1 - k - (s - (k + 1)) = 0 by omega]
      rfl
    rw [e]
    simp
theorem wrL_upAll (n s : Nat) : wrL (fun i => i) n s s = leL n s := by rw [wrL_up n s s (Nat.le_refl _)]; simp
theorem wrL_downAll (n s : Nat) : wrL (fun i => s - 1 - i) n s s = (leL n s).reverse := by rw [wrL_down n s s (Nat.le_refl _)]; simp
abbrev upV : Value := .func (.func 154) #[] #[]
abbrev downV (B : Nat) : Value := .func (.func 155) #[] #[ptr B]
set_option maxHeartbeats 400000 in
theorem up_ok (n : Int) (w : World) : Calls Try.prog 109 #[.int .i64 n] w fun e w' => e = .returned upV ∧ w = w' := by
  go_enter Try.func109, Try.ntmps109
  go_wp2
  go_ret
  exact ⟨rfl, rfl⟩
set_option maxHeartbeats 400000 in
theorem down_ok (n : Int) (w : World) : Calls Try.prog 110 #[.int .i64 n] w fun e w' => e = .returned (downV w.heap.size) ∧ w' = w.alloc (.cells #[.int .i64 n] 3) := by
  go_enter Try.func110, Try.ntmps110
  go_wp2
  go_ret
  exact ⟨rfl, rfl⟩
set_option maxHeartbeats 400000 in
theorem up1_ok (i : Int) (w : World) : Calls Try.prog 154 #[.int .i64 i] w fun e w' => e = .returned (.int .i64 i) ∧ w = w' := by
  go_enter Try.func154, Try.ntmps154
  go_wp2
  go_ret
  exact ⟨rfl, rfl⟩
set_option maxHeartbeats 400000 in
theorem down1_ok (i s : Nat) (B : Nat) (w : World) (hi : i < s) (hs : s ≤ 8) (hc : w.cell? ⟨B, 0, none⟩ = some (.int .i64 s)) : Calls Try.prog 155 #[.int .i64 i, ptr B] w fun e w' => e = .returned (.int .i64 ((s - 1 - i : Nat) : Int)) ∧ w = w' := by
  have e1 : IntKind.i64.wrap ((s : Int) - 1) = (s : Int) - 1 := by rw [IntKind.wrap_i64]; omega
  have e2 : IntKind.i64.wrap ((s : Int) - 1 - (i : Int)) = ((s - 1 - i : Nat) : Int) := by rw [IntKind.wrap_i64]; omega
  go_enter Try.func155, Try.ntmps155
  go_wp2
  go_ret
  exact ⟨rfl, rfl⟩
def WrRel (p : Nat → Nat) (w : World) (n s k : Nat) (wr : World) : Prop :=
  k ≤ s ∧ wr.heap[w.heap.size]? = some (.cells (cb (wrL p n s k)).toArray 5 (0, 0)) ∧ Below w.heap.size w wr
set_option maxRecDepth 100000 in
set_option maxHeartbeats 800000 in
theorem writeUp_ok (n s : Nat) (w : World) (hs : s ≤ 8) :
    Calls Try.prog 108 #[.int .i64 n, .int .i64 s, upV] w fun e w' => e = .returned (.string ⟨(leL n s).toArray⟩) ∧ Below w.heap.size w w' := by
  have hmk := fun W => make_bytes (P := Try.prog) (t := 37) (e := 5) Try.underlying37 u8Info s (by omega) W
  go_enter Try.func108, Try.ntmps108
  go_wp2
  go_loopw [12] (fun i wr => ∃ k : Nat, i = .int .i64 k ∧ WrRel (fun i => i) w n s k wr) (fun i _ => s - (intOf i).toNat)
  case atStart =>
    refine ⟨0, rfl, Nat.zero_le _, ?_, (Below.refl _ w).alloc (Nat.le_refl _) _⟩
    rw [World.alloc_heap_new]
    simp [wrL, cb]
  case round =>
    obtain ⟨k, rfl, hk, h1, hB⟩ := hrel
    by_cases hlt : (k : Int) < s
    · have g1 : IntKind.i64.wrap (8 * (k : Int)) = 8 * (k : Int) := by rw [IntKind.wrap_i64]; omega
      have g2 : (0 : Int) ≤ 8 * (k : Int) := by omega
      have g3 : (8 * (k : Int)).toNat = 8 * k := by omega
      have g4 : IntKind.u8.wrap ((n : Int) / 2 ^ (8 * k)) = ((byteAt n k).toNat : Int) := by
        rw [byteAt_nat, IntKind.wrap_u8, Int.natCast_emod, Int.natCast_ediv, Int.natCast_pow]
        rfl
      obtain ⟨p, hp⟩ : ∃ p : Nat, (fun i => i) k = p := ⟨_, rfl⟩
      have hps : p < s := by simp only at hp; omega
      simp only at hp
      have hcall : ∀ W, Calls Try.prog 154 #[.int .i64 k] W fun e w' => e = .returned (.int .i64 p) ∧ W = w' := fun W => by
        rw [← hp]
        exact up1_ok k W
      have hset := cb_set (wrL (fun i => i) n s k) [] p (byteAt n k) (by rw [wrL_length]; exact hps)
      have HS : Hid (wrL (fun i => i) n s (k + 1) = (wrL (fun i => i) n s k).set p (byteAt n k)) := Lib.hid (by rw [wrL]; simp only [hp])
      have g5 : (0 : Int) ≤ (p : Int) := by omega
      have g6 : (p : Int) < (s : Int) := by omega
      have g7 : (p : Int).toNat = p := Int.toNat_natCast p
      have f1 : wr.frozen? ⟨w.heap.size, p, none⟩ = false := Lib.frozen_of_heap h1 p
      obtain ⟨u, c1⟩ : ∃ u, wr.cell? ⟨w.heap.size, p, none⟩ = some u := by
        rw [Lib.cell_of_heap h1, List.getElem?_toArray]
        exact ⟨_, List.getElem?_eq_getElem (by rw [cb_length, wrL_length]; exact hps)⟩
      simp only [List.append_nil] at hset
      generalize byteAt n k = c at g4 hset HS
      have H1 := Lib.hid h1
      have HT := Lib.hid hset
      clear h1 hset hp
      go_wp2
      refine region_sch (fun w' => w' = wr.drew) [(true, 0), (true, 1), (true, 2), (true, 4), (true, 5), (true, 6), (true, 7), (true, 8), (false, 3)] [9, 10] (by kernel_rfl) (by kernel_rfl) (by rintro ⟨_, _, h, _⟩; cases h) (fun _ _ d _ _ h => by cases d <;> exact h) rfl ?_
      simp only [pickM, pickT, List.filterMap_cons, List.filterMap_nil, List.getElem?_cons_zero, List.getElem?_cons_succ, Option.map_some]
      repeat (refine m_float ⟨?_, .inl ⟨?_, .inl ?_⟩, fun K' hK => ?_⟩; rotate_left; (first | rfl | (go_simp; done)); (intro w' hS; subst hS; go_simp; try rfl); (simp only [Act.put, List.setIfInBounds_toArray, List.set_cons_succ, List.set_cons_zero]; refine hK _ ?_; clear hK K'))
      refine m_loud ?_ (fun K' hK => ?_)
      · rintro ⟨_, _, h, _⟩; cases h
      go_wp2_with (go_at_call 154; refine (hcall _).mono ?_; rintro e w5 ⟨rfl, rfl⟩)
      refine hK _ _ rfl ?_
      clear hK K'
      refine m_nil ?_
      show wpList Try.prog _ _ (List.cons _ _) _ _
      go_wp2
      go_roundw
      case rel =>
        refine ⟨k + 1, by go_num, by omega, ?_, ?_⟩
        · rw [HS.out, ← HT.out]
          exact row_set p _ H1.out
        · exact (hB.setCell (p := ⟨w.heap.size, p, none⟩) (Nat.le_refl _) _).drew
      case measure => simp [intOf]; omega
    · obtain rfl : k = s := by omega
      rw [wrL_upAll] at h1
      have hcv := row_string (P := Try.prog) (src := 37) (dst := 9) (n := k) (cap := k) Try.underlying37 Try.underlying5 Try.underlying9 (by rw [leL_length]) h1
      have H1 := Lib.hid h1
      clear h1
      go_wp2
      go_ret
      exact ⟨rfl, hB⟩
set_option maxRecDepth 100000 in
set_option maxHeartbeats 800000 in
theorem writeDown_ok (n s : Nat) (w : World) (hs : s ≤ 8) (B : Nat) (hc : w.cell? ⟨B, 0, none⟩ = some (.int .i64 s)) :
    Calls Try.prog 108 #[.int .i64 n, .int .i64 s, (downV B)] w fun e w' => e = .returned (.string ⟨(leL n s).reverse.toArray⟩) ∧ Below w.heap.size w w' := by
  have hmk := fun W => make_bytes (P := Try.prog) (t := 37) (e := 5) Try.underlying37 u8Info s (by omega) W
  go_enter Try.func108, Try.ntmps108
  go_wp2
  go_loopw [12] (fun i wr => ∃ k : Nat, i = .int .i64 k ∧ WrRel (fun i => s - 1 - i) w n s k wr) (fun i _ => s - (intOf i).toNat)
  case atStart =>
    refine ⟨0, rfl, Nat.zero_le _, ?_, (Below.refl _ w).alloc (Nat.le_refl _) _⟩
    rw [World.alloc_heap_new]
    simp [wrL, cb]
  case round =>
    obtain ⟨k, rfl, hk, h1, hB⟩ := hrel
    by_cases hlt : (k : Int) < s
    · have g1 : IntKind.i64.wrap (8 * (k : Int)) = 8 * (k : Int) := by rw [IntKind.wrap_i64]; omega
      have g2 : (0 : Int) ≤ 8 * (k : Int) := by omega
      have g3 : (8 * (k : Int)).toNat = 8 * k := by omega
      have g4 : IntKind.u8.wrap ((n : Int) / 2 ^ (8 * k)) = ((byteAt n k).toNat : Int) := by
        rw [byteAt_nat, IntKind.wrap_u8, Int.natCast_emod, Int.natCast_ediv, Int.natCast_pow]
        rfl
      obtain ⟨p, hp⟩ : ∃ p : Nat, (fun i => s - 1 - i) k = p := ⟨_, rfl⟩
      have hps : p < s := by simp only at hp; omega
      simp only at hp
      have hcall : ∀ W : World, W.cell? ⟨B, 0, none⟩ = some (.int .i64 s) → Calls Try.prog 155 #[.int .i64 k, ptr B] W fun e w' => e = .returned (.int .i64 p) ∧ W = w' := fun W => by
        rw [← hp]
        exact down1_ok k s B W (by omega) hs
      have hB0 : B < w.heap.size := World.block_lt_of_cell? w _ hc
      have hc1 : wr.drew.cell? ⟨B, 0, none⟩ = some (.int .i64 s) := by rw [World.cell?_drew, hB.cell hB0]; exact hc
      have hset := cb_set (wrL (fun i => s - 1 - i) n s k) [] p (byteAt n k) (by rw [wrL_length]; exact hps)
      have HS : Hid (wrL (fun i => s - 1 - i) n s (k + 1) = (wrL (fun i => s - 1 - i) n s k).set p (byteAt n k)) := Lib.hid (by rw [wrL]; simp only [hp])
      have g5 : (0 : Int) ≤ (p : Int) := by omega
      have g6 : (p : Int) < (s : Int) := by omega
      have g7 : (p : Int).toNat = p := Int.toNat_natCast p
      have f1 : wr.frozen? ⟨w.heap.size, p, none⟩ = false := Lib.frozen_of_heap h1 p
      obtain ⟨u, c1⟩ : ∃ u, wr.cell? ⟨w.heap.size, p, none⟩ = some u := by
        rw [Lib.cell_of_heap h1, List.getElem?_toArray]
        exact ⟨_, List.getElem?_eq_getElem (by rw [cb_length, wrL_length]; exact hps)⟩
      simp only [List.append_nil] at hset
      generalize byteAt n k = c at g4 hset HS
      have H1 := Lib.hid h1
      have HT := Lib.hid hset
      clear h1 hset hp
      go_wp2
      refine region_sch (fun w' => w' = wr.drew) [(true, 0), (true, 1), (true, 2), (true, 4), (true, 5), (true, 6), (true, 7), (true, 8), (false, 3)] [9, 10] (by kernel_rfl) (by kernel_rfl) (by rintro ⟨_, _, h, _⟩; cases h) (fun _ _ d _ _ h => by cases d <;> exact h) rfl ?_
      simp only [pickM, pickT, List.filterMap_cons, List.filterMap_nil, List.getElem?_cons_zero, List.getElem?_cons_succ, Option.map_some]
      repeat (refine m_float ⟨?_, .inl ⟨?_, .inl ?_⟩, fun K' hK => ?_⟩; rotate_left; (first | rfl | (go_simp; done)); (intro w' hS; subst hS; go_simp; try rfl); (simp only [Act.put, List.setIfInBounds_toArray, List.set_cons_succ, List.set_cons_zero]; refine hK _ ?_; clear hK K'))
      refine m_loud ?_ (fun K' hK => ?_)
      · rintro ⟨_, _, h, _⟩; cases h
      go_wp2_with (go_at_call 155; refine (hcall _ hc1).mono ?_; rintro e w5 ⟨rfl, rfl⟩)
      refine hK _ _ rfl ?_
      clear hK K'
      refine m_nil ?_
      show wpList Try.prog _ _ (List.cons _ _) _ _
      go_wp2
      go_roundw
      case rel =>
        refine ⟨k + 1, by go_num, by omega, ?_, ?_⟩
        · rw [HS.out, ← HT.out]
          exact row_set p _ H1.out
        · exact (hB.setCell (p := ⟨w.heap.size, p, none⟩) (Nat.le_refl _) _).drew
      case measure => simp [intOf]; omega
    · obtain rfl : k = s := by omega
      rw [wrL_downAll] at h1
      have hcv := row_string (P := Try.prog) (src := 37) (dst := 9) (n := k) (cap := k) Try.underlying37 Try.underlying5 Try.underlying9 (by rw [List.length_reverse, leL_length]) h1
      have H1 := Lib.hid h1
      clear h1
      go_wp2
      go_ret
      exact ⟨rfl, hB⟩
end Go.Proofs.Ytnmlephjhcmbhaa
