/- Package endian: write upwards, fits, check, Little; the reference's Bytes and Repeat. -/
import Derived.Test.YtocncjimepnlcaaGreatDoorSpa
namespace Go.Proofs.YtocncjimepnlcaaGreatDoor
set_option linter.unusedSimpArgs false
set_option linter.unusedVariables false
open Go Go.RowKit
theorem u8Info : (Tryz.prog.info? 5).map (fun i => (i.zero, i.size, i.bytes)) = some (some (.int .u8 0), 1, 1) := by kernel_rfl
def bL (l : List UInt8) : ByteArray := ⟨l.toArray⟩
/-- The byte of a number with the weight 256^i. -/
def byteAt (n i : Nat) : UInt8 := UInt8.ofNat (n / 2 ^ (8 * i))
theorem byteAt_nat (n i : Nat) : (byteAt n i).toNat = n / 2 ^ (8 * i) % 256 := by simp [byteAt]
/-- The k least bytes of a number, the least one first. -/
def leL (n k : Nat) : List UInt8 := (List.range k).map (byteAt n)
theorem leL_length (n k : Nat) : (leL n k).length = k := by simp [leL]
theorem leL_succ (n k : Nat) : leL n (k + 1) = leL n k ++ [byteAt n k] := by simp [leL, List.range_succ]
theorem leL_get (n k j : Nat) (h : j < k) : (leL n k)[j]? = some (byteAt n j) := by simp [leL, h]
/-- What the loop of write has written in k rounds. -/
def wrL (p : Nat → Nat) (n s : Nat) : Nat → List UInt8
  | 0 => List.replicate s 0
  | k + 1 => (wrL p n s k).set (p k) (byteAt n k)
theorem wrL_length (p : Nat → Nat) (n s k : Nat) : (wrL p n s k).length = s := by
  induction k with
  | zero => simp [wrL]
  | succ k ih => simp [wrL, ih]
theorem wrL_up (n s k : Nat) (h : k ≤ s) : wrL (fun i => i) n s k = leL n k ++ List.replicate (s - k) 0 := by
  induction k with
  | zero => simp [wrL, leL]
  | succ k ih =>
    rw [wrL, ih (by omega), leL_succ, List.set_append_right _ _ (by rw [leL_length]; omega), leL_length, Nat.sub_self, show s - k = (s - (k + 1)) + 1 by omega, List.replicate_succ]
    simp
theorem wrL_upAll (n s : Nat) : wrL (fun i => i) n s s = leL n s := by rw [wrL_up n s s (Nat.le_refl _)]; simp
abbrev upV : Value := .func (.func 60) #[] #[]
set_option maxHeartbeats 400000 in
theorem up_ok (n : Int) (w : World) : Calls Tryz.prog 38 #[.int .i64 n] w fun e w' => e = .returned upV ∧ w = w' := by
  go_enter Tryz.func38, Tryz.ntmps38
  go_wp2
  go_ret
  exact ⟨rfl, rfl⟩
set_option maxHeartbeats 400000 in
theorem up1_ok (i : Int) (w : World) : Calls Tryz.prog 60 #[.int .i64 i] w fun e w' => e = .returned (.int .i64 i) ∧ w = w' := by
  go_enter Tryz.func60, Tryz.ntmps60
  go_wp2
  go_ret
  exact ⟨rfl, rfl⟩
def WrRel (p : Nat → Nat) (w : World) (n s k : Nat) (wr : World) : Prop :=
  k ≤ s ∧ wr.heap[w.heap.size]? = some (.cells (cb (wrL p n s k)).toArray 5 (0, 0)) ∧ Below w.heap.size w wr
set_option maxRecDepth 100000 in
set_option maxHeartbeats 800000 in
theorem writeUp_ok (n s : Nat) (w : World) (hs : s ≤ 8) :
    Calls Tryz.prog 37 #[.int .i64 n, .int .i64 s, upV] w fun e w' => e = .returned (.string ⟨(leL n s).toArray⟩) ∧ Below w.heap.size w w' := by
  have hmk := fun W => make_bytes (P := Tryz.prog) (t := 103) (e := 5) Tryz.underlying103 u8Info s (by omega) W
  go_enter Tryz.func37, Tryz.ntmps37
  go_wp2
  go_loopw [12] (fun i wr => ∃ k : Nat, i = .int .i64 k ∧ WrRel (fun i => i) w n s k wr) (fun i _ => s - (intOf i).toNat)
  case atStart =>
    refine ⟨0, rfl, Nat.zero_le _, ?_, (Below.refl _ w).alloc (Nat.le_refl _) _⟩
    rw [World.alloc_heap_new]
    simp [wrL, cb]
  case round =>
    obtain ⟨k, rfl, hk, h1, hB⟩ := hrel
    by_cases hlt : (k : Int) < s
    · have g1 : IntKind.i64.wrap (8 * (k : Int)) = 8 * (k : Int) := by rw [IntKind.wrap_i64]; omega
      have g2 : (0 : Int) ≤ 8 * (k : Int) := by omega
      have g3 : (8 * (k : Int)).toNat = 8 * k := by omega
      have g4 : IntKind.u8.wrap ((n : Int) / 2 ^ (8 * k)) = ((byteAt n k).toNat : Int) := by
        rw [byteAt_nat, IntKind.wrap_u8, Int.natCast_emod, Int.natCast_ediv, Int.natCast_pow]
        rfl
      obtain ⟨p, hp⟩ : ∃ p : Nat, (fun i => i) k = p := ⟨_, rfl⟩
      have hps : p < s := by simp only at hp; omega
      simp only at hp
      have hcall : ∀ W, Calls Tryz.prog 60 #[.int .i64 k] W fun e w' => e = .returned (.int .i64 p) ∧ W = w' := fun W => by
        rw [← hp]
        exact up1_ok k W
      have hset := cb_set (wrL (fun i => i) n s k) [] p (byteAt n k) (by rw [wrL_length]; exact hps)
      have HS : Hid (wrL (fun i => i) n s (k + 1) = (wrL (fun i => i) n s k).set p (byteAt n k)) := Lib.hid (by rw [wrL]; simp only [hp])
      have g5 : (0 : Int) ≤ (p : Int) := by omega
      have g6 : (p : Int) < (s : Int) := by omega
      have g7 : (p : Int).toNat = p := Int.toNat_natCast p
      have f1 : wr.frozen? ⟨w.heap.size, p, none⟩ = false := Lib.frozen_of_heap h1 p
      obtain ⟨u, c1⟩ : ∃ u, wr.cell? ⟨w.heap.size, p, none⟩ = some u := by
        rw [Lib.cell_of_heap h1, List.getElem?_toArray]
        exact ⟨_, List.getElem?_eq_getElem (by rw [cb_length, wrL_length]; exact hps)⟩
      simp only [List.append_nil] at hset
      generalize byteAt n k = c at g4 hset HS
      have H1 := Lib.hid h1
      have HT := Lib.hid hset
      clear h1 hset hp
      go_wp2
      refine region_sch (fun w' => w' = wr.drew) [(true, 0), (true, 1), (true, 2), (true, 4), (true, 5), (true, 6), (true, 7), (true, 8), (false, 3)] [9, 10] (by kernel_rfl) (by kernel_rfl) (by rintro ⟨_, _, h, _⟩; cases h) (fun _ _ d _ _ h => by cases d <;> exact h) rfl ?_
      simp only [pickM, pickT, List.filterMap_cons, List.filterMap_nil, List.getElem?_cons_zero, List.getElem?_cons_succ, Option.map_some]
      repeat (refine m_float ⟨?_, .inl ⟨?_, .inl ?_⟩, fun K' hK => ?_⟩; rotate_left; (first | rfl | (go_simp; done)); (intro w' hS; subst hS; go_simp; try rfl); (simp only [Act.put, List.setIfInBounds_toArray, List.set_cons_succ, List.set_cons_zero]; refine hK _ ?_; clear hK K'))
      refine m_loud ?_ (fun K' hK => ?_)
      · rintro ⟨_, _, h, _⟩; cases h
      go_wp2_with (go_at_call 60; refine (hcall _).mono ?_; rintro e w5 ⟨rfl, rfl⟩)
      refine hK _ _ rfl ?_
      clear hK K'
      refine m_nil ?_
      show wpList Tryz.prog _ _ (List.cons _ _) _ _
      go_wp2
      go_roundw
      case rel =>
        refine ⟨k + 1, by go_num, by omega, ?_, ?_⟩
        · rw [HS.out, ← HT.out]
          exact row_set p _ H1.out
        · exact (hB.setCell (p := ⟨w.heap.size, p, none⟩) (Nat.le_refl _) _).drew
      case measure => simp [intOf]; omega
    · obtain rfl : k = s := by omega
      rw [wrL_upAll] at h1
      have hcv := row_string (P := Tryz.prog) (src := 103) (dst := 9) (n := k) (cap := k) Tryz.underlying103 Tryz.underlying5 Tryz.underlying9 (by rw [leL_length]) h1
      have H1 := Lib.hid h1
      clear h1
      go_wp2
      go_ret
      exact ⟨rfl, hB⟩
set_option maxRecDepth 100000 in
set_option maxHeartbeats 400000 in
theorem fits_ok (n : Int) (s : Nat) (w : World) (h1 : 1 ≤ s) (h8 : s ≤ 7) : Calls Tryz.prog 59 #[.int .i64 n, .int .i64 s] w fun e w' => e = .returned (.bool (decide (0 ≤ n ∧ n < 2 ^ (8 * s)))) ∧ w = w' := by
  obtain ⟨c, hc⟩ : ∃ c : Int, (2 : Int) ^ (8 * s) = c := ⟨_, rfl⟩
  have hcc : IntKind.i64.wrap c = c := by
    have h : s = 1 ∨ s = 2 ∨ s = 3 ∨ s = 4 ∨ s = 5 ∨ s = 6 ∨ s = 7 := by omega
    subst hc
    rcases h with rfl | rfl | rfl | rfl | rfl | rfl | rfl <;> rfl
  have hc1 : min (8 * s) 64 = 8 * s := by omega
  have t8 : ((s : Int) == 8) = false := by simp; omega
  have g1 : IntKind.i64.wrap (8 * (s : Int)) = 8 * (s : Int) := by rw [IntKind.wrap_i64]; omega
  have g2 : (0 : Int) ≤ 8 * (s : Int) := by omega
  have g3 : (8 * (s : Int)).toNat = 8 * s := by omega
  rw [hc]
  by_cases h0 : 0 ≤ n
  · by_cases h2 : n < c
    · rw [show decide (0 ≤ n ∧ n < c) = true by simp [h0, h2]]
      go_enter Tryz.func59, Tryz.ntmps59
      go_wp2
      go_ret
      exact ⟨rfl, rfl⟩
    · rw [show decide (0 ≤ n ∧ n < c) = false by simp [h2]]
      go_enter Tryz.func59, Tryz.ntmps59
      go_wp2
      go_ret
      exact ⟨rfl, rfl⟩
  · rw [show decide (0 ≤ n ∧ n < c) = false by simp [h0]]
    go_enter Tryz.func59, Tryz.ntmps59
    go_wp2
    go_ret
    exact ⟨rfl, rfl⟩
set_option maxRecDepth 100000 in
set_option maxHeartbeats 400000 in
theorem check_ok (n : Int) (s : Nat) (w : World) (hs : s = 2 ∨ s = 4) : Calls Tryz.prog 36 #[cN n, cN s] w fun e w' => e = .returned (cN (if 0 ≤ n ∧ n < 2 ^ (8 * s) then 0 else 2)) ∧ w' = w := by
  have c2 := fun W => fits_ok n s W (by omega) (by omega)
  have g1 : ¬ (s : Int) < 1 := by omega
  have g2 : ¬ (8 : Int) < (s : Int) := by omega
  by_cases h : 0 ≤ n ∧ n < 2 ^ (8 * s)
  · rw [if_pos h]
    rw [decide_eq_true h] at c2
    clear h hs
    go_enter Tryz.func36, Tryz.ntmps36
    go_wp2_with fail
    with_reducible refine (c2 _).mono ?_
    rintro e w1 ⟨rfl, rfl⟩
    go_wp2
    go_ret
    exact ⟨rfl, by trivial⟩
  · rw [if_neg h]
    rw [decide_eq_false h] at c2
    clear h hs
    go_enter Tryz.func36, Tryz.ntmps36
    go_wp2_with fail
    with_reducible refine (c2 _).mono ?_
    rintro e w1 ⟨rfl, rfl⟩
    go_wp2
    go_ret
    exact ⟨rfl, by trivial⟩
set_option maxRecDepth 100000 in
set_option maxHeartbeats 400000 in
theorem little_ok (m s : Nat) (w : World) (hs : s = 2 ∨ s = 4) (hm : m < 2 ^ (8 * s)) : Calls Tryz.prog 21 #[cN m, cN s] w fun e w' => e = .returned (.tuple #[.string ⟨(leL m s).toArray⟩, cN 0]) ∧ Below w.heap.size w w' := by
  have c1 := fun W => check_ok m s W hs
  have hh : (0 : Int) ≤ (m : Int) ∧ (m : Int) < 2 ^ (8 * s) := ⟨by omega, by exact_mod_cast hm⟩
  rw [if_pos hh] at c1
  have c3 := fun W => writeUp_ok m s W (by omega)
  clear hh hs hm
  go_enter Tryz.func21, Tryz.ntmps21
  go_wp2_with fail
  with_reducible refine (c1 _).mono ?_
  rintro e w1 ⟨rfl, rfl⟩
  go_wp2_with fail
  with_reducible refine (up_ok _ _).mono ?_
  rintro e w1 ⟨rfl, rfl⟩
  go_wp2_with fail
  with_reducible refine (c3 _).mono ?_
  rintro e w1 ⟨rfl, hB1⟩
  go_wp2
  go_ret2
  exact ⟨rfl, hB1⟩
theorem pow_succ8 (k : Nat) : 2 ^ (8 * (k + 1)) = 2 ^ (8 * k) * 256 := by rw [show 8 * (k + 1) = 8 * k + 8 by omega, Nat.pow_add]
/-- A number, k bytes taken off. -/
def dv8 (m k : Nat) : Nat := m / 2 ^ (8 * k)
theorem dv8_zero (m : Nat) : dv8 m 0 = m := by simp [dv8]
theorem dv8_succ (m k : Nat) : dv8 m (k + 1) = dv8 m k / 256 := by rw [dv8, dv8, pow_succ8, Nat.div_div_eq_div_mul]
theorem dv8_eq_zero (m k : Nat) : dv8 m k = 0 ↔ m < 2 ^ (8 * k) := by rw [dv8, Nat.div_eq_zero_iff]; have := Nat.two_pow_pos (8 * k); omega
theorem dv8_byte (m k : Nat) : byteAt m k = UInt8.ofNat (dv8 m k) := rfl
end Go.Proofs.YtocncjimepnlcaaGreatDoor
