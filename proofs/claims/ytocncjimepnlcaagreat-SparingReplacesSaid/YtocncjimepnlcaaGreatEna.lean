/- Package endian: write upwards, fits, check, Little; the reference's Bytes and Repeat. -/
import Derived.Test.YtocncjimepnlcaaGreatSpa
namespace Go.Proofs.YtocncjimepnlcaaGreat
set_option linter.unusedSimpArgs false
set_option linter.unusedVariables false
open Go Go.RowKit
theorem u8Info : (Tryz.prog.info? 5).map (fun i => (i.zero, i.size, i.bytes)) = some (some (.int .u8 0), 1, 1) := by kernel_rfl
def bL (l : List UInt8) : ByteArray := ⟨l.toArray⟩
/-- The byte of a number with the weight 256^i. -/
def byteAt (n i : Nat) : UInt8 := UInt8.ofNat (n / 2 ^ (8 * i))
theorem byteAt_nat (n i : Nat) : (byteAt n i).toNat = n / 2 ^ (8 * i) % 256 := by simp [byteAt]
/-- The k least bytes of a number, the least one first. -/
def leL (n k : Nat) : List UInt8 := (List.range k).map (byteAt n)
theorem leL_length (n k : Nat) : (leL n k).length = k := by simp [leL]
theorem leL_succ (n k : Nat) : leL n (k + 1) = leL n k ++ [byteAt n k] := by simp [leL, List.range_succ]
theorem leL_get (n k j : Nat) (h : j < k) : (leL n k)[j]? = some (byteAt n j) := by simp [leL, h]
/-- What the loop of write has written in k rounds. -/
def wrL (p : Nat → Nat) (n s : Nat) : Nat → List UInt8
  | 0 => List.replicate s 0
  | k + 1 => (wrL p n s k).set (p k) (byteAt n k)
theorem wrL_length (p : Nat → Nat) (n s k : Nat) : (wrL p n s k).length = s := by
  induction k with
  | zero => simp [wrL]
  | succ k ih => simp [wrL, ih]
theorem wrL_up (n s k : Nat) (h : k ≤ s) : wrL (fun i => i) n s k = leL n k ++ List.replicate (s - k) 0 := by
  induction k with
  | zero => simp [wrL, leL]
  | succ k ih =>
    rw [wrL, ih (by omega), leL_succ, List.set_append_right _ _ (by rw [leL_length]; omega), leL_length, Nat.sub_self, show s - k = (s - (k + 1)) + 1 by omega, List.replicate_succ]
    simp
theorem wrL_upAll (n s : Nat) : wrL (fun i => i) n s s = leL n s := by rw [wrL_up n s s (Nat.le_refl _)]; simp
abbrev upV : Value := .func (.func 68) #[] #[]
set_option maxHeartbeats 400000 in
theorem up_ok (n : Int) (w : World) : Calls Tryz.prog 45 #[.int .i64 n] w fun e w' => e = .returned upV ∧ w = w' := by
  go_enter Tryz.func45, Tryz.ntmps45
  go_wp2
  go_ret
  exact ⟨rfl, rfl⟩
set_option maxHeartbeats 400000 in
theorem up1_ok (i : Int) (w : World) : Calls Tryz.prog 68 #[.int .i64 i] w fun e w' => e = .returned (.int .i64 i) ∧ w = w' := by
  go_enter Tryz.func68, Tryz.ntmps68
  go_wp2
  go_ret
  exact ⟨rfl, rfl⟩
def WrRel (p : Nat → Nat) (w : World) (n s k : Nat) (wr : World) : Prop :=
  k ≤ s ∧ wr.heap[w.heap.size]? = some (.cells (cb (wrL p n s k)).toArray 5 (0, 0)) ∧ Below w.heap.size w wr
set_option maxRecDepth 100000 in
set_option maxHeartbeats 800000 in
theorem writeUp_ok (n s : Nat) (w : World) (hs : s ≤ 8) :
    Calls Tryz.prog 44 #[.int .i64 n, .int .i64 s, upV] w fun e w' => e = .returned (.string ⟨(leL n s).toArray⟩) ∧ Below w.heap.size w w' := by
  have hmk := fun W => make_bytes (P := Tryz.prog) (t := 77) (e := 5) Tryz.underlying77 u8Info s (by omega) W
  go_enter Tryz.func44, Tryz.ntmps44
  go_wp2
  go_loopw [12] (fun i wr => ∃ k : Nat, i = .int .i64 k ∧ WrRel (fun i => i) w n s k wr) (fun i _ => s - (intOf i).toNat)
  case atStart =>
    refine ⟨0, rfl, Nat.zero_le _, ?_, (Below.refl _ w).alloc (Nat.le_refl _) _⟩
    rw [World.alloc_heap_new]
    simp [wrL, cb]
  case round =>
    obtain ⟨k, rfl, hk, h1, hB⟩ := hrel
    by_cases hlt : (k : Int) < s
    · have g1 : IntKind.i64.wrap (8 * (k : Int)) = 8 * (k : Int) := by rw [IntKind.wrap_i64]; omega
      have g2 : (0 : Int) ≤ 8 * (k : Int) := by omega
      have g3 : (8 * (k : Int)).toNat = 8 * k := by omega
      have g4 : IntKind.u8.wrap ((n : Int) / 2 ^ (8 * k)) = ((byteAt n k).toNat : Int) := by
        rw [byteAt_nat, IntKind.wrap_u8, Int.natCast_emod, Int.natCast_ediv, Int.natCast_pow]
        rfl
      obtain ⟨p, hp⟩ : ∃ p : Nat, (fun i => i) k = p := ⟨_, rfl⟩
      have hps : p < s := by simp only at hp; omega
      simp only at hp
      have hcall : ∀ W, Calls Tryz.prog 68 #[.int .i64 k] W fun e w' => e = .returned (.int .i64 p) ∧ W = w' := fun W => by
        rw [← hp]
        exact up1_ok k W
      have hset := cb_set (wrL (fun i => i) n s k) [] p (byteAt n k) (by rw [wrL_length]; exact hps)
      have HS : Hid (wrL (fun i => i) n s (k + 1) = (wrL (fun i => i) n s k).set p (byteAt n k)) := Lib.hid (by rw [wrL]; simp only [hp])
      have g5 : (0 : Int) ≤ (p : Int) := by omega
      have g6 : (p : Int) < (s : Int) := by omega
      have g7 : (p : Int).toNat = p := Int.toNat_natCast p
      have f1 : wr.frozen? ⟨w.heap.size, p, none⟩ = false := Lib.frozen_of_heap h1 p
      obtain ⟨u, c1⟩ : ∃ u, wr.cell? ⟨w.heap.size, p, none⟩ = some u := by
        rw [Lib.cell_of_heap h1, List.getElem?_toArray]
        exact ⟨_, List.getElem?_eq_getElem (by rw [cb_length, wrL_length]; exact hps)⟩
      simp only [List.append_nil] at hset
      generalize byteAt n k = c at g4 hset HS
      have H1 := Lib.hid h1
      have HT := Lib.hid hset
      clear h1 hset hp
      go_wp2
      refine region_sch (fun w' => w' = wr.drew) [(true, 0), (true, 1), (true, 2), (true, 4), (true, 5), (true, 6), (true, 7), (true, 8), (false, 3)] [9, 10] (by kernel_rfl) (by kernel_rfl) (by rintro ⟨_, _, h, _⟩; cases h) (fun _ _ d _ _ h => by cases d <;> exact h) rfl ?_
      simp only [pickM, pickT, List.filterMap_cons, List.filterMap_nil, List.getElem?_cons_zero, List.getElem?_cons_succ, Option.map_some]
      repeat (refine m_float ⟨?_, .inl ⟨?_, .inl ?_⟩, fun K' hK => ?_⟩; rotate_left; (first | rfl | (go_simp; done)); (intro w' hS; subst hS; go_simp; try rfl); (simp only [Act.put, List.setIfInBounds_toArray, List.set_cons_succ, List.set_cons_zero]; refine hK _ ?_; clear hK K'))
      refine m_loud ?_ (fun K' hK => ?_)
      · rintro ⟨_, _, h, _⟩; cases h
      go_wp2_with (go_at_call 68; refine (hcall _).mono ?_; rintro e w5 ⟨rfl, rfl⟩)
      refine hK _ _ rfl ?_
      clear hK K'
      refine m_nil ?_
      show wpList Tryz.prog _ _ (List.cons _ _) _ _
      go_wp2
      go_roundw
      case rel =>
        refine ⟨k + 1, by go_num, by omega, ?_, ?_⟩
        · rw [HS.out, ← HT.out]
          exact row_set p _ H1.out
        · exact (hB.setCell (p := ⟨w.heap.size, p, none⟩) (Nat.le_refl _) _).drew
      case measure => simp [intOf]; omega
    · obtain rfl : k = s := by omega
      rw [wrL_upAll] at h1
      have hcv := row_string (P := Tryz.prog) (src := 77) (dst := 9) (n := k) (cap := k) Tryz.underlying77 Tryz.underlying5 Tryz.underlying9 (by rw [leL_length]) h1
      have H1 := Lib.hid h1
      clear h1
      go_wp2
      go_ret
      exact ⟨rfl, hB⟩
set_option maxRecDepth 100000 in
set_option maxHeartbeats 400000 in
theorem fits_ok (n : Int) (s : Nat) (w : World) (h1 : 1 ≤ s) (h8 : s ≤ 7) : Calls Tryz.prog 67 #[.int .i64 n, .int .i64 s] w fun e w' => e = .returned (.bool (decide (0 ≤ n ∧ n < 2 ^ (8 * s)))) ∧ w = w' := by
  obtain ⟨c, hc⟩ : ∃ c : Int, (2 : Int) ^ (8 * s) = c := ⟨_, rfl⟩
  have hcc : IntKind.i64.wrap c = c := by
    have h : s = 1 ∨ s = 2 ∨ s = 3 ∨ s = 4 ∨ s = 5 ∨ s = 6 ∨ s = 7 := by omega
    subst hc
    rcases h with rfl | rfl | rfl | rfl | rfl | rfl | rfl <;> rfl
  have hc1 : min (8 * s) 64 = 8 * s := by omega
  have t8 : ((s : Int) == 8) = false := by simp; omega
  have g1 : IntKind.i64.wrap (8 * (s : Int)) = 8 * (s : Int) := by rw [IntKind.wrap_i64]; omega
  have g2 : (0 : Int) ≤ 8 * (s : Int) := by omega
  have g3 : (8 * (s : Int)).toNat = 8 * s := by omega
  rw [hc]
  by_cases h0 : 0 ≤ n
  · by_cases h2 : n < c
    · rw [show decide (0 ≤ n ∧ n < c) = true by simp [h0, h2]]
      go_enter Tryz.func67, Tryz.ntmps67
      go_wp2
      go_ret
      exact ⟨rfl, rfl⟩
    · rw [show decide (0 ≤ n ∧ n < c) = false by simp [h2]]
      go_enter Tryz.func67, Tryz.ntmps67
      go_wp2
      go_ret
      exact ⟨rfl, rfl⟩
  · rw [show decide (0 ≤ n ∧ n < c) = false by simp [h0]]
    go_enter Tryz.func67, Tryz.ntmps67
    go_wp2
    go_ret
    exact ⟨rfl, rfl⟩
set_option maxRecDepth 100000 in
set_option maxHeartbeats 400000 in
theorem check_ok (n : Int) (s : Nat) (w : World) (hs : s = 2 ∨ s = 4) : Calls Tryz.prog 43 #[cN n, cN s] w fun e w' => e = .returned (cN (if 0 ≤ n ∧ n < 2 ^ (8 * s) then 0 else 2)) ∧ w' = w := by
  have c2 := fun W => fits_ok n s W (by omega) (by omega)
  have g1 : ¬ (s : Int) < 1 := by omega
  have g2 : ¬ (8 : Int) < (s : Int) := by omega
  by_cases h : 0 ≤ n ∧ n < 2 ^ (8 * s)
  · rw [if_pos h]
    rw [decide_eq_true h] at c2
    clear h hs
    go_enter Tryz.func43, Tryz.ntmps43
    go_wp2_with fail
    with_reducible refine (c2 _).mono ?_
    rintro e w1 ⟨rfl, rfl⟩
    go_wp2
    go_ret
    exact ⟨rfl, by trivial⟩
  · rw [if_neg h]
    rw [decide_eq_false h] at c2
    clear h hs
    go_enter Tryz.func43, Tryz.ntmps43
    go_wp2_with fail
    with_reducible refine (c2 _).mono ?_
    rintro e w1 ⟨rfl, rfl⟩
    go_wp2
    go_ret
    exact ⟨rfl, by trivial⟩
set_option maxRecDepth 100000 in
set_option maxHeartbeats 400000 in
theorem little_ok (m s : Nat) (w : World) (hs : s = 2 ∨ s = 4) (hm : m < 2 ^ (8 * s)) : Calls Tryz.prog 26 #[cN m, cN s] w fun e w' => e = .returned (.tuple #[.string ⟨(leL m s).toArray⟩, cN 0]) ∧ Below w.heap.size w w' := by
  have c1 := fun W => check_ok m s W hs
  have hh : (0 : Int) ≤ (m : Int) ∧ (m : Int) < 2 ^ (8 * s) := ⟨by omega, by exact_mod_cast hm⟩
  rw [if_pos hh] at c1
  have c3 := fun W => writeUp_ok m s W (by omega)
  clear hh hs hm
  go_enter Tryz.func26, Tryz.ntmps26
  go_wp2_with fail
  with_reducible refine (c1 _).mono ?_
  rintro e w1 ⟨rfl, rfl⟩
  go_wp2_with fail
  with_reducible refine (up_ok _ _).mono ?_
  rintro e w1 ⟨rfl, rfl⟩
  go_wp2_with fail
  with_reducible refine (c3 _).mono ?_
  rintro e w1 ⟨rfl, hB1⟩
  go_wp2
  go_ret2
  exact ⟨rfl, hB1⟩
theorem pow_succ8 (k : Nat) : 2 ^ (8 * (k + 1)) = 2 ^ (8 * k) * 256 := by rw [show 8 * (k + 1) = 8 * k + 8 by omega, Nat.pow_add]
/-- A number, k bytes taken off. -/
def dv8 (m k : Nat) : Nat := m / 2 ^ (8 * k)
theorem dv8_zero (m : Nat) : dv8 m 0 = m := by simp [dv8]
theorem dv8_succ (m k : Nat) : dv8 m (k + 1) = dv8 m k / 256 := by rw [dv8, dv8, pow_succ8, Nat.div_div_eq_div_mul]
theorem dv8_eq_zero (m k : Nat) : dv8 m k = 0 ↔ m < 2 ^ (8 * k) := by rw [dv8, Nat.div_eq_zero_iff]; have := Nat.two_pow_pos (8 * k); omega
theorem dv8_byte (m k : Nat) : byteAt m k = UInt8.ofNat (dv8 m k) := rfl
set_option maxRecDepth 100000 in
set_option maxHeartbeats 400000 in
theorem rbytes_ok (m s : Nat) (w : World) (h8 : s ≤ 8) (hm : m < 2 ^ 62) : Calls Tryz.prog 30 #[.int .i64 m, .int .i64 s] w fun e w' => e = .returned (.string ⟨(leL m s).toArray⟩) ∧ Below w.heap.size w w' := by
  obtain ⟨i0, hi, hz0, hz1, hz2⟩ := info_parts u8Info
  have HM := Lib.hid hm
  clear hm
  go_enter Tryz.func30, Tryz.ntmps30
  go_wp2
  go_loopw [0, 5, 6] (fun x out i wr => ∃ k : Nat, i = .int .i64 k ∧ k ≤ s ∧ x = .int .i64 (dv8 m k : Nat) ∧ wr.ownsRow w.heap.size 5 1 out k (cb (leL m k)) ∧ Below w.heap.size w wr) (fun _ _ i _ => s - (intOf i).toNat)
  case atStart =>
    exact ⟨0, rfl, Nat.zero_le _, by rw [dv8_zero], World.ownsRow_made w #[] 0 (Nat.le_refl _) (by decide) rfl, (Below.refl _ _).alloc (Nat.le_refl _) _⟩
  case round =>
    obtain ⟨k, rfl, hk, rfl, hown, hB⟩ := hrel
    by_cases hlt : (k : Int) < s
    · have hd := dv8_succ m k
      have hm62 : dv8 m k < 2 ^ 62 := Nat.lt_of_le_of_lt (Nat.div_le_self _ _) HM.out
      have hsz := hB.size
      have HN := Lib.hid (leL_succ m k)
      have hb : IntKind.u8.wrap (((dv8 m k : Nat) : Int) % 256) = ((byteAt m k).toNat : Int) := by
        rw [dv8_byte, IntKind.wrap_u8]
        simp
      obtain ⟨y, hy⟩ : ∃ y, dv8 m (k + 1) = y := ⟨_, rfl⟩
      rw [hy] at hd
      have HY := Lib.hid hy
      clear hy
      generalize byteAt m k = c at hb HN
      generalize dv8 m k = x at hd hb hm62
      have g1 : ((x : Nat) : Int) / 256 = (y : Int) := by omega
      have g2 : ((x : Nat) : Int).tdiv 256 = (y : Int) := by rw [Int.tdiv_eq_ediv_of_nonneg (by omega)]; omega
      have g3 : ((x : Nat) : Int).tmod 256 = ((x : Nat) : Int) % 256 := Int.tmod_eq_emod_of_nonneg (by omega)
      have g4 : wrap64 (y : Int) = (y : Int) := by unfold wrap64; omega
      clear hd hm62
      go_wp2_with (at_builtin; refine wpList_append_own _ rfl _ _ 77 rfl w.heap.size 5 i0 (.int .u8 0) 1 1 Tryz.underlying77 hi hz0 hz1 hz2 rfl (by decide) _ _ _ rfl (hown.alloc _) ⟨wr.heap.size, 0, none⟩ 1 1 [.int .u8 c.toNat] rfl rfl ?c1 ?c2 ?c3 ?c4 ?c5 ?_)
      case c1 => intro j u h; exact cell_one_new _ _ _ j u h
      case c2 => intro u h; rw [List.mem_singleton.1 h]; rfl
      case c3 => unfold maxLen; omega
      case c4 => omega
      case c5 => simp; omega
      intro v' w1 hown1 hgrow hnn
      have hB1 : Below w.heap.size w w1 := (hB.alloc hB.size _).grown hgrow (by simp; omega) (fun k e => (hown.lt k e).1)
      have HO : Hid (w1.ownsRow w.heap.size 5 1 v' (k + 1) (cb (leL m (k + 1))) ∧ Below w.heap.size w w1) := Lib.hid ⟨by rw [HN.out, cb_snoc]; exact hown1, hB1⟩
      clear hown1 hgrow hnn hown hB hB1
      go_wp2
      case roundEnd => exact ⟨⟨k + 1, by go_num, by omega, by rw [HY.out, g4], HO.out.1, HO.out.2⟩, by simp [intOf]; omega⟩
    · obtain rfl : k = s := by omega
      generalize dv8 m k = x
      have hcv := own_bytes_string (P := Tryz.prog) (src := 77) (dst := 9) Tryz.underlying77 Tryz.underlying5 Tryz.underlying9 hown
      go_wp2
      go_ret
      exact ⟨rfl, hB⟩
set_option maxRecDepth 100000 in
set_option maxHeartbeats 1000000 in
theorem rrep_ok (b : UInt8) (n : Int) (w : World) (hn : n ≤ 2 ^ 32) : Calls Tryz.prog 48 #[.int .u8 b.toNat, cN n] w fun e w' => e = .returned (.string (bL (List.replicate n.toNat b))) ∧ Below w.heap.size w w' := by
  obtain ⟨i0, hi, hz0, hz1, hz2⟩ := info_parts u8Info
  obtain ⟨m, hm⟩ : ∃ m, n.toNat = m := ⟨_, rfl⟩
  rw [hm]
  have hm2 : m ≤ 2 ^ 32 := by omega
  have HM := Lib.hid hm
  clear hm
  go_enter Tryz.func48, Tryz.ntmps48
  go_wp2
  go_loopw [6, 5] (fun i out wr => ∃ k : Nat, i = cN k ∧ k ≤ m ∧ wr.ownsRow w.heap.size 5 1 out k (cb (List.replicate k b)) ∧ Below w.heap.size w wr) (fun i _ _ => m - (intOf i).toNat)
  case atStart => exact ⟨0, rfl, Nat.zero_le _, World.ownsRow_made w #[] 0 (Nat.le_refl _) (by decide) rfl, (Below.refl _ _).alloc (Nat.le_refl _) _⟩
  case round =>
    obtain ⟨k, rfl, hk, hown, hB⟩ := hrel
    have hsz := hB.size
    by_cases hlt : k < m
    · have p1 : (k : Int) < n := by have := HM.out; omega
      go_wp2_with (at_builtin; refine wpList_append_own _ rfl _ _ 77 rfl w.heap.size 5 i0 (.int .u8 0) 1 1 Tryz.underlying77 hi hz0 hz1 hz2 rfl (by decide) _ _ _ rfl (hown.alloc _) ⟨wr.heap.size, 0, none⟩ 1 1 [.int .u8 b.toNat] rfl rfl ?c1 ?c2 ?c3 ?c4 ?c5 ?_)
      try case c1 => intro j u h; exact cell_one_new _ _ _ j u h
      case c2 => first | rfl | (intro u h; rw [List.mem_singleton.1 h]; rfl)
      case c3 => unfold maxLen; omega
      case c4 => omega
      case c5 => first | omega | (simp; omega)
      intro v' w1 hown1 hgrow hnn
      have hB1 : Below w.heap.size w w1 := (hB.alloc hB.size _).grown hgrow (by simp; omega) (fun k e => (hown.lt k e).1)
      have HO : Hid (w1.ownsRow w.heap.size 5 1 v' (k + 1) (cb (List.replicate (k + 1) b)) ∧ Below w.heap.size w w1) := Lib.hid ⟨by rw [List.replicate_succ', cb_snoc]; exact hown1, hB1⟩
      clear hown1 hgrow hnn hown hB hB1
      go_wp2
      go_roundw
      case rel => exact ⟨k + 1, by go_num, by omega, HO.out.1, HO.out.2⟩
      case measure => simp [intOf]; omega
    · obtain rfl : k = m := by omega
      have p1 : ¬ (k : Int) < n := by have := HM.out; omega
      have hcv := own_bytes_string (P := Tryz.prog) (src := 77) (dst := 9) Tryz.underlying77 Tryz.underlying5 Tryz.underlying9 hown
      clear hown
      go_wp2
      go_ret
      exact ⟨rfl, hB⟩
end Go.Proofs.YtocncjimepnlcaaGreat
