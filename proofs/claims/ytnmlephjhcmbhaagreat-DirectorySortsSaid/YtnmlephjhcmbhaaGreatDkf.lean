/- cmp.Or of two numbers; directory.Compare. -/
import Derived.Test.YtnmlephjhcmbhaaGreatDke
namespace Go.Proofs.YtnmlephjhcmbhaaGreat
set_option linter.unusedSimpArgs false
set_option linter.unusedVariables false
open Go Go.RowKit
set_option maxRecDepth 100000 in
set_option maxHeartbeats 400000 in
theorem or2_ok (g : Nat) (x y : Int) (w : World) (h0 : w.cell? ⟨g, 0, none⟩ = some (cN x)) (h1 : w.cell? ⟨g, 1, none⟩ = some (cN y)) :
    Calls Tryz.prog 36 #[.slice (some ⟨g, 0, none⟩) 2 2] w fun e w' => e = .returned (cN (orI x y)) ∧ Below w.heap.size w w' := by
  unfold orI
  by_cases hx : x = 0
  · subst hx
    rw [if_pos rfl]
    by_cases hy : y = 0
    · subst hy
      go_enter Tryz.func36, Tryz.ntmps36
      go_wp2
      go_loopw [8, 5] (fun i _ wr => ∃ k : Nat, k ≤ 2 ∧ i = cN k ∧ wr = w) (fun i _ _ => 2 - (intOf i).toNat)
      case atStart => exact ⟨0, by omega, rfl, by trivial⟩
      case round =>
        obtain ⟨k, hk, rfl, rfl⟩ := hrel
        have hk3 : k = 0 ∨ k = 1 ∨ k = 2 := by omega
        rcases hk3 with rfl | rfl | rfl
        · go_wp2
          go_roundw
          case rel => exact ⟨1, by omega, by go_num, by trivial⟩
          case measure => simp [intOf]
        · go_wp2
          go_roundw
          case rel => exact ⟨2, by omega, by go_num, by trivial⟩
          case measure => simp [intOf]
        · go_wp2
          go_ret
          exact ⟨rfl, Below.refl _ _⟩
    · have g1 : (y != 0) = true := by simpa using hy
      go_enter Tryz.func36, Tryz.ntmps36
      go_wp2
      go_loopw [8, 5] (fun i _ wr => ∃ k : Nat, k ≤ 1 ∧ i = cN k ∧ wr = w) (fun i _ _ => 2 - (intOf i).toNat)
      case atStart => exact ⟨0, by omega, rfl, by trivial⟩
      case round =>
        obtain ⟨k, hk, rfl, rfl⟩ := hrel
        have hk3 : k = 0 ∨ k = 1 := by omega
        rcases hk3 with rfl | rfl
        · go_wp2
          go_roundw
          case rel => exact ⟨1, by omega, by go_num, by trivial⟩
          case measure => simp [intOf]
        · go_wp2
          go_ret
          exact ⟨rfl, Below.refl _ _⟩
  · rw [if_neg hx]
    have g1 : (x != 0) = true := by simpa using hx
    go_enter Tryz.func36, Tryz.ntmps36
    go_wp2
    go_loopw [8, 5] (fun i _ wr => i = cN 0 ∧ wr = w) (fun i _ _ => 2 - (intOf i).toNat)
    case atStart => exact ⟨rfl, by trivial⟩
    case round =>
      obtain ⟨rfl, rfl⟩ := hrel
      go_wp2
      go_ret
      exact ⟨rfl, Below.refl _ _⟩
theorem cmpI_ok (x y : Int) (w : World) : Calls Tryz.prog 32 #[.int .i64 x, .int .i64 y] w fun e w' => e = .returned (cN (cmpI x y)) ∧ w = w' :=
  (Tryz.cmp_Compare_int x y w).mono fun _ _ ⟨he, hw⟩ => ⟨he, hw.symm⟩
theorem compareBytes_lexc : ∀ a b : List UInt8, a.length = b.length → Lib.compareBytes a b = lexc a b
  | [], [], _ => by rw [Lib.compareBytes, lexc]; simp
  | x :: a, y :: b, h => by
    rw [Lib.compareBytes, lexc, compareBytes_lexc a b (by simpa using h)]
    unfold cmpB
    simp only [UInt8.lt_iff_toNat_lt]
    split
    · rw [if_neg (by decide)]
    · split
      · rw [if_neg (by decide)]
      · rw [if_pos rfl]
theorem repeat_zeros (n : Nat) : Lib.repeatL [48] n = List.replicate n 48 := by
  induction n with
  | zero => rfl
  | succ n ih => rw [Lib.repeatL, ih, List.replicate_succ]; rfl
theorem rep_ok (n : Nat) (w : World) (hn : n ≤ 2 ^ 40) : Calls Tryz.prog 28 #[.string ⟨#[48]⟩, .int .i64 n] w fun e w' => e = .returned (.string (bL (List.replicate n 48))) ∧ Below w.heap.size w w' := by
  refine (Tryz.strings_Repeat ⟨#[48]⟩ n w (by omega) (by show 1 * n ≤ _; omega)).mono ?_
  rintro e w' ⟨rfl, hB⟩
  exact ⟨by rw [← repeat_zeros]; rfl, hB⟩
theorem bL_app (a b : List UInt8) : bL a ++ bL b = bL (a ++ b) := by
  apply ByteArray.ext
  apply Array.toList_inj.1
  simp [bL]
theorem bL_cut (a : List UInt8) (i : Nat) : (bL a).extract i (bL a).size = bL (a.drop i) := by rw [ext_drop, bL_list]
set_option maxRecDepth 100000 in
set_option maxHeartbeats 1000000 in
theorem cmp_special (a b : ByteArray) (wide : Bool) (w : World) (h : rankM a.data.toList < 2 ∨ rankM b.data.toList < 2) :
    Calls Tryz.prog 11 #[.string a, .string b, .bool wide] w fun e w' => e = .returned (cN (cmpM a.data.toList b.data.toList wide)) ∧ Below w.heap.size w w' := by
  unfold cmpM
  rw [if_pos h]
  have c1 := fun W => rank_ok a W
  have c2 := fun W => rank_ok b W
  have ha := rankM_le a.data.toList
  have hb := rankM_le b.data.toList
  obtain ⟨x, hx⟩ : ∃ x, rankM a.data.toList = x := ⟨_, rfl⟩
  obtain ⟨y, hy⟩ : ∃ y, rankM b.data.toList = y := ⟨_, rfl⟩
  rw [hx] at c1 h ha ⊢
  rw [hy] at c2 h hb ⊢
  have c3 := fun W => cmpI_ok (x : Int) (y : Int) W
  clear hx hy
  obtain ⟨c, hc⟩ : ∃ c, cmpI (x : Int) (y : Int) = c := ⟨_, rfl⟩
  rw [hc] at c3 ⊢
  by_cases hc0 : c = 0
  · subst hc0
    have hx2 : (x : Int) < 2 := by
      unfold cmpI at hc
      split at hc
      · cases hc
      · split at hc
        · cases hc
        · omega
    clear hc
    go_enter Tryz.func11, Tryz.ntmps11
    go_wp2_with fail
    with_reducible refine (c1 _).mono ?_
    rintro e w1 ⟨rfl, rfl⟩
    go_wp2_with fail
    with_reducible refine (c2 _).mono ?_
    rintro e w1 ⟨rfl, rfl⟩
    go_wp2_with fail
    with_reducible refine (c3 _).mono ?_
    rintro e w1 ⟨rfl, rfl⟩
    go_wp2_with fail
    with_reducible refine (c1 _).mono ?_
    rintro e w1 ⟨rfl, rfl⟩
    go_wp2
    go_ret
    exact ⟨rfl, Below.refl _ _⟩
  · have g1 : (c != 0) = true := by simpa using hc0
    clear hc
    go_enter Tryz.func11, Tryz.ntmps11
    go_wp2_with fail
    with_reducible refine (c1 _).mono ?_
    rintro e w1 ⟨rfl, rfl⟩
    go_wp2_with fail
    with_reducible refine (c2 _).mono ?_
    rintro e w1 ⟨rfl, rfl⟩
    go_wp2_with fail
    with_reducible refine (c3 _).mono ?_
    rintro e w1 ⟨rfl, rfl⟩
    go_wp2
    go_ret
    exact ⟨rfl, Below.refl _ _⟩
theorem rank_two {a : ByteArray} (h : ¬ rankM a.data.toList < 2) (W : World) : Calls Tryz.prog 33 #[.string a] W fun e w' => e = .returned (cN 2) ∧ W = w' := by
  have := rank_ok a W
  rw [show rankM a.data.toList = 2 by have := rankM_le a.data.toList; omega] at this
  exact this
set_option maxRecDepth 100000 in
set_option maxHeartbeats 1000000 in
theorem cmp_wide (a b : ByteArray) (w : World) (h : ¬ (rankM a.data.toList < 2 ∨ rankM b.data.toList < 2)) (ha : a.size < 2 ^ 62) (hb : b.size < 2 ^ 62) :
    Calls Tryz.prog 11 #[.string a, .string b, .bool true] w fun e w' => e = .returned (cN (cmpM a.data.toList b.data.toList true)) ∧ Below w.heap.size w w' := by
  unfold cmpM
  rw [if_neg h]
  simp only [↓reduceIte]
  have c1 := fun W => rank_two (a := a) (fun k => h (.inl k)) W
  have c2 := fun W => rank_two (a := b) (fun k => h (.inr k)) W
  have c3 : ∀ W, Calls Tryz.prog 32 #[cN 2, cN 2] W fun e w' => e = .returned (cN 0) ∧ W = w' := fun W => cmpI_ok 2 2 W
  have c4 : ∀ W, Calls Tryz.prog 34 #[.string a, .string b, .int .u8 0] W fun e w' => e = .returned (.int .i64 (behM 0 a.data.toList b.data.toList)) ∧ Below W.heap.size W w' := fun W => beh_ok a b 0 W ha hb
  clear h
  go_enter Tryz.func11, Tryz.ntmps11
  go_wp2_with fail
  with_reducible refine (c1 _).mono ?_
  rintro e w1 ⟨rfl, rfl⟩
  go_wp2_with fail
  with_reducible refine (c2 _).mono ?_
  rintro e w1 ⟨rfl, rfl⟩
  go_wp2_with fail
  with_reducible refine (c3 _).mono ?_
  rintro e w1 ⟨rfl, rfl⟩
  go_wp2_with fail
  with_reducible refine (c1 _).mono ?_
  rintro e w1 ⟨rfl, rfl⟩
  go_wp2_with fail
  with_reducible refine (c4 _).mono ?_
  rintro e w1 ⟨rfl, hB⟩
  go_wp2
  go_ret
  exact ⟨rfl, hB⟩
set_option maxRecDepth 100000 in
set_option maxHeartbeats 2000000 in
theorem cmp_plain (a b : ByteArray) (w : World) (h : ¬ (rankM a.data.toList < 2 ∨ rankM b.data.toList < 2)) (ha : a.size < 2 ^ 31) (hb : b.size < 2 ^ 31) :
    Calls Tryz.prog 11 #[.string a, .string b, .bool false] w fun e w' => e = .returned (cN (cmpM a.data.toList b.data.toList false)) ∧ Below w.heap.size w w' := by
  unfold cmpM
  rw [if_neg h]
  simp only [Bool.false_eq_true, ↓reduceIte]
  have c1 := fun W => rank_two (a := a) (fun k => h (.inl k)) W
  have c2 := fun W => rank_two (a := b) (fun k => h (.inr k)) W
  have c3 : ∀ W, Calls Tryz.prog 32 #[cN 2, cN 2] W fun e w' => e = .returned (cN 0) ∧ W = w' := fun W => cmpI_ok 2 2 W
  have c4 := fun W => parts_ok a W (by omega)
  have c5 := fun W => parts_ok b W (by omega)
  have n1 := nameL_len a.data.toList; have n2 := extL_len a.data.toList; have n3 := verL_len a.data.toList
  have m1 := nameL_len b.data.toList; have m2 := extL_len b.data.toList; have m3 := verL_len b.data.toList
  rw [list_size] at n1 n2 n3 m1 m2 m3
  unfold nmC
  obtain ⟨an, han⟩ : ∃ x, nameL a.data.toList = x := ⟨_, rfl⟩
  obtain ⟨ae, hae⟩ : ∃ x, extL a.data.toList = x := ⟨_, rfl⟩
  obtain ⟨av, hav⟩ : ∃ x, verL a.data.toList = x := ⟨_, rfl⟩
  obtain ⟨bn, hbn⟩ : ∃ x, nameL b.data.toList = x := ⟨_, rfl⟩
  obtain ⟨be, hbe⟩ : ∃ x, extL b.data.toList = x := ⟨_, rfl⟩
  obtain ⟨bv, hbv⟩ : ∃ x, verL b.data.toList = x := ⟨_, rfl⟩
  rw [han, hae, hav] at c4 ⊢
  rw [hbn, hbe, hbv] at c5 ⊢
  rw [han] at n1; rw [hae] at n2; rw [hav] at n3; rw [hbn] at m1; rw [hbe] at m2; rw [hbv] at m3
  clear han hae hav hbn hbe hbv h
  have c6 : ∀ W, Calls Tryz.prog 34 #[.string (bL an), .string (bL bn), .int .u8 32] W fun e w' => e = .returned (.int .i64 (behM 32 an bn)) ∧ Below W.heap.size W w' := fun W => by
    have := beh_ok (bL an) (bL bn) 32 W (by rw [bL_size]; omega) (by rw [bL_size]; omega)
    rw [bL_list, bL_list] at this
    exact this
  have c7 : ∀ W, Calls Tryz.prog 34 #[.string (bL ae), .string (bL be), .int .u8 32] W fun e w' => e = .returned (.int .i64 (behM 32 ae be)) ∧ Below W.heap.size W w' := fun W => by
    have := beh_ok (bL ae) (bL be) 32 W (by rw [bL_size]; omega) (by rw [bL_size]; omega)
    rw [bL_list, bL_list] at this
    exact this
  obtain ⟨x, hx⟩ : ∃ x, behM 32 an bn = x := ⟨_, rfl⟩
  obtain ⟨y, hy⟩ : ∃ x, behM 32 ae be = x := ⟨_, rfl⟩
  rw [hx] at c6 ⊢
  rw [hy] at c7 ⊢
  clear hx hy
  have c8 := fun (g : Nat) (W : World) h0 h1 => or2_ok g x y W h0 h1
  obtain ⟨z, hz⟩ : ∃ z, orI x y = z := ⟨_, rfl⟩
  rw [hz] at c8 ⊢
  clear hz
  have p1 := bL_size av
  have p2 := bL_size bv
  have c9 : ∀ W, Calls Tryz.prog 28 #[.string ⟨#[48]⟩, .int .i64 (max ((bL av).size : Int) (bL bv).size)] W fun e w' => e = .returned (.string (bL (List.replicate (max av.length bv.length) 48))) ∧ Below W.heap.size W w' := fun W => by
    rw [p1, p2, show max (av.length : Int) bv.length = ((max av.length bv.length : Nat) : Int) by omega]
    exact rep_ok _ W (by omega)
  have p3 : (bL (List.replicate (max av.length bv.length) 48)).size = max av.length bv.length := by rw [bL_size, List.length_replicate]
  have c10 : ∀ W, Calls Tryz.prog 37 #[.string ((bL (List.replicate (max av.length bv.length) 48)).extract (bL bv).size (bL (List.replicate (max av.length bv.length) 48)).size ++ bL bv), .string ((bL (List.replicate (max av.length bv.length) 48)).extract (bL av).size (bL (List.replicate (max av.length bv.length) 48)).size ++ bL av)] W fun e w' => e = .returned (cN (verC av bv)) ∧ w' = W := fun W => by
    rw [bL_cut, bL_cut, bL_app, bL_app, p1, p2, List.drop_replicate, List.drop_replicate]
    have := Tryz.strings_Compare (bL (padL (max av.length bv.length) 48 bv)) (bL (padL (max av.length bv.length) 48 av)) W
    rw [bL_list, bL_list, compareBytes_lexc _ _ (by rw [padL_len (by omega), padL_len (by omega)])] at this
    exact this
  have p4 : (bL av).size ≤ max av.length bv.length := by rw [p1]; omega
  have p5 : (bL bv).size ≤ max av.length bv.length := by rw [p2]; omega
  obtain ⟨v, hv⟩ : ∃ v, verC av bv = v := ⟨_, rfl⟩
  rw [hv] at c10 ⊢
  have p6 : max av.length bv.length < 2 ^ 32 := by omega
  obtain ⟨n, hn⟩ : ∃ n, max av.length bv.length = n := ⟨_, rfl⟩
  rw [hn] at c9 c10 p3 p4 p5 p6
  obtain ⟨zs, hzs⟩ : ∃ zs, bL (List.replicate n 48) = zs := ⟨_, rfl⟩
  rw [hzs] at c9 c10 p3
  clear hn hv hzs p1 p2 n3 m3
  obtain ⟨sv, hsv⟩ : ∃ sv, bL av = sv := ⟨_, rfl⟩
  obtain ⟨tv, htv⟩ : ∃ sv, bL bv = sv := ⟨_, rfl⟩
  rw [hsv] at c4 c9 c10 p4
  rw [htv] at c5 c9 c10 p5
  clear hsv htv
  by_cases hz0 : z = 0
  · subst hz0
    rw [orI, if_pos rfl]
    have q1 : (sv.size : Int) ≤ zs.size := by omega
    have q2 : (tv.size : Int) ≤ zs.size := by omega
    have q3 : (0 : Int) ≤ (sv.size : Int) := by omega
    have q4 : (0 : Int) ≤ (tv.size : Int) := by omega
    have q5 : sv.size ≤ zs.size := by omega
    have q6 : tv.size ≤ zs.size := by omega
    have r6 : ¬ (9223372036854775807 < zs.size) := by omega
    clear p3 p4 p5 p6
    go_enter Tryz.func11, Tryz.ntmps11
    go_wp2_with fail
    with_reducible refine (c1 _).mono ?_
    rintro e w1 ⟨rfl, rfl⟩
    go_wp2_with fail
    with_reducible refine (c2 _).mono ?_
    rintro e w1 ⟨rfl, rfl⟩
    go_wp2_with fail
    with_reducible refine (c3 _).mono ?_
    rintro e w1 ⟨rfl, rfl⟩
    go_wp2_with fail
    with_reducible refine (c1 _).mono ?_
    rintro e w1 ⟨rfl, rfl⟩
    go_wp2_with fail
    with_reducible refine (c4 _).mono ?_
    rintro e w2 ⟨rfl, hB2⟩
    go_wp2_with fail
    with_reducible refine (c5 _).mono ?_
    rintro e w3 ⟨rfl, hB3⟩
    go_wp2_with fail
    with_reducible refine (c6 _).mono ?_
    rintro e w4 ⟨rfl, hB4⟩
    go_wp2_with fail
    with_reducible refine (c7 _).mono ?_
    rintro e w5 ⟨rfl, hB5⟩
    go_wp2_with fail
    with_reducible refine (c8 _ _ (Lib.cell_of_heap (World.alloc_heap_new _ _) 0) (Lib.cell_of_heap (World.alloc_heap_new _ _) 1)).mono ?_
    rintro e w6 ⟨rfl, hB6⟩
    go_wp2_with fail
    with_reducible refine (c9 _).mono ?_
    rintro e w7 ⟨rfl, hB7⟩
    go_wp2
    refine region_sch (fun w' => w' = w7.drew) [(true, 0), (true, 1), (true, 2), (true, 3), (true, 4), (true, 5), (true, 6), (true, 7), (true, 8), (true, 9), (true, 10), (true, 11)] [12, 13] (by kernel_rfl) (by kernel_rfl) (by rintro ⟨_, _, h, _⟩; cases h) (fun _ _ d _ _ h => by cases d <;> exact h) rfl ?_
    simp only [pickM, pickT, List.filterMap_cons, List.filterMap_nil, List.getElem?_cons_zero, List.getElem?_cons_succ, Option.map_some]
    repeat (refine m_float ⟨?_, .inl ⟨?_, .inl ?_⟩, fun K' hK => ?_⟩; rotate_left; (first | rfl | (go_simp; done)); (intro w' hS; subst hS; go_simp; try rfl); (simp only [Act.put, List.setIfInBounds_toArray, List.set_cons_succ, List.set_cons_zero]; refine hK _ ?_; clear hK K'))
    refine m_nil ?_
    show wpList Tryz.prog _ _ (List.cons _ _) _ _
    go_wp2_with fail
    with_reducible refine (c10 _).mono ?_
    rintro e w8 ⟨rfl, rfl⟩
    go_wp2
    go_ret
    exact ⟨rfl, (bthen (bthen (bald (bthen (bthen (bthen hB2 hB3) hB4) hB5) _) hB6) hB7).drew⟩
  · rw [orI, if_neg hz0]
    have g1 : (z != 0) = true := by simpa using hz0
    go_enter Tryz.func11, Tryz.ntmps11
    go_wp2_with fail
    with_reducible refine (c1 _).mono ?_
    rintro e w1 ⟨rfl, rfl⟩
    go_wp2_with fail
    with_reducible refine (c2 _).mono ?_
    rintro e w1 ⟨rfl, rfl⟩
    go_wp2_with fail
    with_reducible refine (c3 _).mono ?_
    rintro e w1 ⟨rfl, rfl⟩
    go_wp2_with fail
    with_reducible refine (c1 _).mono ?_
    rintro e w1 ⟨rfl, rfl⟩
    go_wp2_with fail
    with_reducible refine (c4 _).mono ?_
    rintro e w2 ⟨rfl, hB2⟩
    go_wp2_with fail
    with_reducible refine (c5 _).mono ?_
    rintro e w3 ⟨rfl, hB3⟩
    go_wp2_with fail
    with_reducible refine (c6 _).mono ?_
    rintro e w4 ⟨rfl, hB4⟩
    go_wp2_with fail
    with_reducible refine (c7 _).mono ?_
    rintro e w5 ⟨rfl, hB5⟩
    go_wp2_with fail
    with_reducible refine (c8 _ _ (Lib.cell_of_heap (World.alloc_heap_new _ _) 0) (Lib.cell_of_heap (World.alloc_heap_new _ _) 1)).mono ?_
    rintro e w6 ⟨rfl, hB6⟩
    go_wp2
    go_ret
    exact ⟨rfl, bthen (bald (bthen (bthen (bthen hB2 hB3) hB4) hB5) _) hB6⟩
theorem cmp_ok (a b : ByteArray) (wide : Bool) (w : World) (ha : a.size < 2 ^ 31) (hb : b.size < 2 ^ 31) :
    Calls Tryz.prog 11 #[.string a, .string b, .bool wide] w fun e w' => e = .returned (cN (cmpM a.data.toList b.data.toList wide)) ∧ Below w.heap.size w w' := by
  by_cases h : rankM a.data.toList < 2 ∨ rankM b.data.toList < 2
  · exact cmp_special a b wide w h
  · cases wide
    · exact cmp_plain a b w h ha hb
    · exact cmp_wide a b w h (by omega) (by omega)
end Go.Proofs.YtnmlephjhcmbhaaGreat
