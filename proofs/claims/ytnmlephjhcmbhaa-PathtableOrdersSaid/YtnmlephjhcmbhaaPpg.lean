/- pathtable.Size, Same of the reference; endian.Little and Big. -/
import Derived.Test.YtnmlephjhcmbhaaPpa
namespace Go.Proofs.Ytnmlephjhcmbhaa
set_option linter.unusedSimpArgs false
set_option linter.unusedVariables false
open Go Go.RowKit
def szP (x : PE) : Nat := 8 + (x.id.size + 1) / 2 * 2
def sizeM (l : List PE) : Nat := (l.map szP).sum
theorem sizeM_snoc (l : List PE) (x : PE) : sizeM (l ++ [x]) = sizeM l + szP x := by simp [sizeM]
theorem take_snocP (l : List PE) (k : Nat) (hk : k < l.length) : l.take (k + 1) = l.take k ++ [l.getD k peD] := by
  rw [List.take_succ_eq_append_getElem hk, List.getD_eq_getElem?_getD, List.getElem?_eq_getElem hk, Option.getD_some]
set_option maxRecDepth 100000 in
set_option maxHeartbeats 1000000 in
theorem psize_ok (a : Option Addr) (c : Nat) (l : List PE) (w : World) (hl : l.length ≤ 2000) (hsz : ∀ x ∈ l, x.id.size ≤ 1000) (hrow : RowP w a l) :
    Calls Try.prog 43 #[.slice a l.length c] w fun e w' => e = .returned (cN (sizeM l)) ∧ Below w.heap.size w w' := by
  have HR := Lib.hid hrow
  have HZ := Lib.hid hsz
  clear hrow hsz
  go_enter Try.func43, Try.ntmps43
  go_wp2
  go_loopw [8, 3, 5] (fun i n _ wr => ∃ k m : Nat, i = cN k ∧ n = cN m ∧ k ≤ l.length ∧ m = sizeM (l.take k) ∧ m ≤ k * 1010 ∧ Below w.heap.size w wr) (fun i _ _ _ => l.length - (intOf i).toNat)
  case atStart => exact ⟨0, 0, rfl, rfl, Nat.zero_le _, rfl, Nat.le_refl _, Below.refl _ w⟩
  case round =>
    obtain ⟨k, m, rfl, rfl, hk, hm, hmk, hB⟩ := hrel
    have HM := Lib.hid hm
    have HB := Lib.hid hB
    clear hm
    by_cases hlt : (k : Int) < (l.length : Int)
    · have hkl : k < l.length := by omega
      obtain ⟨b, off, rfl, hb, hc⟩ := HR.out k hkl
      obtain ⟨x, hx⟩ : ∃ x, l.getD k peD = x := ⟨_, rfl⟩
      rw [hx] at hc
      obtain ⟨q0, q1, q2⟩ := hc.below hb hB
      have hmx : x ∈ l := by rw [← hx, List.getD_eq_getElem?_getD, List.getElem?_eq_getElem hkl, Option.getD_some]; exact List.getElem_mem hkl
      have hz := HZ.out x hmx
      have HX := Lib.hid hx
      obtain ⟨s, hs⟩ : ∃ s, x.id.size = s := ⟨_, rfl⟩
      obtain ⟨q, hq⟩ : ∃ q, (s + 1) / 2 = q := ⟨_, rfl⟩
      have e1 : Int.tdiv ((x.id.size : Int) + 1) 2 = (q : Int) := by rw [Int.tdiv_eq_ediv_of_nonneg (by omega)]; omega
      have hq2 : q ≤ 501 := by omega
      have HP := Lib.hid (show szP x = 8 + q * 2 by rw [szP, hs, hq])
      have hsm : (x.id.size : Int) ≤ 1000 := by omega
      clear hx hc hmx hs hq hB
      go_wp2
      go_roundw
      case rel => exact ⟨k + 1, m + (8 + q * 2), by go_num, num_eq (by omega), by omega, by rw [take_snocP l k hkl, sizeM_snoc, HX.out, HP.out, HM.out], by omega, bald HB.out _⟩
      case measure => simp [intOf]; omega
    · obtain rfl : k = l.length := by omega
      have HE := Lib.hid (show m = sizeM l by rw [HM.out, List.take_length])
      clear hB
      go_wp2
      go_ret
      exact ⟨by rw [← HE.out]; rfl, HB.out⟩
def peEq (a b : PE) : Bool := a.id.toList == b.id.toList && (a.lba == b.lba && a.par == b.par)
theorem peHeld : Try.prog.stoodInHeld 63 = false := by kernel_rfl
theorem pe_equal (a b : PE) (w : World) : (Op.equalIn 10000 63 (.agg (peA a)) (.agg (peA b))).run Try.prog w = .ok (peEq a b) w := by
  rw [run_equalIn_agg w 9999 63 _ _ (by simp [Program.fieldsOf, Try.underlying63]) peHeld]
  simp only [Program.fieldsOf, Try.underlying63]
  rw [peEq, show (a.par == b.par) = ((a.par == b.par) && true) by simp]
  refine eqFs (by decide) plain9 Try.underlying9 rfl rfl ?_
  refine eqFi (by decide) plain3 Try.underlying3 rfl rfl ?_
  refine eqFi (by decide) plain3 Try.underlying3 rfl rfl ?_
  simp [Op.eqFields]
theorem pe_neq (a b : PE) (w : World) : (binOp .neq 63 (.agg (peA a)) (.agg (peA b))).run Try.prog w = .ok (.bool (!peEq a b)) w := by
  rw [run_neq_struct, pe_equal]
  rfl
theorem peEq_iff (a b : PE) : peEq a b = true ↔ a = b := by
  obtain ⟨i1, l1, n1⟩ := a
  obtain ⟨i2, l2, n2⟩ := b
  simp only [peEq, Bool.and_eq_true, beq_iff_eq, bytes_toList, PE.mk.injEq]
theorem peGuard : Try.prog.eqGuardType Try.prog.depth 63 = false := by kernel_rfl
def pesEq : List PE → List PE → Bool
  | [], [] => true
  | a :: l, b :: m => peEq a b && pesEq l m
  | _, _ => false
theorem pesEq_iff : ∀ l m : List PE, pesEq l m = true ↔ l = m
  | [], [] => by simp [pesEq]
  | [], b :: m => by simp [pesEq]
  | a :: l, [] => by simp [pesEq]
  | a :: l, b :: m => by rw [pesEq, Bool.and_eq_true, peEq_iff, pesEq_iff l m, List.cons.injEq]
theorem pesEq_len : ∀ l m : List PE, l.length ≠ m.length → pesEq l m = false
  | [], [], h => absurd rfl h
  | [], b :: m, _ => by simp [pesEq]
  | a :: l, [], _ => by simp [pesEq]
  | a :: l, b :: m, h => by rw [pesEq, pesEq_len l m (by simpa using h), Bool.and_false]
theorem pesEq_step (l m : List PE) (k : Nat) (h1 : k < l.length) (h2 : k < m.length) : pesEq (l.drop k) (m.drop k) = (peEq (l.getD k peD) (m.getD k peD) && pesEq (l.drop (k + 1)) (m.drop (k + 1))) := by
  rw [List.drop_eq_getElem_cons h1, List.drop_eq_getElem_cons h2, pesEq]
  simp [List.getD_eq_getElem?_getD, h1, h2]
set_option maxRecDepth 100000 in
set_option maxHeartbeats 2000000 in
theorem psame_ok (a1 : Option Addr) (c1 : Nat) (l : List PE) (a2 : Option Addr) (c2 : Nat) (m : List PE) (w : World) (hl : l.length ≤ 2 ^ 50) (h1 : RowP w a1 l) (h2 : RowP w a2 m) :
    Calls Try.prog 35 #[.slice a1 l.length c1, .slice a2 m.length c2] w fun e w' => e = .returned (.bool (pesEq l m)) ∧ Below w.heap.size w w' := by
  by_cases hlm : l.length = m.length
  · have HR1 := Lib.hid h1
    have HR2 := Lib.hid h2
    have HL := Lib.hid hlm
    have hq : ((l.length : Int) != (m.length : Int)) = false := by rw [hlm]; simp
    clear h1 h2 hlm
    go_enter Try.func35, Try.ntmps35
    go_wp2
    go_loopw [5] (fun i wr => ∃ k : Nat, i = cN k ∧ k ≤ l.length ∧ pesEq (l.drop k) (m.drop k) = pesEq l m ∧ Below w.heap.size w wr) (fun i _ => l.length - (intOf i).toNat)
    case atStart => exact ⟨0, rfl, Nat.zero_le _, rfl, Below.refl _ w⟩
    case round =>
      obtain ⟨k, rfl, hk, hE, hB⟩ := hrel
      have HE := Lib.hid hE
      have HB := Lib.hid hB
      clear hE
      by_cases hlt : (k : Int) < (l.length : Int)
      · have hkl : k < l.length := by omega
        have hkm : k < m.length := by have := HL.out; omega
        have hltm : (k : Int) < (m.length : Int) := by omega
        obtain ⟨b1, o1, rfl, hb1, hc1⟩ := HR1.out k hkl
        obtain ⟨b2, o2, rfl, hb2, hc2⟩ := HR2.out k hkm
        have hs := pesEq_step l m k hkl hkm
        obtain ⟨x, hx⟩ : ∃ x, l.getD k peD = x := ⟨_, rfl⟩
        obtain ⟨y, hy⟩ : ∃ y, m.getD k peD = y := ⟨_, rfl⟩
        rw [hx] at hc1 hs
        rw [hy] at hc2 hs
        obtain ⟨p0, p1, p2⟩ := hc1.below hb1 hB
        obtain ⟨q0, q1, q2⟩ := hc2.below hb2 hB
        have HS := Lib.hid hs
        have hm := peGuard
        have he := fun W => pe_neq x y W
        have he2 := fun W => pe_equal x y W
        clear hx hy hc1 hc2 hs hB
        cases hv : peEq x y
        · rw [hv] at he he2
          have HV := Lib.hid hv
          clear hv
          go_wp2
          refine region_sch (fun w' => w' = wr.drew) [(true, 0), (true, 1), (true, 2), (true, 3), (true, 4), (true, 5), (true, 6), (true, 7)] [8] (by kernel_rfl) (by kernel_rfl) (by rintro ⟨_, _, h, _⟩; cases h) (fun _ _ d _ _ h => by cases d <;> exact h) rfl ?_
          simp only [pickM, pickT, List.filterMap_cons, List.filterMap_nil, List.getElem?_cons_zero, List.getElem?_cons_succ, Option.map_some]
          repeat (refine m_float ⟨?_, .inl ⟨?_, .inl ?_⟩, fun K' hK => ?_⟩; rotate_left; (first | rfl | (go_simp; done)); (intro w' hS; subst hS; go_simp; try rfl); (simp only [Act.put, List.setIfInBounds_toArray, List.set_cons_succ, List.set_cons_zero]; refine hK _ ?_; clear hK K'))
          refine m_nil ?_
          show wpList Try.prog _ _ (List.cons _ _) _ _
          go_wp2
          go_ret
          exact ⟨by rw [← HE.out, HS.out, HV.out]; rfl, HB.out.drew⟩
        · rw [hv] at he he2
          have HV := Lib.hid hv
          clear hv
          go_wp2
          refine region_sch (fun w' => w' = wr.drew) [(true, 0), (true, 1), (true, 2), (true, 3), (true, 4), (true, 5), (true, 6), (true, 7)] [8] (by kernel_rfl) (by kernel_rfl) (by rintro ⟨_, _, h, _⟩; cases h) (fun _ _ d _ _ h => by cases d <;> exact h) rfl ?_
          simp only [pickM, pickT, List.filterMap_cons, List.filterMap_nil, List.getElem?_cons_zero, List.getElem?_cons_succ, Option.map_some]
          repeat (refine m_float ⟨?_, .inl ⟨?_, .inl ?_⟩, fun K' hK => ?_⟩; rotate_left; (first | rfl | (go_simp; done)); (intro w' hS; subst hS; go_simp; try rfl); (simp only [Act.put, List.setIfInBounds_toArray, List.set_cons_succ, List.set_cons_zero]; refine hK _ ?_; clear hK K'))
          refine m_nil ?_
          show wpList Try.prog _ _ (List.cons _ _) _ _
          go_wp2
          go_roundw
          case rel => exact ⟨k + 1, by go_num, by omega, by rw [← HE.out, HS.out, HV.out, Bool.true_and], HB.out.drew⟩
          case measure => simp [intOf]; omega
      · obtain rfl : k = l.length := by omega
        have HF := Lib.hid (show pesEq l m = true by rw [← HE.out, List.drop_length, HL.out, List.drop_length]; rfl)
        clear hB
        go_wp2
        go_ret
        exact ⟨by rw [HF.out]; rfl, HB.out⟩
  · rw [pesEq_len l m hlm]
    have hq : ((l.length : Int) != (m.length : Int)) = true := by simp; omega
    clear h1 h2 hlm
    go_enter Try.func35, Try.ntmps35
    go_wp2
    go_ret
    exact ⟨rfl, Below.refl _ w⟩
set_option maxRecDepth 100000 in
set_option maxHeartbeats 400000 in
theorem check_ok (n : Int) (s : Nat) (w : World) (hs : s = 2 ∨ s = 4) : Calls Try.prog 133 #[cN n, cN s] w fun e w' => e = .returned (cN (if 0 ≤ n ∧ n < 2 ^ (8 * s) then 0 else 2)) ∧ w' = w := by
  have c2 := fun W => fits_ok n s W (by omega) (by omega)
  have g1 : ¬ (s : Int) < 1 := by omega
  have g2 : ¬ (8 : Int) < (s : Int) := by omega
  by_cases h : 0 ≤ n ∧ n < 2 ^ (8 * s)
  · rw [if_pos h]
    rw [decide_eq_true h] at c2
    clear h hs
    go_enter Try.func133, Try.ntmps133
    go_wp2_with fail
    with_reducible refine (c2 _).mono ?_
    rintro e w1 ⟨rfl, rfl⟩
    go_wp2
    go_ret
    exact ⟨rfl, by trivial⟩
  · rw [if_neg h]
    rw [decide_eq_false h] at c2
    clear h hs
    go_enter Try.func133, Try.ntmps133
    go_wp2_with fail
    with_reducible refine (c2 _).mono ?_
    rintro e w1 ⟨rfl, rfl⟩
    go_wp2
    go_ret
    exact ⟨rfl, by trivial⟩
/-- The bytes of a number, the least first; in either order. -/
def numB (n : Int) (s : Nat) (big : Bool) : ByteArray := if 0 ≤ n ∧ n < 2 ^ (8 * s) then ⟨(if big then (leL n.toNat s).reverse else leL n.toNat s).toArray⟩ else ByteArray.empty
def numE (n : Int) (s : Nat) : Int := if 0 ≤ n ∧ n < 2 ^ (8 * s) then 0 else 2
set_option maxRecDepth 100000 in
set_option maxHeartbeats 400000 in
theorem elittle_ok (n : Int) (s : Nat) (w : World) (hs : s = 2 ∨ s = 4) : Calls Try.prog 85 #[cN n, cN s] w fun e w' => e = .returned (.tuple #[.string (numB n s false), cN (numE n s)]) ∧ Below w.heap.size w w' := by
  have c1 := fun W => check_ok n s W hs
  unfold numB numE
  by_cases h : 0 ≤ n ∧ n < 2 ^ (8 * s)
  · rw [if_pos h] at c1
    rw [if_pos h, if_pos h, if_neg (by decide)]
    obtain ⟨m, rfl⟩ : ∃ m : Nat, n = m := ⟨n.toNat, by omega⟩
    rw [Int.toNat_natCast]
    have c3 := fun W => writeUp_ok m s W (by omega)
    clear h hs
    go_enter Try.func85, Try.ntmps85
    go_wp2_with fail
    with_reducible refine (c1 _).mono ?_
    rintro e w1 ⟨rfl, rfl⟩
    go_wp2_with fail
    with_reducible refine (up_ok _ _).mono ?_
    rintro e w1 ⟨rfl, rfl⟩
    go_wp2_with fail
    with_reducible refine (c3 _).mono ?_
    rintro e w1 ⟨rfl, hB1⟩
    go_wp2
    go_ret2
    exact ⟨rfl, hB1⟩
  · rw [if_neg h] at c1
    rw [if_neg h, if_neg h]
    clear h hs
    go_enter Try.func85, Try.ntmps85
    go_wp2_with fail
    with_reducible refine (c1 _).mono ?_
    rintro e w1 ⟨rfl, rfl⟩
    go_wp2
    go_ret2
    exact ⟨rfl, Below.refl _ _⟩
set_option maxRecDepth 100000 in
set_option maxHeartbeats 400000 in
theorem ebig_ok (n : Int) (s : Nat) (w : World) (hs : s = 2 ∨ s = 4) : Calls Try.prog 86 #[cN n, cN s] w fun e w' => e = .returned (.tuple #[.string (numB n s true), cN (numE n s)]) ∧ Below w.heap.size w w' := by
  have c1 := fun W => check_ok n s W hs
  unfold numB numE
  by_cases h : 0 ≤ n ∧ n < 2 ^ (8 * s)
  · rw [if_pos h] at c1
    rw [if_pos h, if_pos h, if_pos rfl]
    obtain ⟨m, rfl⟩ : ∃ m : Nat, n = m := ⟨n.toNat, by omega⟩
    rw [Int.toNat_natCast]
    have c4 := fun B W h => writeDown_ok m s W (by omega) B h
    clear h hs
    go_enter Try.func86, Try.ntmps86
    go_wp2_with fail
    with_reducible refine (c1 _).mono ?_
    rintro e w1 ⟨rfl, rfl⟩
    go_wp2_with fail
    with_reducible refine (down_ok _ _).mono ?_
    rintro e w1 ⟨rfl, rfl⟩
    go_wp2_with fail
    with_reducible refine (c4 _ _ (Lib.cell_of_heap (World.alloc_heap_new _ _) 0)).mono ?_
    rintro e w2 ⟨rfl, hB1⟩
    go_wp2
    go_ret2
    exact ⟨rfl, bthen (bald (Below.refl _ _) _) hB1⟩
  · rw [if_neg h] at c1
    rw [if_neg h, if_neg h]
    clear h hs
    go_enter Try.func86, Try.ntmps86
    go_wp2_with fail
    with_reducible refine (c1 _).mono ?_
    rintro e w1 ⟨rfl, rfl⟩
    go_wp2
    go_ret2
    exact ⟨rfl, Below.refl _ _⟩
end Go.Proofs.Ytnmlephjhcmbhaa
