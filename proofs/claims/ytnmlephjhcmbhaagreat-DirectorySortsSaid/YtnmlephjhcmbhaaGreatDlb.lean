/- The reference's Repeat, Parts and Compare. -/
import Derived.Test.YtnmlephjhcmbhaaGreatDla
namespace Go.Proofs.YtnmlephjhcmbhaaGreat
set_option linter.unusedSimpArgs false
set_option linter.unusedVariables false
open Go Go.RowKit
set_option maxRecDepth 100000 in
set_option maxHeartbeats 1000000 in
theorem rrep_ok (b : UInt8) (n : Int) (w : World) (hn : n ≤ 2 ^ 32) : Calls Tryz.prog 41 #[.int .u8 b.toNat, cN n] w fun e w' => e = .returned (.string (bL (List.replicate n.toNat b))) ∧ Below w.heap.size w w' := by
  obtain ⟨i0, hi, hz0, hz1, hz2⟩ := info_parts u8Info
  obtain ⟨m, hm⟩ : ∃ m, n.toNat = m := ⟨_, rfl⟩
  rw [hm]
  have hm2 : m ≤ 2 ^ 32 := by omega
  have HM := Lib.hid hm
  clear hm
  go_enter Tryz.func41, Tryz.ntmps41
  go_wp2
  go_loopw [6, 5] (fun i out wr => ∃ k : Nat, i = cN k ∧ k ≤ m ∧ wr.ownsRow w.heap.size 5 1 out k (cb (List.replicate k b)) ∧ Below w.heap.size w wr) (fun i _ _ => m - (intOf i).toNat)
  case atStart => exact ⟨0, rfl, Nat.zero_le _, World.ownsRow_made w #[] 0 (Nat.le_refl _) (by decide) rfl, (Below.refl _ _).alloc (Nat.le_refl _) _⟩
  case round =>
    obtain ⟨k, rfl, hk, hown, hB⟩ := hrel
    have hsz := hB.size
    by_cases hlt : k < m
    · have p1 : (k : Int) < n := by have := HM.out; omega
      go_wp2_with (at_builtin; refine wpList_append_own _ rfl _ _ 69 rfl w.heap.size 5 i0 (.int .u8 0) 1 1 Tryz.underlying69 hi hz0 hz1 hz2 rfl (by decide) _ _ _ rfl (hown.alloc _) ⟨wr.heap.size, 0, none⟩ 1 1 [.int .u8 b.toNat] rfl rfl ?c1 ?c2 ?c3 ?c4 ?c5 ?_)
      try case c1 => intro j u h; exact cell_one_new _ _ _ j u h
      case c2 => first | rfl | (intro u h; rw [List.mem_singleton.1 h]; rfl)
      case c3 => unfold maxLen; omega
      case c4 => omega
      case c5 => first | omega | (simp; omega)
      intro v' w1 hown1 hgrow hnn
      have hB1 : Below w.heap.size w w1 := (hB.alloc hB.size _).grown hgrow (by simp; omega) (fun k e => (hown.lt k e).1)
      have HO : Hid (w1.ownsRow w.heap.size 5 1 v' (k + 1) (cb (List.replicate (k + 1) b)) ∧ Below w.heap.size w w1) := Lib.hid ⟨by rw [List.replicate_succ', cb_snoc]; exact hown1, hB1⟩
      clear hown1 hgrow hnn hown hB hB1
      go_wp2
      go_roundw
      case rel => exact ⟨k + 1, by go_num, by omega, HO.out.1, HO.out.2⟩
      case measure => simp [intOf]; omega
    · obtain rfl : k = m := by omega
      have p1 : ¬ (k : Int) < n := by have := HM.out; omega
      have hcv := own_bytes_string (P := Tryz.prog) (src := 69) (dst := 9) Tryz.underlying69 Tryz.underlying5 Tryz.underlying9 hown
      clear hown
      go_wp2
      go_ret
      exact ⟨rfl, hB⟩
set_option maxRecDepth 100000 in
set_option maxHeartbeats 2000000 in
theorem rparts_ok (s : ByteArray) (w : World) (hs : s.size < 2 ^ 61) : Calls Tryz.prog 40 #[.string s] w fun e w' =>
    e = .returned (.tuple #[.string (bL (nameL s.data.toList)), .string (bL (extL s.data.toList)), .string (bL (verL s.data.toList))]) ∧ Below w.heap.size w w' := by
  have c1 : ∀ W, Calls Tryz.prog 64 #[.string s, .int .u8 46, .int .u8 59] W fun e w' => e = .returned (cN (ixD s.data.toList)) ∧ W = w' := fun W => rfind_ok s 46 59 W (by omega)
  obtain ⟨l, hl⟩ : ∃ l, s.data.toList = l := ⟨_, rfl⟩
  have hsz : l.length = s.size := by rw [← hl, list_size]
  rw [hl] at c1 ⊢
  obtain ⟨q, hq⟩ : ∃ q, ixD l = q := ⟨_, rfl⟩
  have hle : q ≤ l.length := by rw [← hq]; exact List.findIdx_le_length
  rw [hq] at c1
  have e1 : s.extract 0 q = bL (nameL l) := by rw [ext_take s q (by omega), hl, nameL, hq]
  have k0 : (0 : Int) ≤ (q : Int) := by omega
  have k4 : (q : Int) ≤ s.size := by omega
  by_cases h : q < l.length
  · have hqs : q < s.size := by omega
    have hx : (s[q]'hqs) = l.getD q 0 := by rw [← hl, getD_at s q 0 hqs]
    have e2 : s.extract (q + 1) s.size = bL (restL l) := by rw [ext_drop, hl, restL, hq]
    have hd : dotB l = (l.getD q 0 == 46) := by rw [dotB, hq]
    have k1 : IntKind.i64.wrap ((q : Int) + 1) = (q : Int) + 1 := by rw [IntKind.wrap_i64]; omega
    have k2 : ((q : Int) + 1).toNat = q + 1 := by omega
    have k3 : (q : Int) + 1 ≤ s.size := by omega
    have k5 : (q : Int) < s.size := by omega
    have k6 : (0 : Int) ≤ (q : Int) + 1 := by omega
    cases hdot : dotB l
    · rw [hdot] at hd
      have b1 : (((s[q]'hqs).toNat : Int) == 46) = false := by
        rw [hx]
        have : l.getD q 0 ≠ 46 := by simpa using hd.symm
        simp
        intro h2
        refine this (UInt8.toNat_inj.1 ?_)
        rw [List.getD_eq_getElem?_getD]
        show _ = 46
        omega
      have e3 : extL l = [] := by rw [extL, hdot]; rfl
      have e4 : verL l = restL l := by rw [verL, hdot]; rfl
      rw [e3, e4]
      clear hx hd hdot e3 e4 hl hq
      go_enter Tryz.func40, Tryz.ntmps40
      go_wp2_with (go_at_call 64; (with_reducible refine (c1 _).mono ?_); rintro e w1 ⟨rfl, rfl⟩)
      refine region_sch (fun w' => w' = w.drew) [(true, 0), (true, 1), (true, 2), (true, 3), (true, 4), (true, 5), (true, 6), (true, 7)] [8] (by kernel_rfl) (by kernel_rfl) (by rintro ⟨_, _, h, _⟩; cases h) (fun _ _ d _ _ h => by cases d <;> exact h) rfl ?_
      simp only [pickM, pickT, List.filterMap_cons, List.filterMap_nil, List.getElem?_cons_zero, List.getElem?_cons_succ, Option.map_some]
      repeat (refine m_float ⟨?_, .inl ⟨?_, .inl ?_⟩, fun K' hK => ?_⟩; rotate_left; (first | rfl | (go_simp; done)); (intro w' hS; subst hS; go_simp; try rfl); (simp only [Act.put, List.setIfInBounds_toArray, List.set_cons_succ, List.set_cons_zero]; refine hK _ ?_; clear hK K'))
      refine m_nil ?_
      show wpList Tryz.prog _ _ (List.cons _ _) _ _
      go_wp2
      go_ret3
      exact ⟨rfl, (Below.refl _ _).drew⟩
    · rw [hdot] at hd
      have b1 : (((s[q]'hqs).toNat : Int) == 46) = true := by
        rw [hx]
        have : l.getD q 0 = 46 := by simpa using hd.symm
        rw [this]
        rfl
      have c2 : ∀ W, Calls Tryz.prog 64 #[.string (bL (restL l)), .int .u8 59, .int .u8 59] W fun e w' => e = .returned (cN (ixS (restL l))) ∧ W = w' := fun W => by
        have := rfind_ok (bL (restL l)) 59 59 W (by rw [bL_size]; have := restL_len l; omega)
        have e : fdx (bL (restL l)).data.toList 59 59 = ixS (restL l) := by
          rw [bL_list, fdx, ixS]
          congr 1
          funext c
          simp
        rw [e] at this
        exact this
      have e3 : extL l = (restL l).take (ixS (restL l)) := by rw [extL, hdot]; rfl
      have e4 : verL l = (restL l).drop (ixS (restL l) + 1) := by rw [verL, hdot]; rfl
      have hrl : (restL l).length = s.size - (q + 1) := by rw [restL, hq, List.length_drop]; omega
      have hrle : ixS (restL l) ≤ (restL l).length := List.findIdx_le_length
      obtain ⟨p, hp⟩ : ∃ p, ixS (restL l) = p := ⟨_, rfl⟩
      rw [hp] at c2 e3 e4 hrle
      have f1 : (bL (restL l)).extract 0 p = bL (extL l) := by rw [ext_take _ _ (by rw [bL_size]; exact hrle), bL_list, e3]
      have f2 : (p : Int) ≤ (bL (restL l)).size := by rw [bL_size]; omega
      have f3 : (0 : Int) ≤ (p : Int) := by omega
      have f4 : IntKind.i64.wrap ((q : Int) + 1 + p) = (q : Int) + 1 + p := by rw [IntKind.wrap_i64]; omega
      by_cases hpl : p < (restL l).length
      · have v1 : s.extract (q + 1 + p + 1) s.size = bL (verL l) := by
          rw [ext_drop, hl, e4, restL, hq, List.drop_drop]
          congr 2
        have f5 : (q : Int) + 1 + p < s.size := by omega
        have f6 : IntKind.i64.wrap ((q : Int) + 1 + p + 1) = (q : Int) + 1 + p + 1 := by rw [IntKind.wrap_i64]; omega
        have f7 : ((q : Int) + 1 + p + 1).toNat = q + 1 + p + 1 := by omega
        have f8 : (0 : Int) ≤ (q : Int) + 1 + p + 1 := by omega
        have f9 : (q : Int) + 1 + p + 1 ≤ s.size := by omega
        clear hx hd hdot e3 e4 hl hq hrl hp
        go_enter Tryz.func40, Tryz.ntmps40
        go_wp2_with fail
        with_reducible refine (c1 _).mono ?_
        rintro e w1 ⟨rfl, rfl⟩
        go_wp2_with fail
        with_reducible refine (c2 _).mono ?_
        rintro e w1 ⟨rfl, rfl⟩
        go_wp2
        refine region_sch (fun w' => w' = w.drew) [(true, 0), (true, 1), (true, 2), (true, 3), (true, 4), (true, 5), (true, 6), (true, 7)] [8] (by kernel_rfl) (by kernel_rfl) (by rintro ⟨_, _, h, _⟩; cases h) (fun _ _ d _ _ h => by cases d <;> exact h) rfl ?_
        simp only [pickM, pickT, List.filterMap_cons, List.filterMap_nil, List.getElem?_cons_zero, List.getElem?_cons_succ, Option.map_some]
        repeat (refine m_float ⟨?_, .inl ⟨?_, .inl ?_⟩, fun K' hK => ?_⟩; rotate_left; (first | rfl | (go_simp; done)); (intro w' hS; subst hS; go_simp; try rfl); (simp only [Act.put, List.setIfInBounds_toArray, List.set_cons_succ, List.set_cons_zero]; refine hK _ ?_; clear hK K'))
        refine m_nil ?_
        show wpList Tryz.prog _ _ (List.cons _ _) _ _
        go_wp2
        go_ret3
        exact ⟨rfl, (Below.refl _ _).drew⟩
      · have v1 : verL l = [] := by rw [e4]; exact List.drop_eq_nil_of_le (by omega)
        have f5 : ¬ (q : Int) + 1 + p < s.size := by omega
        rw [v1]
        clear hx hd hdot e3 e4 hl hq hrl hp v1
        go_enter Tryz.func40, Tryz.ntmps40
        go_wp2_with fail
        with_reducible refine (c1 _).mono ?_
        rintro e w1 ⟨rfl, rfl⟩
        go_wp2_with fail
        with_reducible refine (c2 _).mono ?_
        rintro e w1 ⟨rfl, rfl⟩
        go_wp2
        go_ret3
        exact ⟨rfl, Below.refl _ _⟩
  · have hql : q = l.length := by omega
    have er : restL l = [] := by rw [restL, hq]; exact List.drop_eq_nil_of_le (by omega)
    have e2 : extL l = [] := by unfold extL; rw [er]; split <;> rfl
    have e3 : verL l = [] := by unfold verL; rw [er]; split <;> rfl
    have k5 : decide ((q : Int) < s.size) = false := decide_eq_false (by omega)
    have k6 : decide (q < s.size) = false := decide_eq_false (by omega)
    rw [e2, e3]
    clear hl hq er e2 e3 hql h
    go_enter Tryz.func40, Tryz.ntmps40
    go_wp2_with (go_at_call 64; (with_reducible refine (c1 _).mono ?_); rintro e w1 ⟨rfl, rfl⟩)
    go_ret3
    exact ⟨rfl, Below.refl _ _⟩
end Go.Proofs.YtnmlephjhcmbhaaGreat
