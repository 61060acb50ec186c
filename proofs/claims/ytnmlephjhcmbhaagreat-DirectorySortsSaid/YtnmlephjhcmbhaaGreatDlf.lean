/- The reference's Small and Encode. -/
import Derived.Test.YtnmlephjhcmbhaaGreatDlb
import Derived.Test.YtnmlephjhcmbhaaGreatDld
namespace Go.Proofs.YtnmlephjhcmbhaaGreat
set_option linter.unusedSimpArgs false
set_option linter.unusedVariables false
open Go Go.RowKit
/-- Records, few, with short strings. -/
def smallR (r : Rec) : Bool := decide (r.id.size ≤ 300 ∧ r.use.size ≤ 300)
def smallL (l : List Rec) (m : Nat) : Bool := decide (l.length ≤ m) && l.all smallR
theorem small_snoc (l : List Rec) (k : Nat) (h : k < l.length) : (l.take (k + 1)).all smallR = ((l.take k).all smallR && smallR (l.getD k recD)) := by
  rw [List.take_succ_eq_append_getElem h, List.all_append, List.all_cons, List.all_nil, Bool.and_true, List.getD_eq_getElem?_getD, List.getElem?_eq_getElem h, Option.getD_some]
theorem small_false (l : List Rec) (m k : Nat) (h : k < l.length) (hf : smallR (l.getD k recD) = false) : smallL l m = false := by
  unfold smallL
  have : l.all smallR = false := by
    rw [← Bool.not_eq_true]
    intro ht
    have hm : l.getD k recD ∈ l := by
      rw [List.getD_eq_getElem?_getD, List.getElem?_eq_getElem h, Option.getD_some]
      exact List.getElem_mem h
    rw [List.all_eq_true.1 ht _ hm] at hf
    cases hf
  rw [this, Bool.and_false]
theorem small_size {l : List Rec} {m : Nat} (h : smallL l m = true) : l.length ≤ m ∧ ∀ r ∈ l, r.id.size ≤ 300 ∧ r.use.size ≤ 300 := by
  unfold smallL at h
  rw [Bool.and_eq_true, decide_eq_true_eq, List.all_eq_true] at h
  exact ⟨h.1, fun r hr => of_decide_eq_true (h.2 r hr)⟩
set_option maxRecDepth 100000 in
set_option maxHeartbeats 1000000 in
theorem small_ok (a : Option Addr) (c : Nat) (l : List Rec) (m : Nat) (w : World) (hm : m ≤ 2000) (hrow : RowR w a l) (hsz : ∀ r ∈ l, r.id.size ≤ maxLen ∧ r.use.size ≤ maxLen) :
    Calls Tryz.prog 13 #[.slice a l.length c, cN m] w fun e w' => e = .returned (.bool (smallL l m)) ∧ w' = w := by
  have HR := Lib.hid hrow
  have HZ := Lib.hid hsz
  clear hrow hsz
  by_cases hlm : m < l.length
  · have e : smallL l m = false := by unfold smallL; rw [decide_eq_false (by omega), Bool.false_and]
    rw [e]
    have g1 : (m : Int) < (l.length : Int) := by omega
    clear e
    go_enter Tryz.func13, Tryz.ntmps13
    go_wp2
    go_ret
    exact ⟨rfl, by trivial⟩
  · have g1 : ¬ (m : Int) < (l.length : Int) := by omega
    have g2 : l.length ≤ 2000 := by omega
    go_enter Tryz.func13, Tryz.ntmps13
    go_wp2
    go_loopw [5] (fun i wr => ∃ k : Nat, i = cN k ∧ k ≤ l.length ∧ (l.take k).all smallR = true ∧ wr = w) (fun i _ => l.length - (intOf i).toNat)
    case atStart => exact ⟨0, rfl, Nat.zero_le _, rfl, rfl⟩
    case round =>
      obtain ⟨k, rfl, hk, hf, rfl⟩ := hrel
      by_cases hlt : (k : Int) < (l.length : Int)
      · have hkl : k < l.length := by omega
        obtain ⟨b, off, rfl, hb, hc⟩ := HR.out k hkl
        obtain ⟨r, hr⟩ : ∃ r, l.getD k recD = r := ⟨_, rfl⟩
        rw [hr] at hc
        have hmem : r ∈ l := by rw [← hr, List.getD_eq_getElem?_getD, List.getElem?_eq_getElem hkl, Option.getD_some]; exact List.getElem_mem hkl
        obtain ⟨z1, z2⟩ := HZ.out r hmem
        unfold maxLen at z1 z2
        obtain ⟨q0, q1, q2, q3, q4, q5, q6, q7⟩ := hc.below hb (Below.refl _ _)
        have HRR := Lib.hid hr
        have HF := Lib.hid hf
        clear hr hc hmem hf
        by_cases h1 : (300 : Int) < (r.id.size : Int)
        · have e : smallL l m = false := small_false l m k hkl (by rw [HRR.out]; exact decide_eq_false (by omega))
          have HE := Lib.hid e
          clear e
          go_wp2
          go_ret
          exact ⟨by rw [HE.out]; rfl, by trivial⟩
        · by_cases h2 : (300 : Int) < (r.use.size : Int)
          · have e : smallL l m = false := small_false l m k hkl (by rw [HRR.out]; exact decide_eq_false (by omega))
            have HE := Lib.hid e
            clear e
            go_wp2
            go_ret
            exact ⟨by rw [HE.out]; rfl, by trivial⟩
          · have e : smallR r = true := decide_eq_true (by omega)
            have HE := Lib.hid e
            clear e
            go_wp2
            go_roundw
            case rel => exact ⟨k + 1, by go_num, by omega, by rw [small_snoc l k hkl, HF.out, HRR.out, HE.out]; rfl, by trivial⟩
            case measure => simp [intOf]; omega
      · obtain rfl : k = l.length := by omega
        have e : smallL l m = true := by
          rw [List.take_length] at hf
          unfold smallL; rw [hf, decide_eq_true (by omega)]; rfl
        have HE := Lib.hid e
        clear e
        go_wp2
        go_ret
        exact ⟨by rw [HE.out]; rfl, by trivial⟩
set_option maxRecDepth 100000 in
set_option maxHeartbeats 400000 in
theorem rdenc_large (a : Option Addr) (c : Nat) (l : List Rec) (w : World) (hl : 1024 < l.length) :
    Calls Tryz.prog 25 #[.slice a l.length c] w (EnE w l) := by
  have hx : encDE l = 7 := by rw [encDE, if_pos hl]
  have g1 : (1024 : Int) < (l.length : Int) := by omega
  have HX := Lib.hid hx
  clear hx
  go_enter Tryz.func25, Tryz.ntmps25
  go_wp2
  go_ret2
  exact EnE.bad HX.out (by decide) (Below.refl _ _)
theorem totT_le {l : List Rec} (h : firstE l = 0) : totT l ≤ plcE 0 (lenR l) + 2047 := by
  unfold totT blkM endM
  rw [if_pos (lenI_ok h), natS_lenI]
  omega
theorem EnS.made (w : World) (l : List Rec) : EnS w l 0 (.slice (some ⟨w.heap.size, 0, none⟩) 0 0) (.slice (some ⟨w.heap.size + 1, 0, none⟩) 0 0) ((w.alloc (.cells #[] 9)).alloc (.cells #[] 3)) := by
  refine ⟨(World.ownsRow_made w #[] 0 (Nat.le_refl _) (by decide) rfl).alloc _, ?_, rfl, bald (bald (Below.refl _ _) _) _⟩
  have := World.ownsRow_made (e := 3) (w.alloc (.cells #[] 9)) #[] 0 (base := w.heap.size) (size := 1) (by simp) (by decide) rfl
  rw [World.size_alloc] at this
  exact this
/-- The contents behind one more record. -/
theorem body_put (l : List Rec) (k : Nat) (hk : k < l.length) (p : Nat) (s : ByteArray) (hs : enS (l.getD k recD) = s) (hp : (plcs 0 (lenR l)).getD k 0 = p) :
    bL (bodyL 0 (enL (l.take k))) ++ bL (List.replicate ((p : Int) - (plcE 0 (lenR (l.take k)) : Nat)).toNat 0) ++ s = bL (bodyL 0 (enL (l.take (k + 1)))) := by
  have e := place_eq l k hk p s hs hp
  rw [take_snocR l k hk, show enL (l.take k ++ [l.getD k recD]) = enL (l.take k) ++ [(enS (l.getD k recD)).data.toList] by simp [enL], body_snoc, hs, lensN_enL, list_size, ← e]
  conv => lhs; rw [← bL_of s]
  rw [bL_app, bL_app, List.append_assoc]
  congr 3
  rw [show ((p : Int) - (plcE 0 (lenR (l.take k)) : Nat)).toNat = p - plcE 0 (lenR (l.take k)) by omega]
theorem body_size (l : List Rec) (k : Nat) : (bL (bodyL 0 (enL (l.take k)))).size = plcE 0 (lenR (l.take k)) := by
  have := body_len (enL (l.take k)) 0
  rw [lensN_enL] at this
  rw [bL_size]; omega
set_option maxRecDepth 100000 in
set_option maxHeartbeats 4000000 in
theorem rdenc_small (a : Option Addr) (c : Nat) (l : List Rec) (w : World) (hl : l.length ≤ 1024) (hrow : RowR w a l) (hsz : ∀ r ∈ l, r.id.size ≤ maxLen ∧ r.use.size ≤ maxLen) :
    Calls Tryz.prog 25 #[.slice a l.length c] w (EnE w l) := by
  obtain ⟨i0, hi, hz0, hz1, hz2⟩ := info_parts i64Info
  obtain ⟨j0, hj, ky0, ky1, ky2⟩ := info_parts strInfo
  have HR := Lib.hid hrow
  have HZ := Lib.hid hsz
  have g1 : ¬ (1024 : Int) < (l.length : Int) := by omega
  clear hrow hsz
  go_enter Tryz.func25, Tryz.ntmps25
  go_wp2
  go_loopw [6, 4, 5, 7, 8] (fun i v u _ _ wr => ∃ k : Nat, i = cN k ∧ k ≤ l.length ∧ EnS w l k v u wr) (fun i _ _ _ _ _ => l.length - (intOf i).toNat)
  case atStart => exact ⟨0, rfl, Nat.zero_le _, by first | exact EnS.made w l | (have := EnS.made w l; simpa using this)⟩
  case round =>
    obtain ⟨k, rfl, hk, hS⟩ := hrel
    have HS := Lib.hid hS
    have hB := hS.bel
    clear hS
    by_cases hlt : (k : Int) < (l.length : Int)
    · have hkl : k < l.length := by omega
      obtain ⟨b, off, rfl, hb, hc⟩ := HR.out k hkl
      obtain ⟨r, hr⟩ : ∃ r, l.getD k recD = r := ⟨_, rfl⟩
      rw [hr] at hc
      have hmem : r ∈ l := by rw [← hr, List.getD_eq_getElem?_getD, List.getElem?_eq_getElem hkl, Option.getD_some]; exact List.getElem_mem hkl
      obtain ⟨q0, q1, q2, q3, q4, q5, q6, q7⟩ := hc.below hb hB
      obtain ⟨z1, z2⟩ := HZ.out r hmem
      have c1 := fun W => rdrenc_ok r W z1 z2
      have HRR := Lib.hid hr
      have HB := Lib.hid hB
      clear hr hc hmem hB z1 z2
      by_cases he : enE r = 0
      · rw [he] at c1
        have HE := Lib.hid he
        clear he
        go_wp2_with fail
        with_reducible refine (c1 _).mono ?_
        rintro e w1 ⟨rfl, hB1⟩
        have H1 := HS.out.below hB1
        have hsz1 := H1.bel.size
        clear hB1
        go_wp2_with (at_builtin; refine wpList_append_own _ rfl _ _ 53 rfl w.heap.size 9 j0 (.string ByteArray.empty) 1 16 Tryz.underlying53 hj ky0 ky1 ky2 rfl (by decide) _ _ _ rfl (H1.strs.alloc _) ⟨w1.heap.size, 0, none⟩ 1 1 [.string (enS r)] rfl rfl ?c1 ?c2 ?c3 ?c4 ?c5 ?_)
        try case c1 => intro j u h; exact cell_one_new _ _ _ j u h
        case c2 => first | rfl | (intro u h; rw [List.mem_singleton.1 h]; rfl)
        case c3 => unfold maxLen; omega
        case c4 => omega
        case c5 => first | omega | (simp; omega)
        intro v' w2 ho hg _
        obtain ⟨hl2, hb2⟩ := H1.put1 ho hg
        have hsz2 := hb2.size
        have HO := Lib.hid ho
        clear ho hg
        go_wp2_with (at_builtin; refine wpList_append_own _ rfl _ _ 33 rfl w.heap.size 3 i0 (.int .i64 0) 1 8 Tryz.underlying33 hi hz0 hz1 hz2 rfl (by decide) _ _ _ rfl (hl2.alloc _) ⟨w2.heap.size, 0, none⟩ 1 1 [cN ((enS r).size : Int)] rfl rfl ?e1 ?e2 ?e3 ?e4 ?e5 ?_)
        try case e1 => intro j u h; exact cell_one_new _ _ _ j u h
        case e2 => first | rfl | (intro u h; rw [List.mem_singleton.1 h]; rfl)
        case e3 => unfold maxLen; omega
        case e4 => omega
        case e5 => first | omega | (simp; omega)
        intro u' w3 ho3 hg3 _
        have H3 : EnS w l (k + 1) v' u' w3 := EnS.put2 hkl (by rw [HRR.out]; exact HE.out) HS.out.err (by rw [HRR.out]; exact HO.out) hl2 hb2 (by rw [HRR.out]) ho3 hg3
        have H3' := Lib.hid H3
        clear ho3 hg3 hl2 hb2 H3
        go_wp2
        go_roundw
        case rel => exact ⟨k + 1, by go_num, by omega, H3'.out⟩
        case measure => simp [intOf]; omega
      · have hf := firstE_bad l k hkl HS.out.err (by rw [HRR.out]; exact he)
        rw [HRR.out] at hf
        obtain ⟨x, hx⟩ : ∃ x, enE r = x := ⟨_, rfl⟩
        rw [hx] at c1 hf he
        have g2 : (x != 0) = true := by simpa using he
        have HX := Lib.hid (show encDE l = x by rw [encDE, if_neg (by omega), hf])
        have HN := Lib.hid he
        clear hf hx he
        go_wp2_with fail
        with_reducible refine (c1 _).mono ?_
        rintro e w1 ⟨rfl, hB1⟩
        go_wp2
        go_ret2
        exact EnE.bad HX.out HN.out (bthen HB.out hB1)
    · obtain rfl : k = l.length := by omega
      have H := HS.out
      obtain ⟨o1, o2, herr, -⟩ := H
      rw [List.take_length] at o1 o2 herr
      obtain ⟨a2, c2, rfl, hI⟩ := RowI_own (lenR l) (by rw [show (lenR l).length = l.length by simp [lenR]]; exact o2)
      rw [← lenI_toI] at hI
      have hlen : (lenR l).length = (lenI l).length := by simp [lenR, lenI]
      have hlen2 : (lenI l).length = l.length := by simp [lenI]
      rw [hlen] at *
      have c1 := fun (W : World) (hW : Below wr.heap.size wr W) => rblks_ok a2 c2 (lenI l) W (by omega) (hI.below hW)
      have c4 := roffs_ok a2 c2 (lenI l) wr (by omega) hI
      have hE := endM_le (lenI l)
      have hT0 : totT l = blkM (lenI l) * 2048 := rfl
      have hB0 : blkM (lenI l) ≤ 5000000 := by unfold blkM; omega
      obtain ⟨B, hBB⟩ : ∃ B, blkM (lenI l) = B := ⟨_, rfl⟩
      rw [hBB] at c1 hT0 hB0
      obtain ⟨T, hTT⟩ : ∃ T, totT l = T := ⟨_, rfl⟩
      rw [hTT] at hT0
      have m0 : (0 : Int) ≤ (B : Int) := by omega
      have m1 : (B : Int) ≤ 5000000 := by omega
      have m2 : (B : Int) * 2048 = T := by omega
      have hT5 : T ≤ 5000000 * 2048 := by omega
      have HT := Lib.hid hTT
      have HER := Lib.hid herr
      have HO1 := Lib.hid o1
      obtain ⟨a4, d4, rfl⟩ := own_formS o1
      rw [offM, if_pos (lenI_ok HER.out), natS_lenI] at c4
      have hpl : (plcs 0 (lenR l)).length = l.length := by rw [plcs_len]; simp [lenR]
      clear hE hT0 hB0 hBB hTT herr o1 o2 HR HZ hlen hlen2 hI
      go_wp2_with fail
      with_reducible refine c4.mono ?_
      rintro e w3 ⟨x, rfl, hI⟩
      have HI := Lib.hid hI
      obtain ⟨a3, c5, rfl⟩ := own_form hI.1
      rw [hpl]
      clear hI
      have hB3 := HI.out.2
      have hbel : Below w.heap.size w w3 := bthen HS.out.bel hB3
      have ho1 := own_keep HO1.out hB3
      have O1 := Lib.hid (own_strs ho1)
      have O2 := Lib.hid (own_ints HI.out.1)
      have HBE := Lib.hid hbel
      have HB3 := Lib.hid hB3
      have HPL := Lib.hid hpl
      have hTmax := Lib.hid (totT_ge HER.out)
      clear hB3 hbel ho1 hpl c4
      go_wp2
      go_loopw [10, 11] (fun sv i wq => ∃ k : Nat, i = cN k ∧ k ≤ l.length ∧ sv = .string (bL (bodyL 0 (enL (l.take k)))) ∧ Below w3.heap.size w3 wq) (fun _ i _ => l.length - (intOf i).toNat)
      case atStart => exact ⟨0, rfl, Nat.zero_le _, rfl, Below.refl _ _⟩
      case round =>
        obtain ⟨k, rfl, hk, rfl, hO⟩ := hrel
        have hz := body_size l k
        obtain ⟨z, hzz⟩ : ∃ z, bL (bodyL 0 (enL (l.take k))) = z := ⟨_, rfl⟩
        rw [hzz] at hz ⊢
        have hEk := plcE_take (lenR l) k 0
        rw [lenR_take] at hEk
        have hTm := hTmax.out
        rw [HT.out] at hTm
        by_cases hlt : (k : Int) < (l.length : Int)
        · have hkl : k < l.length := by omega
          obtain ⟨g1, d1, he1, ⟨cur1, hc1⟩, hs1⟩ := O1.out k hkl
          simp only [Value.slice.injEq] at he1
          obtain ⟨rfl, -, rfl⟩ := he1
          obtain ⟨g2, d2, he2, ⟨cur2, hc2⟩, hs2⟩ := O2.out k (by rw [HPL.out]; exact hkl)
          simp only [Value.slice.injEq] at he2
          obtain ⟨rfl, -, rfl⟩ := he2
          obtain ⟨p, s, hs, hp, hT, hn⟩ := place_of l k hkl HER.out
          rw [hs] at hs1
          rw [hp] at hs2
          rw [HT.out] at hT
          have hput := body_put l k hkl p s hs hp
          have hge := place_eq l k hkl p s hs hp
          have hge2 := plc_le (plcE 0 (lenR (l.take k))) s.size
          rw [← hz, hzz] at hput
          rw [← hge, ← hz] at hge2
          obtain ⟨D, hD⟩ : ∃ D : Int, (p : Int) - (z.size : Int) = D := ⟨_, rfl⟩
          rw [hD] at hput
          have hf1 : IntKind.i64.wrap ((p : Int) - (z.size : Int)) = D := by rw [IntKind.wrap_i64]; omega
          have c6 : ∀ W, Calls Tryz.prog 41 #[.int .u8 0, cN D] W fun e w' => e = .returned (.string (bL (List.replicate D.toNat 0))) ∧ Below W.heap.size W w' := fun W => rrep_ok 0 D W (by omega)
          have hus : (bL (List.replicate D.toNat 0)).size = p - z.size := by rw [bL_size, List.length_replicate]; omega
          obtain ⟨u, hu⟩ : ∃ u, bL (List.replicate D.toNat 0) = u := ⟨_, rfl⟩
          rw [hu] at hus c6 hput
          have f2 : ¬ (9223372036854775807 < z.size + u.size) := by omega
          have f3 : ¬ (9223372036854775807 < z.size + u.size + s.size) := by omega
          have f4 : z.size ≤ 20000000000 := by omega
          have f5 : (z ++ u).size = z.size + u.size := by simp
          have HP := Lib.hid hput
          have HCC : Hid (∀ W, Below w3.heap.size w3 W → W.cell? ⟨g1, k, none⟩ = some (.string s) ∧ W.cell? ⟨g2, k, none⟩ = some (cN (p : Int))) := Lib.hid fun W hW => ⟨(hW.cell (p := ⟨g1, k, none⟩) (lt_of_cell hs1)).trans hs1, (hW.cell (p := ⟨g2, k, none⟩) (lt_of_cell hs2)).trans hs2⟩
          have HOO := Lib.hid hO
          clear hz hzz hEk hTm hc1 hs1 hc2 hs2 hs hp hT hn hput hge hge2 hD hus hu hO
          go_wp2
          refine region_sch ((fun w' => Below w3.heap.size w3 w')) [(true, 0), (true, 1), (true, 2), (true, 3), (true, 4), (true, 5), (true, 6), (true, 7), (true, 10), (true, 11), (true, 12), (true, 13), (false, 8), (true, 9)] [14, 15] (by kernel_rfl) (by kernel_rfl) (by rintro ⟨_, _, h, _⟩; cases h) (fun _ _ d _ _ h => by cases d <;> exact h) HOO.out.drew ?_
          simp only [pickM, pickT, List.filterMap_cons, List.filterMap_nil, List.getElem?_cons_zero, List.getElem?_cons_succ, Option.map_some]
          repeat (first | (refine m_float ⟨?_, .inl ⟨?_, .inl ?_⟩, fun K' hK => ?_⟩; rotate_left; (first | rfl | (go_simp; done)); (intro w' hS; (obtain ⟨p0, p1⟩ := HCC.out _ hS); go_simp; try rfl); (simp only [Act.put, List.setIfInBounds_toArray, List.set_cons_succ, List.set_cons_zero]; refine hK _ ?_; clear hK K')) | (refine m_float ⟨undef, .inr ⟨?_, rfl⟩, fun K' hK => ?_⟩; (first | rfl | (go_simp; done)); (simp only [Act.put, List.setIfInBounds_toArray, List.set_cons_succ, List.set_cons_zero]; refine hK _ ?_; clear hK K')))
          refine m_loud ?_ (fun K' hK => ?_)
          · rintro ⟨_, _, h, _⟩; cases h
          go_wp2_with (go_at_call 41; (with_reducible refine (c6 _).mono ?_); rintro e w5 ⟨rfl, hB5⟩)
          refine hK _ _ (bthen HOO.out.drew hB5) ?_
          clear hK K'
          repeat (first | (refine m_float ⟨?_, .inl ⟨?_, .inl ?_⟩, fun K' hK => ?_⟩; rotate_left; (first | rfl | (go_simp; done)); (intro w' hS; (obtain ⟨p0, p1⟩ := HCC.out _ hS); go_simp; try rfl); (simp only [Act.put, List.setIfInBounds_toArray, List.set_cons_succ, List.set_cons_zero]; refine hK _ ?_; clear hK K')) | (refine m_float ⟨undef, .inr ⟨?_, rfl⟩, fun K' hK => ?_⟩; (first | rfl | (go_simp; done)); (simp only [Act.put, List.setIfInBounds_toArray, List.set_cons_succ, List.set_cons_zero]; refine hK _ ?_; clear hK K')))
          refine m_nil ?_
          show wpList Tryz.prog _ _ (List.cons _ _) _ _
          go_wp2
          go_roundw
          case rel => exact ⟨k + 1, by go_num, by omega, by rw [HP.out], bthen HOO.out.drew hB5⟩
          case measure => simp [intOf]; omega
        · obtain rfl : k = l.length := by omega
          rw [List.take_length] at hz hzz
          have c7 := c1 wr (HB3.out.trans (hO.mono HB3.out.size))
          have hTm2 := totT_le HER.out
          rw [HT.out] at hTm2
          rw [List.take_length] at hEk
          obtain ⟨D, hD⟩ : ∃ D : Int, (T : Int) - (z.size : Int) = D := ⟨_, rfl⟩
          have hf1 : IntKind.i64.wrap ((T : Int) - (z.size : Int)) = D := by rw [IntKind.wrap_i64]; omega
          have c6 : ∀ W, Calls Tryz.prog 41 #[.int .u8 0, cN D] W fun e w' => e = .returned (.string (bL (List.replicate D.toNat 0))) ∧ Below W.heap.size W w' := fun W => rrep_ok 0 D W (by omega)
          have hput : z ++ bL (List.replicate D.toNat 0) = bL (bufL T (enL l)) := by
            rw [← hzz, bL_app, bufL, lensN_enL]
            congr 3
            omega
          have hus : (bL (List.replicate D.toNat 0)).size ≤ T := by rw [bL_size, List.length_replicate]; omega
          obtain ⟨u, hu⟩ : ∃ u, bL (List.replicate D.toNat 0) = u := ⟨_, rfl⟩
          rw [hu] at hus c6 hput
          have f2 : ¬ (9223372036854775807 < z.size + u.size) := by omega
          have f4 : z.size ≤ 20000000000 := by omega
          have HP := Lib.hid hput
          have HOO := Lib.hid hO
          clear hz hzz hEk hTm hTm2 hD hus hu hO hput
          go_wp2_with fail
          with_reducible refine c7.mono ?_
          rintro e w5 ⟨rfl, hB5⟩
          go_wp2_with fail
          with_reducible refine (c6 _).mono ?_
          rintro e w6 ⟨rfl, hB6⟩
          go_wp2
          go_ret2
          have hde : encDE l = 0 := by rw [encDE, if_neg (by omega), HER.out]
          refine ⟨?_, bthen (bthen (bthen HBE.out (HOO.out)) hB5) hB6⟩
          rw [encDS, hde, if_pos rfl, HT.out, HP.out]
          rfl
theorem rdenc_ok (a : Option Addr) (c : Nat) (l : List Rec) (w : World) (hrow : RowR w a l) (hsz : ∀ r ∈ l, r.id.size ≤ maxLen ∧ r.use.size ≤ maxLen) :
    Calls Tryz.prog 25 #[.slice a l.length c] w (EnE w l) := by
  by_cases hl : 1024 < l.length
  · exact rdenc_large a c l w hl
  · exact rdenc_small a c l w (by omega) hrow hsz
end Go.Proofs.YtnmlephjhcmbhaaGreat
