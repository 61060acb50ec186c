/- directory.Decode. -/
import Derived.Test.YtnmlephjhcmbhaaGreatDkm
namespace Go.Proofs.YtnmlephjhcmbhaaGreat
set_option linter.unusedSimpArgs false
set_option linter.unusedVariables false
open Go Go.RowKit
def blkE (a : Nat) : Nat := (a / 2048 + 1) * 2048
def leftS (s : ByteArray) (a : Nat) : ByteArray := s.extract a (blkE a)
/-- What Decode does, f rounds at most, from the place a on. -/
def decL (s : ByteArray) : Nat → Nat → List Rec → List Nat → Int × List Rec × List Nat
  | 0, _, R, O => (0, R, O)
  | f + 1, a, R, O =>
    if s.size ≤ a then (0, R, O)
    else if sB s a = 0 then decL s f (blkE a) R O
    else if (leftS s a).size < sB s a then (10, [], [])
    else if decE (leftS s a) ≠ 0 then (decE (leftS s a), [], [])
    else if R.length = 1024 then (7, [], [])
    else decL s f (a + (decN (leftS s a)).toNat) (R ++ [decR (leftS s a)]) (O ++ [a])
def dirD (s : ByteArray) : Int × List Rec × List Nat :=
  if s.size % 2048 ≠ 0 then (1, [], []) else if 131072 < s.size then (7, [], []) else decL s (s.size + 1) 0 [] []
/-- What Decode gives. -/
def DecEnd (w : World) (x : Int × List Rec × List Nat) (e : Ending) (w' : World) : Prop := ∃ v u, e = .returned (.tuple #[v, u, cN x.1]) ∧ RL w x.2.1 x.2.2 v u w'
theorem DecEnd.bad {w w' : World} {x : Int × List Rec × List Nat} {z : Int} (hx : x = (z, [], [])) (hB : Below w.heap.size w w') : DecEnd w x (.returned (.tuple #[.slice none 0 0, .slice none 0 0, cN z])) w' := by
  subst hx
  exact ⟨_, _, rfl, RL.nil hB⟩
theorem decN_pos {s : ByteArray} (h : decE s = 0) : ∃ n : Nat, decN s = n ∧ 34 ≤ n ∧ n ≤ 255 ∧ n = sB s 0 := by
  refine ⟨sB s 0, by rw [decN, if_pos h], ?_, ?_, rfl⟩
  · have F := decF_of h
    have := F.h34
    exact this
  · have := sB_lt s 0; omega
theorem decL_end {s : ByteArray} {f a : Nat} {R : List Rec} {O : List Nat} (h : s.size ≤ a) : decL s f a R O = (0, R, O) := by
  cases f with
  | zero => rfl
  | succ f => rw [decL, if_pos h]
theorem decL_zero {s : ByteArray} {f a : Nat} {R : List Rec} {O : List Nat} (h : a < s.size) (h0 : sB s a = 0) : decL s (f + 1) a R O = decL s f (blkE a) R O := by
  rw [decL, if_neg (by omega), if_pos h0]
theorem decL_long {s : ByteArray} {f a : Nat} {R : List Rec} {O : List Nat} (h : a < s.size) (h0 : sB s a ≠ 0) (h1 : (leftS s a).size < sB s a) : decL s (f + 1) a R O = (10, [], []) := by
  rw [decL, if_neg (by omega), if_neg h0, if_pos h1]
theorem decL_err {s : ByteArray} {f a : Nat} {R : List Rec} {O : List Nat} (h : a < s.size) (h0 : sB s a ≠ 0) (h1 : ¬ (leftS s a).size < sB s a) (h2 : decE (leftS s a) ≠ 0) : decL s (f + 1) a R O = (decE (leftS s a), [], []) := by
  rw [decL, if_neg (by omega), if_neg h0, if_neg h1, if_pos h2]
theorem decL_full {s : ByteArray} {f a : Nat} {R : List Rec} {O : List Nat} (h : a < s.size) (h0 : sB s a ≠ 0) (h1 : ¬ (leftS s a).size < sB s a) (h2 : decE (leftS s a) = 0) (h3 : R.length = 1024) : decL s (f + 1) a R O = (7, [], []) := by
  rw [decL, if_neg (by omega), if_neg h0, if_neg h1, if_neg (by simpa using h2), if_pos h3]
theorem decL_next {s : ByteArray} {f a n : Nat} {R : List Rec} {O : List Nat} (h : a < s.size) (h0 : sB s a ≠ 0) (h1 : ¬ (leftS s a).size < sB s a) (h2 : decE (leftS s a) = 0) (h3 : R.length ≠ 1024) (hn : decN (leftS s a) = n) :
    decL s (f + 1) a R O = decL s f (a + n) (R ++ [decR (leftS s a)]) (O ++ [a]) := by
  rw [decL, if_neg (by omega), if_neg h0, if_neg h1, if_neg (by simpa using h2), if_neg h3, hn]
  rfl
theorem left_facts (s : ByteArray) (a : Nat) (h : a < s.size) (hm : s.size % 2048 = 0) : blkE a ≤ s.size ∧ a < blkE a ∧ blkE a ≤ a + 2048 ∧ (leftS s a).size = blkE a - a ∧ sB (leftS s a) 0 = sB s a := by
  have h1 : blkE a ≤ s.size := by unfold blkE; omega
  have h2 : a < blkE a := by unfold blkE; omega
  refine ⟨h1, h2, by unfold blkE; omega, ?_, ?_⟩
  · rw [leftS, ByteArray.size_extract]; omega
  · have e := extract_list s a (blkE a)
    unfold sB leftS
    rw [e]
    simp [List.getD_eq_getElem?_getD, show 0 < blkE a - a by omega]
set_option maxRecDepth 100000 in
set_option maxHeartbeats 4000000 in
theorem ddec_ok (s : ByteArray) (w : World) (hs : s.size < 2 ^ 61) : Calls Tryz.prog 27 #[.string s] w (DecEnd w (dirD s)) := by
  obtain ⟨i0, hi, hz0, hz1, hz2⟩ := info_parts i64Info
  obtain ⟨j0, hj, ky0, ky1, ky2⟩ := info_parts recInfo
  have g0 : (0 : Int) ≤ (s.size : Int) := by omega
  by_cases h1 : s.size % 2048 = 0
  · have t1 : Int.tmod (s.size : Int) 2048 = 0 := by rw [Int.tmod_eq_emod_of_nonneg (by omega)]; omega
    by_cases h2 : 131072 < s.size
    · have HX := Lib.hid (show dirD s = (7, [], []) by rw [dirD, if_neg (by omega), if_pos h2])
      have g1 : (131072 : Int) < (s.size : Int) := by omega
      clear h1 h2
      go_enter Tryz.func27, Tryz.ntmps27
      go_wp2
      go_ret3
      exact DecEnd.bad HX.out (Below.refl _ _)
    · have HX := Lib.hid (show dirD s = decL s (s.size + 1) 0 [] [] by rw [dirD, if_neg (by omega), if_neg h2])
      have g1 : ¬ (131072 : Int) < (s.size : Int) := by omega
      have H1 := Lib.hid h1
      clear h1 h2
      go_enter Tryz.func27, Tryz.ntmps27
      go_wp2
      go_loopw [7, 5, 6, 8, 9, 10, 11, 12] (fun i v u _ _ _ _ _ wr => ∃ (f a : Nat) (R : List Rec) (O : List Nat), i = cN a ∧ RL w R O v u wr ∧ decL s f a R O = dirD s ∧ s.size ≤ a + f ∧ a ≤ s.size ∧ R.length ≤ 1024 ∧ O.length = R.length) (fun i _ _ _ _ _ _ _ _ => s.size - (intOf i).toNat)
      case atStart => exact ⟨s.size + 1, 0, [], [], rfl, RL.start w, HX.out.symm, by omega, Nat.zero_le _, by simp, rfl⟩
      case round =>
        obtain ⟨f, a, R, O, rfl, hS, hE, hf, ha, hR, hO⟩ := hrel
        have HS := Lib.hid hS
        have HE := Lib.hid hE
        have HO := Lib.hid hO
        have hsz := hS.bel.size
        have hO2 : O.length ≤ 1024 := by omega
        clear hE hO
        by_cases hlt : (a : Int) < (s.size : Int)
        · have hlt' : a < s.size := by omega
          obtain ⟨f, rfl⟩ : ∃ f', f = f' + 1 := ⟨f - 1, by omega⟩
          obtain ⟨l1, l2, l3, l4, l5⟩ := left_facts s a hlt' H1.out
          obtain ⟨E, hEE⟩ : ∃ E, blkE a = E := ⟨_, rfl⟩
          obtain ⟨t, ht⟩ : ∃ t, leftS s a = t := ⟨_, rfl⟩
          obtain ⟨q, hq⟩ : ∃ q, a / 2048 = q := ⟨_, rfl⟩
          have hE2 : E = (q + 1) * 2048 := by rw [← hEE, blkE, hq]
          have e1 : Int.tdiv (a : Int) 2048 = (q : Int) := by rw [Int.tdiv_eq_ediv_of_nonneg (by omega)]; omega
          have e2 : (((q : Int) + 1) * 2048).toNat = E := by omega
          have e3 : s.extract a E = t := by rw [← ht, leftS, hEE]
          rw [ht] at l4 l5
          rw [hEE] at l1 l2 l3 l4
          have k1 : (a : Int) ≤ ((q : Int) + 1) * 2048 := by omega
          have k2 : ((q : Int) + 1) * 2048 ≤ s.size := by omega
          have k3 : (q : Int) ≤ 64 := by omega
          have k4 : (0 : Int) ≤ (q : Int) := by omega
          have k5 : (0 : Int) ≤ ((q : Int) + 1) * 2048 := by omega
          have h0 : 0 < t.size := by omega
          obtain ⟨c, hx⟩ : ∃ c, t[0]'h0 = c := ⟨_, rfl⟩
          have hc : c.toNat = sB s a := by rw [← hx, ← l5]; exact sB_get t 0 h0
          have HQ := Lib.hid hE2
          have HEE := Lib.hid hEE
          have HT := Lib.hid ht
          have HC := Lib.hid hc
          have ht1 : t.size ≤ 2048 := by omega
          have hc8 := UInt8.toNat_lt c
          have L4 := Lib.hid l4
          have L5 := Lib.hid l5
          clear hq hE2 hEE ht hc l4 l5
          by_cases hz : c.toNat = 0
          · have b1 : ((c.toNat : Int) == 0) = true := by rw [hz]; rfl
            have HN := Lib.hid (HE.out.symm.trans (decL_zero hlt' (by rw [← HC.out]; exact hz)))
            clear hz
            go_wp2
            go_roundw
            case rel => exact ⟨f, E, R, O, num_eq (by have := HQ.out; omega), HS.out, by rw [HN.out, HEE.out], by omega, by omega, hR, HO.out⟩
            case measure => simp [intOf]; omega
          · have b1 : ((c.toNat : Int) == 0) = false := by simp; omega
            have hz' : sB s a ≠ 0 := by rw [← HC.out]; exact hz
            by_cases hlong : t.size < c.toNat
            · have b2 : (t.size : Int) < (c.toNat : Int) := by omega
              have HN := Lib.hid (HE.out.symm.trans (decL_long hlt' hz' (by rw [HT.out, ← HC.out]; exact hlong)))
              clear hz hz' hlong
              go_wp2
              go_ret3
              exact DecEnd.bad HN.out hS.bel
            · have b2 : ¬ (t.size : Int) < (c.toNat : Int) := by omega
              have hnl : ¬ (leftS s a).size < sB s a := by rw [HT.out, ← HC.out]; exact hlong
              have c1 := fun W => decode_ok t W (by omega)
              by_cases hde : decE t = 0
              · obtain ⟨n, hn, hn34, hn255, hnc⟩ := decN_pos hde
                rw [hde, hn] at c1
                obtain ⟨r, hr⟩ : ∃ r, decR t = r := ⟨_, rfl⟩
                rw [hr] at c1
                have hbad : n ≤ t.size := by rw [hnc, L5.out, ← HC.out]; omega
                by_cases hfull : R.length = 1024
                · have HN := Lib.hid (HE.out.symm.trans (decL_full hlt' hz' hnl (by rw [HT.out]; exact hde) hfull))
                  have b3 : (R.length : Int) = 1024 := by omega
                  obtain ⟨a5, c5, rfl⟩ := hS.form1
                  clear hz hz' hlong hnl hde hn hr hnc hfull
                  go_wp2_with (go_at_call 50; (with_reducible refine (c1 _).mono ?_); rintro e w1 ⟨rfl, hB1⟩)
                  go_ret3
                  exact DecEnd.bad HN.out (bald (bthen HS.out.bel hB1) _)
                · have HN := Lib.hid (HE.out.symm.trans (decL_next hlt' hz' hnl (by rw [HT.out]; exact hde) hfull (by rw [HT.out]; exact hn)))
                  have b3 : ((R.length : Int) == 1024) = false := by simp; omega
                  obtain ⟨a5, c5, rfl⟩ := hS.form1
                  have HRR := Lib.hid hr
                  clear hz hz' hlong hnl hde hn hr hnc
                  go_wp2_with fail
                  with_reducible refine (c1 _).mono ?_
                  rintro e w1 ⟨rfl, hB1⟩
                  have H1 := HS.out.below (bald hB1 (.cells (recA r) 45))
                  have hsz1 := H1.bel.size
                  have HR2 : Hid (R.length ≤ 1024) := Lib.hid hR
                  clear hS hB1
                  go_wp2_with (at_builtin; refine wpList_append_own _ rfl (.tmp 54) (.tmp 56) 26 rfl w.heap.size 45 j0 (.agg #[.string ByteArray.empty, .int .i64 0, .int .i64 0, .int .i64 0, .int .i64 0, .int .i64 0, .int .i64 0, .string ByteArray.empty]) 8 80 Tryz.underlying26 hj ky0 ky1 ky2 rfl (by decide) _ _ _ rfl (H1.recs.alloc _) ⟨w1.heap.size + 1, 0, none⟩ 1 1 (recA r).toList rfl rfl ?c1 ?c2 ?c3 ?c4 ?c5 ?_)
                  try case c1 =>
                    intro j u hj
                    match j, hj with
                    | 0, hj => simp at hj; subst hj; simp [Addr.add]
                    | 1, hj => simp at hj; subst hj; simp [Addr.add]
                    | 2, hj => simp at hj; subst hj; simp [Addr.add]
                    | 3, hj => simp at hj; subst hj; simp [Addr.add]
                    | 4, hj => simp at hj; subst hj; simp [Addr.add]
                    | 5, hj => simp at hj; subst hj; simp [Addr.add]
                    | 6, hj => simp at hj; subst hj; simp [Addr.add]
                    | 7, hj => simp at hj; subst hj; simp [Addr.add]
                    | j + 8, hj => simp at hj
                  case c2 => exact ⟨rfl, rfl, rfl, rfl, rfl, rfl, rfl, rfl⟩
                  case c3 => unfold maxLen; omega
                  case c4 => omega
                  case c5 => simp at hsz1 ⊢; omega
                  intro v' w2 ho hg _
                  have H2 := H1.put1 ho hg
                  have hsz2 := H2.bel.size
                  clear ho hg H1
                  go_wp2_with (at_builtin; refine wpList_append_own _ rfl (.tmp 58) (.tmp 60) 33 rfl w.heap.size 3 i0 (.int .i64 0) 1 8 Tryz.underlying33 hi hz0 hz1 hz2 rfl (by decide) _ _ _ rfl (H2.offs.alloc _) ⟨w2.heap.size, 0, none⟩ 1 1 [cN (a : Int)] rfl rfl ?e1 ?e2 ?e3 ?e4 ?e5 ?_)
                  try case e1 => intro j u h; exact cell_one_new _ _ _ j u h
                  case e2 => first | rfl | (intro u h; rw [List.mem_singleton.1 h]; rfl)
                  case e3 => unfold maxLen; omega
                  case e4 => omega
                  case e5 => first | omega | (simp; omega)
                  intro u' w3 ho3 hg3 _
                  have H3 := H2.put2 ho3 hg3
                  have H3' := Lib.hid H3
                  clear ho3 hg3 H2 H3
                  go_wp2
                  go_roundw
                  case rel => exact ⟨f, a + n, R ++ [r], O ++ [a], by go_num, H3'.out, by rw [HN.out, HT.out, HRR.out], by omega, by have := L4.out; omega, by rw [List.length_append]; simp; omega, by rw [List.length_append, List.length_append, HO.out]; rfl⟩
                  case measure => simp [intOf]; omega
              · have HN := Lib.hid (HE.out.symm.trans (decL_err hlt' hz' hnl (by rw [HT.out]; exact hde)))
                rw [HT.out] at HN
                obtain ⟨x, hx2⟩ : ∃ x, decE t = x := ⟨_, rfl⟩
                rw [hx2] at c1 hde HN
                have b3 : (x != 0) = true := by simpa using hde
                clear hz hz' hlong hnl hde hx2
                go_wp2_with (go_at_call 50; (with_reducible refine (c1 _).mono ?_); rintro e w1 ⟨rfl, hB1⟩)
                go_ret3
                exact DecEnd.bad HN.out (bald (bthen HS.out.bel hB1) _)
        · have hae : a = s.size := by omega
          obtain ⟨a5, c5, rfl⟩ := RL.form1 hS
          obtain ⟨a6, c6, rfl⟩ := RL.form2 hS
          have HX2 := Lib.hid (HE.out.symm.trans (decL_end (by omega)))
          clear hS hae
          go_wp2
          go_ret3
          exact ⟨_, _, by rw [HX2.out]; rfl, by rw [HX2.out]; exact HS.out⟩
  · obtain ⟨m, hm⟩ : ∃ m : Nat, s.size % 2048 = m := ⟨_, rfl⟩
    have t1 : Int.tmod (s.size : Int) 2048 = (m : Int) := by rw [Int.tmod_eq_emod_of_nonneg (by omega)]; omega
    have t2 : ((m : Int) != 0) = true := by simp; omega
    have HX := Lib.hid (show dirD s = (1, [], []) by rw [dirD, if_pos h1])
    clear h1 hm
    go_enter Tryz.func27, Tryz.ntmps27
    go_wp2
    go_ret3
    exact DecEnd.bad HX.out (Below.refl _ _)
end Go.Proofs.YtnmlephjhcmbhaaGreat
