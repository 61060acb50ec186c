/- Sparing tables: the reference's word and Valid. -/
import Derived.Test.YtocncjimepnlcaaGreatSpa
namespace Go.Proofs.YtocncjimepnlcaaGreat
set_option linter.unusedSimpArgs false
set_option linter.unusedVariables false
open Go Go.RowKit
set_option maxRecDepth 100000 in
set_option maxHeartbeats 400000 in
theorem rword_ok (n : Int) (w : World) : Calls Tryz.prog 28 #[cN n] w fun e w' => e = .returned (.bool (wordB n)) ∧ w = w' := by
  unfold wordB
  by_cases h1 : 0 ≤ n
  · by_cases h2 : n < 4294967296
    · rw [decide_eq_true ⟨h1, h2⟩]
      go_enter Tryz.func28, Tryz.ntmps28
      go_wp2
      go_ret
      exact ⟨rfl, rfl⟩
    · rw [decide_eq_false fun h => h2 h.2]
      go_enter Tryz.func28, Tryz.ntmps28
      go_wp2
      go_ret
      exact ⟨rfl, rfl⟩
  · rw [decide_eq_false fun h => h1 h.1]
    go_enter Tryz.func28, Tryz.ntmps28
    go_wp2
    go_ret
    exact ⟨rfl, rfl⟩
set_option maxRecDepth 100000 in
set_option maxHeartbeats 400000 in
theorem rvalid_word (s : Int) (v : Value) (l : List Sp) (w : World) (hs : wordB s = false) : Calls Tryz.prog 13 #[.agg #[cN s, v]] w fun e w' => e = .returned (.bool (validB s l)) ∧ Below w.heap.size w w' := by
  rw [show validB s l = false by rw [validB, hs]; rfl]
  have c1 := fun W => rword_ok s W
  rw [hs] at c1
  go_enter Tryz.func13, Tryz.ntmps13
  go_wp2_with (go_at_call 28; (with_reducible refine (c1 _).mono ?_); rintro e w1 ⟨rfl, rfl⟩)
  go_ret
  exact ⟨rfl, bal (Below.refl _ w) _⟩
set_option maxRecDepth 100000 in
set_option maxHeartbeats 400000 in
theorem rvalid_long (s : Int) (a : Option Addr) (c : Nat) (l : List Sp) (w : World) (hs : wordB s = true) (hl : (8 : Int) < (l.length : Int)) : Calls Tryz.prog 13 #[.agg #[cN s, .slice a l.length c]] w fun e w' => e = .returned (.bool (validB s l)) ∧ Below w.heap.size w w' := by
  rw [show validB s l = false by rw [validB, decide_eq_false (show ¬ l.length ≤ 8 by omega)]; simp]
  have c1 := fun W => rword_ok s W
  rw [hs] at c1
  go_enter Tryz.func13, Tryz.ntmps13
  go_wp2_with (go_at_call 28; (with_reducible refine (c1 _).mono ?_); rintro e w1 ⟨rfl, rfl⟩)
  go_ret
  exact ⟨rfl, bal (Below.refl _ w) _⟩
set_option maxRecDepth 100000 in
set_option maxHeartbeats 400000 in
theorem rvalid_nil (s : Int) (a : Option Addr) (c : Nat) (w : World) (hs : wordB s = true) : Calls Tryz.prog 13 #[.agg #[cN s, .slice a 0 c]] w fun e w' => e = .returned (.bool (validB s [])) ∧ Below w.heap.size w w' := by
  rw [show validB s [] = true by rw [validB, hs]; rfl]
  have c1 := fun W => rword_ok s W
  rw [hs] at c1
  go_enter Tryz.func13, Tryz.ntmps13
  go_wp2_with (go_at_call 28; (with_reducible refine (c1 _).mono ?_); rintro e w1 ⟨rfl, rfl⟩)
  go_loopw [3] (fun i wr => i = cN 0 ∧ wr = w.alloc (.cells #[cN s, .slice a 0 c] 26)) (fun _ _ => 0)
  case atStart => exact ⟨rfl, rfl⟩
  case round =>
    obtain ⟨rfl, rfl⟩ := hrel
    go_wp2
    go_ret
    exact ⟨rfl, bal (Below.refl _ w) _⟩
theorem maxmin (a b : Int) : max a b - min a b = max (a - b) (b - a) := by omega
set_option maxRecDepth 100000 in
set_option maxHeartbeats 4000000 in
theorem rvalid_row (s : Int) (b off c : Nat) (l : List Sp) (w : World) (hs : wordB s = true) (hl : l.length ≤ 8) (hc : l.length ≤ c) (hb : b < w.heap.size) (hr : Row w b off l) :
    Calls Tryz.prog 13 #[.agg #[cN s, .slice (some ⟨b, off, none⟩) l.length c]] w fun e w' => e = .returned (.bool (validB s l)) ∧ Below w.heap.size w w' := by
  have c1 := fun W => rword_ok s W
  rw [hs] at c1
  have HR := Lib.hid hr
  clear hr
  have hl8 : ¬ (8 : Int) < (l.length : Int) := by omega
  go_enter Tryz.func13, Tryz.ntmps13
  go_wp2_with (go_at_call 28; (with_reducible refine (c1 _).mono ?_); rintro e w1 ⟨rfl, rfl⟩)
  go_loopw [3] (fun i wr => ∃ k : Nat, i = cN k ∧ k ≤ l.length ∧ (∀ i, i < k → OkAt l i) ∧ wr.heap[w.heap.size]? = some (.cells #[cN s, .slice (some ⟨b, off, none⟩) l.length c] 26 (0, 0)) ∧ Below w.heap.size w wr) (fun i _ => l.length - (intOf i).toNat)
  case atStart => exact ⟨0, rfl, Nat.zero_le _, fun i h => absurd h (Nat.not_lt_zero _), World.alloc_heap_new w _, bal (Below.refl _ w) _⟩
  case round =>
    obtain ⟨k, rfl, hk, hok, hbox, hB⟩ := hrel
    generalize wr = wo at *
    have p1 := Lib.cell_of_heap hbox 1
    by_cases hlt : (k : Int) < (l.length : Int)
    · have hkl : k < l.length := by omega
      obtain ⟨q0, q1⟩ := (HR.out.below hb hB) k hkl
      obtain ⟨xo, xm, hx⟩ : ∃ xo xm, at_ l k = (xo, xm) := ⟨_, _, rfl⟩
      have HX := Lib.hid hx
      rw [hx] at q0 q1
      have HBX := Lib.hid hbox
      have HOK := Lib.hid hok
      have hkc : (k : Int) ≤ (c : Int) := by omega
      have hlt0 : w.heap.size < wo.heap.size := lt_of_block hbox
      have hbw : b < wo.heap.size := by have := hB.size; omega
      clear hx hbox hok
      have c2 := fun W => rword_ok xm W
      have c3 := fun W => rword_ok xo W
      cases h1 : wordB xm
      · rw [h1] at c2
        have HV : Hid (validB s l = false) := Lib.hid (valid_no1 hkl (by rw [HX.out, okE, h1]; rfl))
        clear h1
        go_wp2_with (first | (go_at_call 28; (with_reducible refine (c2 _).mono ?_); rintro e w1 ⟨rfl, rfl⟩) | (go_at_call 28; (with_reducible refine (c3 _).mono ?_); rintro e w1 ⟨rfl, rfl⟩))
        go_ret
        exact ⟨by rw [HV.out]; rfl, bal hB _⟩
      rw [h1] at c2
      cases h2 : wordB xo
      · rw [h2] at c3
        have HV : Hid (validB s l = false) := Lib.hid (valid_no1 hkl (by rw [HX.out, okE, h1, h2]; rfl))
        clear h1 h2
        go_wp2_with (first | (go_at_call 28; (with_reducible refine (c2 _).mono ?_); rintro e w1 ⟨rfl, rfl⟩) | (go_at_call 28; (with_reducible refine (c3 _).mono ?_); rintro e w1 ⟨rfl, rfl⟩))
        go_ret
        exact ⟨by rw [HV.out]; rfl, bal hB _⟩
      rw [h2] at c3
      have hxo : 0 ≤ xo ∧ xo < 4294967296 := by simpa [wordB] using h2
      have hxm : 0 ≤ xm ∧ xm < 4294967296 := by simpa [wordB] using h1
      obtain ⟨hxo0, hxo1⟩ := hxo
      obtain ⟨hxm0, hxm1⟩ := hxm
      obtain ⟨rm, hrm⟩ : ∃ rm, Int.tmod xo 8 = rm := ⟨_, rfl⟩
      have hrm8 : xo % 8 = rm := by rw [← hrm, Int.tmod_eq_emod_of_nonneg hxo0]
      have HC : Hid (wordB xm = true ∧ wordB xo = true ∧ xo % 8 = rm) := Lib.hid ⟨h1, h2, hrm8⟩
      clear h1 h2 hrm8
      by_cases hbad : (xo != 4294967295) = true ∧ (rm != 0) = true
      · obtain ⟨b1, b2⟩ := hbad
        have HV : Hid (validB s l = false) := Lib.hid (valid_no1 hkl (by rw [HX.out, okE, HC.out.1, HC.out.2.1, HC.out.2.2]; simp at b1 b2 ⊢; exact ⟨b1, b2⟩))
        go_wp2_with (first | (go_at_call 28; (with_reducible refine (c2 _).mono ?_); rintro e w1 ⟨rfl, rfl⟩) | (go_at_call 28; (with_reducible refine (c3 _).mono ?_); rintro e w1 ⟨rfl, rfl⟩))
        go_ret
        exact ⟨by rw [HV.out]; rfl, bal hB _⟩
      have HE : Hid (okE (xo, xm) = true) := Lib.hid (by
        rw [okE, HC.out.1, HC.out.2.1, HC.out.2.2]
        simp at hbad ⊢
        by_cases e : xo = 4294967295
        · exact .inl e
        · exact .inr (hbad e))
      have hcase : (xo != 4294967295) = false ∨ ((xo != 4294967295) = true ∧ (rm != 0) = false) := by
        cases e : (xo != 4294967295) with
        | false => exact .inl rfl
        | true =>
          cases e2 : (rm != 0) with
          | false => exact .inr ⟨rfl, rfl⟩
          | true => exact absurd ⟨e, e2⟩ hbad
      clear hbad
      rcases hcase with b1 | ⟨b1, b2⟩
      all_goals
        go_wp2_with (first | (go_at_call 28; (with_reducible refine (c2 _).mono ?_); rintro e w1 ⟨rfl, rfl⟩) | (go_at_call 28; (with_reducible refine (c3 _).mono ?_); rintro e w1 ⟨rfl, rfl⟩))
        have HB2 : Hid (Below w.heap.size w (wo.alloc (.cells #[cN xo, cN xm] 48))) := Lib.hid (bal hB _)
        have HX2 := World.alloc_heap_new wo (.cells #[cN xo, cN xm] 48)
        have HBX2 : Hid ((wo.alloc (.cells #[cN xo, cN xm] 48)).heap[w.heap.size]? = some (.cells #[cN s, .slice (some ⟨b, off, none⟩) l.length c] 26 (0, 0))) := Lib.hid ((Lib.alloc_old wo (.cells #[cN xo, cN xm] 48) _ hlt0).trans HBX.out)
        clear q0 q1 p1 c2 c3 b1 hrm
        try clear b2
        go_loopw [5] (fun j wq => ∃ m : Nat, j = cN m ∧ m ≤ k ∧ (∀ i, i < m → okP (at_ l i) (at_ l k) = true) ∧ wq.heap[wo.heap.size]? = some (.cells #[cN xo, cN xm] 48 (0, 0)) ∧ wq.heap[w.heap.size]? = some (.cells #[cN s, .slice (some ⟨b, off, none⟩) l.length c] 26 (0, 0)) ∧ Below w.heap.size w wq) (fun j _ => k - (intOf j).toNat)
        case atStart => exact ⟨0, rfl, Nat.zero_le _, fun i h => absurd h (Nat.not_lt_zero _), HX2, HBX2.out, HB2.out⟩
        case round =>
          obtain ⟨m, rfl, hm, hokm, hxq, hbq, hBq⟩ := hrel
          by_cases hmk : (m : Int) < (k : Int)
          · obtain ⟨r0, r1⟩ := (HR.out.below hb hBq) m (by omega)
            obtain ⟨yo, ym, hy⟩ : ∃ yo ym, at_ l m = (yo, ym) := ⟨_, _, rfl⟩
            have hE := (okE_iff _).1 (HOK.out m (by omega)).1
            rw [hy] at r0 r1 hE
            have HY := Lib.hid hy
            obtain ⟨⟨ym0, ym1⟩, ⟨yo0, yo1⟩, -⟩ := hE
            simp only at ym0 ym1 yo0 yo1
            have e0 := Lib.cell_of_heap hxq 0
            have e1 := Lib.cell_of_heap hxq 1
            have e2 := Lib.cell_of_heap hbq 1
            have hlq : wo.heap.size < wr.heap.size := lt_of_block hxq
            have hbwq : b < wr.heap.size := by omega
            have hml : (m : Int) < (l.length : Int) := by omega
            have HXQ := Lib.hid hxq
            have HBQ := Lib.hid hbq
            have HOM := Lib.hid hokm
            clear hy hxq hbq hokm
            have HP : Hid (∀ z, okP (yo, ym) (xo, xm) = z → okP (at_ l m) (at_ l k) = z) := Lib.hid fun z hz => by rw [HX.out, HY.out]; exact hz
            have hsub1 : IntKind.i64.wrap (max xm ym - min xm ym) = max xm ym - min xm ym := by rw [IntKind.wrap_i64]; omega
            by_cases ho : xo < yo
            · have HV : Hid (validB s l = false) := Lib.hid (valid_no2 hkl (show m < k by omega) (HP.out _ (by rw [okP, decide_eq_false (show ¬ (yo, ym).1 ≤ (xo, xm).1 from Int.not_le.2 ho)]; simp)))
              go_wp2
              go_ret
              exact ⟨by rw [HV.out]; rfl, bal hBq _⟩
            · have HO : Hid (yo ≤ xo) := Lib.hid (by omega)
              have key : ((yo == xo) = true ∧ (xo != 4294967295) = true) ∨ ((yo == xo) = false ∨ ((yo == xo) = true ∧ (xo != 4294967295) = false)) := by
                cases (yo == xo) <;> cases (xo != 4294967295) <;> simp
              rcases key with ⟨he1, he2⟩ | hrest
              · have HV : Hid (validB s l = false) := Lib.hid (valid_no2 hkl (show m < k by omega) (HP.out _ (by
                  rw [beq_iff_eq] at he1
                  have he2' : (xo == UN) = false := by rw [beq_eq_false_iff_ne]; rw [bne_iff_ne] at he2; exact he2
                  rw [okP, he1, he2']
                  simp)))
                go_wp2
                go_ret
                exact ⟨by rw [HV.out]; rfl, bal hBq _⟩
              · have HQ : Hid (yo = xo → xo = UN) := Lib.hid (by
                  rcases hrest with h | ⟨-, h⟩
                  · rw [beq_eq_false_iff_ne] at h
                    exact fun e => absurd e h
                  · rw [bne_eq_false_iff_eq] at h
                    exact fun _ => h)
                by_cases hg : max xm ym - min xm ym < 8
                · have HV : Hid (validB s l = false) := Lib.hid (valid_no2 hkl (show m < k by omega) (HP.out _ (by rw [okP, decide_eq_false (show ¬ 8 ≤ max (xm - ym) (ym - xm) by omega)]; rfl)))
                  rcases hrest with he1 | ⟨he1, he2⟩
                  · go_wp2
                    go_ret
                    exact ⟨by rw [HV.out]; rfl, bal hBq _⟩
                  · go_wp2
                    go_ret
                    exact ⟨by rw [HV.out]; rfl, bal hBq _⟩
                · have HV : Hid (okP (at_ l m) (at_ l k) = true) := Lib.hid (HP.out _ (by
                    rw [okP_iff]
                    exact ⟨by simp only; omega, HO.out, HQ.out⟩))
                  rcases hrest with he1 | ⟨he1, he2⟩
                  all_goals
                    go_wp2
                    go_roundw
                    case rel => exact ⟨m + 1, by go_num, by omega, fun i hi => (by
                        rcases Nat.lt_or_ge i m with h | h
                        · exact HOM.out i h
                        · rw [show i = m by omega]; exact HV.out), (Lib.alloc_old wr _ _ hlq).trans HXQ.out, (Lib.alloc_old wr _ _ (by omega)).trans HBQ.out, bal hBq _⟩
                    case measure => simp [intOf]; omega
          · obtain rfl : m = k := by omega
            have HOM := Lib.hid hokm
            have HBQ := Lib.hid hbq
            clear hokm hbq hxq
            go_wp2
            go_roundw
            case rel => exact ⟨m + 1, by go_num, by omega, fun i hi => (by
                rcases Nat.lt_or_ge i m with h | h
                · exact HOK.out i h
                · rw [show i = m by omega]; exact ⟨by rw [HX.out]; exact HE.out, HOM.out⟩), HBQ.out, hBq⟩
            case measure => simp [intOf]; omega
    · obtain rfl : k = l.length := by omega
      have HV : Hid (validB s l = true) := Lib.hid (valid_yes hs hl hok)
      clear hok
      go_wp2
      go_ret
      exact ⟨by rw [HV.out]; rfl, hB⟩
theorem rvalid_ok (s : Int) (v : Value) (l : List Sp) (w : World) (h : SL w v l) : Calls Tryz.prog 13 #[.agg #[cN s, v]] w fun e w' => e = .returned (.bool (validB s l)) ∧ Below w.heap.size w w' := by
  cases hs : wordB s with
  | false => exact rvalid_word s v l w hs
  | true =>
    rcases h with ⟨rfl, a, c, rfl⟩ | ⟨b, off, c, rfl, hc, hb, hr⟩
    · exact rvalid_nil s a c w hs
    · by_cases hl : l.length ≤ 8
      · exact rvalid_row s b off c l w hs hl hc hb hr
      · exact rvalid_long s _ c l w hs (by omega)
end Go.Proofs.YtocncjimepnlcaaGreat
