/- Sparing tables: word, Valid. -/
import Derived.Test.YtocncjimepnlcaaGreatDoorProg
import Derived.Test.YtocncjimepnlcaaGreatDoorGen
import Derived.Test.YtocncjimepnlcaaGreatDoorRgw
import Derived.Test.YtocncjimepnlcaaGreatDoorSpm
namespace Go.Proofs.YtocncjimepnlcaaGreatDoor
set_option linter.unusedSimpArgs false
set_option linter.unusedVariables false
open Go Go.RowKit
abbrev cN (n : Int) : Value := .int .i64 n
theorem lt_of_block {w : World} {k : Nat} {o : Obj} (h : w.heap[k]? = some o) : k < w.heap.size := by
  rcases Nat.lt_or_ge k w.heap.size with h' | h'
  · exact h'
  · simp [Array.getElem?_eq_none h'] at h
theorem bal {w W : World} (h : Below w.heap.size w W) (o : Obj) : Below w.heap.size w (W.alloc o) := bthen h ((Below.refl _ _).alloc (Nat.le_refl _) o)
/-- An entry of a list. -/
def at_ (l : List Sp) (i : Nat) : Sp := l.getD i (0, 0)
theorem at_mem {l : List Sp} {i : Nat} (h : i < l.length) : at_ l i ∈ l := by
  rw [at_, List.getD_eq_getElem?_getD, List.getElem?_eq_getElem h, Option.getD_some]
  exact List.getElem_mem h
/-- The cells of a row of entries. -/
def Row (w : World) (b off : Nat) (l : List Sp) : Prop := ∀ i, i < l.length → w.cell? ⟨b, off + i * 2, none⟩ = some (cN (at_ l i).1) ∧ w.cell? ⟨b, off + i * 2 + 1, none⟩ = some (cN (at_ l i).2)
/-- A slice of entries. -/
def SL (w : World) (v : Value) (l : List Sp) : Prop :=
  (l = [] ∧ ∃ a c, v = .slice a 0 c) ∨ ∃ b off c, v = .slice (some ⟨b, off, none⟩) l.length c ∧ l.length ≤ c ∧ b < w.heap.size ∧ Row w b off l
theorem Row.below {w w' : World} {b off : Nat} {l : List Sp} (h : Row w b off l) (hb : b < w.heap.size) (k : Below w.heap.size w w') : Row w' b off l := fun i hi => by
  rw [k.cell (p := ⟨b, off + i * 2, none⟩) hb, k.cell (p := ⟨b, off + i * 2 + 1, none⟩) hb]
  exact h i hi
theorem SL.below {w w' : World} {v : Value} {l : List Sp} (h : SL w v l) (k : Below w.heap.size w w') : SL w' v l := by
  rcases h with h | ⟨b, off, c, hv, hc, hb, hr⟩
  · exact .inl h
  · exact .inr ⟨b, off, c, hv, hc, Nat.lt_of_lt_of_le hb k.size, hr.below hb k⟩
set_option maxRecDepth 100000 in
set_option maxHeartbeats 400000 in
theorem word_ok (n : Int) (w : World) : Calls Tryz.prog 18 #[cN n] w fun e w' => e = .returned (.bool (wordB n)) ∧ w = w' := by
  unfold wordB
  by_cases h1 : 0 ≤ n
  · by_cases h2 : n < 4294967296
    · rw [decide_eq_true ⟨h1, h2⟩]
      go_enter Tryz.func18, Tryz.ntmps18
      go_wp2
      go_ret
      exact ⟨rfl, rfl⟩
    · rw [decide_eq_false fun h => h2 h.2]
      go_enter Tryz.func18, Tryz.ntmps18
      go_wp2
      go_ret
      exact ⟨rfl, rfl⟩
  · rw [decide_eq_false fun h => h1 h.1]
    go_enter Tryz.func18, Tryz.ntmps18
    go_wp2
    go_ret
    exact ⟨rfl, rfl⟩
/-- The entry k is right, and so is its place behind the entries in front of it. -/
def OkAt (l : List Sp) (k : Nat) : Prop := okE (at_ l k) = true ∧ ∀ j, j < k → okP (at_ l j) (at_ l k) = true
theorem pairs_at (l : List Sp) : pairsB l = true ↔ ∀ k, k < l.length → ∀ j, j < k → okP (at_ l j) (at_ l k) = true := by
  rw [pairsB_iff, List.pairwise_iff_getElem]
  constructor
  · intro h k hk j hj
    have := h j k (by omega) hk hj
    rwa [at_, at_, List.getD_eq_getElem?_getD, List.getD_eq_getElem?_getD, List.getElem?_eq_getElem hk, List.getElem?_eq_getElem (show j < l.length by omega), Option.getD_some, Option.getD_some]
  · intro h j k hj hk hjk
    have := h k hk j hjk
    rwa [at_, at_, List.getD_eq_getElem?_getD, List.getD_eq_getElem?_getD, List.getElem?_eq_getElem hk, List.getElem?_eq_getElem hj, Option.getD_some, Option.getD_some] at this
theorem valid_yes {s : Int} {l : List Sp} (hs : wordB s = true) (hl : l.length ≤ 8) (h : ∀ k, k < l.length → OkAt l k) : validB s l = true := by
  rw [validB, hs, decide_eq_true hl, (pairs_at l).2 fun k hk => (h k hk).2]
  simp only [Bool.true_and, Bool.and_true, List.all_eq_true]
  intro x hx
  obtain ⟨i, hi, rfl⟩ := List.getElem_of_mem hx
  have := (h i hi).1
  rwa [at_, List.getD_eq_getElem?_getD, List.getElem?_eq_getElem hi, Option.getD_some] at this
theorem valid_no1 {s : Int} {l : List Sp} {k : Nat} (hk : k < l.length) (h : okE (at_ l k) = false) : validB s l = false := by
  cases hv : validB s l with
  | false => rfl
  | true =>
    simp only [validB, Bool.and_eq_true, List.all_eq_true] at hv
    rw [hv.2.2.1 _ (at_mem hk)] at h
    cases h
theorem valid_no2 {s : Int} {l : List Sp} {k j : Nat} (hk : k < l.length) (hj : j < k) (h : okP (at_ l j) (at_ l k) = false) : validB s l = false := by
  cases hv : validB s l with
  | false => rfl
  | true =>
    simp only [validB, Bool.and_eq_true] at hv
    rw [(pairs_at l).1 hv.2.2.2 k hk j hj] at h
    cases h
set_option maxRecDepth 100000 in
set_option maxHeartbeats 400000 in
theorem valid_word (s : Int) (v : Value) (l : List Sp) (w : World) (hs : wordB s = false) : Calls Tryz.prog 10 #[.agg #[cN s, v]] w fun e w' => e = .returned (.bool (validB s l)) ∧ Below w.heap.size w w' := by
  rw [show validB s l = false by rw [validB, hs]; rfl]
  have c1 := fun W => word_ok s W
  rw [hs] at c1
  go_enter Tryz.func10, Tryz.ntmps10
  go_wp2_with (go_at_call 18; (with_reducible refine (c1 _).mono ?_); rintro e w1 ⟨rfl, rfl⟩)
  go_ret
  exact ⟨rfl, bal (Below.refl _ w) _⟩
set_option maxRecDepth 100000 in
set_option maxHeartbeats 400000 in
theorem valid_long (s : Int) (a : Option Addr) (c : Nat) (l : List Sp) (w : World) (hs : wordB s = true) (hl : (8 : Int) < (l.length : Int)) : Calls Tryz.prog 10 #[.agg #[cN s, .slice a l.length c]] w fun e w' => e = .returned (.bool (validB s l)) ∧ Below w.heap.size w w' := by
  rw [show validB s l = false by rw [validB, decide_eq_false (show ¬ l.length ≤ 8 by omega)]; simp]
  have c1 := fun W => word_ok s W
  rw [hs] at c1
  go_enter Tryz.func10, Tryz.ntmps10
  go_wp2_with (go_at_call 18; (with_reducible refine (c1 _).mono ?_); rintro e w1 ⟨rfl, rfl⟩)
  go_ret
  exact ⟨rfl, bal (Below.refl _ w) _⟩
set_option maxRecDepth 100000 in
set_option maxHeartbeats 400000 in
theorem valid_nil (s : Int) (a : Option Addr) (c : Nat) (w : World) (hs : wordB s = true) : Calls Tryz.prog 10 #[.agg #[cN s, .slice a 0 c]] w fun e w' => e = .returned (.bool (validB s [])) ∧ Below w.heap.size w w' := by
  rw [show validB s [] = true by rw [validB, hs]; rfl]
  have c1 := fun W => word_ok s W
  rw [hs] at c1
  go_enter Tryz.func10, Tryz.ntmps10
  go_wp2_with (go_at_call 18; (with_reducible refine (c1 _).mono ?_); rintro e w1 ⟨rfl, rfl⟩)
  go_loopw [20] (fun i wr => i = cN 0 ∧ wr = w.alloc (.cells #[cN s, .slice a 0 c] 24)) (fun _ _ => 0)
  case atStart => exact ⟨rfl, rfl⟩
  case round =>
    obtain ⟨rfl, rfl⟩ := hrel
    go_wp2
    go_ret
    exact ⟨rfl, bal (Below.refl _ w) _⟩
set_option maxRecDepth 100000 in
set_option maxHeartbeats 2000000 in
theorem valid_row (s : Int) (b off c : Nat) (l : List Sp) (w : World) (hs : wordB s = true) (hl : l.length ≤ 8) (hc : l.length ≤ c) (hb : b < w.heap.size) (hr : Row w b off l) :
    Calls Tryz.prog 10 #[.agg #[cN s, .slice (some ⟨b, off, none⟩) l.length c]] w fun e w' => e = .returned (.bool (validB s l)) ∧ Below w.heap.size w w' := by
  have c1 := fun W => word_ok s W
  rw [hs] at c1
  have HR := Lib.hid hr
  clear hr
  have hl8 : ¬ (8 : Int) < (l.length : Int) := by omega
  go_enter Tryz.func10, Tryz.ntmps10
  go_wp2_with (go_at_call 18; (with_reducible refine (c1 _).mono ?_); rintro e w1 ⟨rfl, rfl⟩)
  go_loopw [20] (fun i wr => ∃ k : Nat, i = cN k ∧ k ≤ l.length ∧ (∀ i, i < k → OkAt l i) ∧ wr.heap[w.heap.size]? = some (.cells #[cN s, .slice (some ⟨b, off, none⟩) l.length c] 24 (0, 0)) ∧ Below w.heap.size w wr) (fun i _ => l.length - (intOf i).toNat)
  case atStart => exact ⟨0, rfl, Nat.zero_le _, fun i h => absurd h (Nat.not_lt_zero _), World.alloc_heap_new w _, bal (Below.refl _ w) _⟩
  case round =>
    obtain ⟨k, rfl, hk, hok, hbox, hB⟩ := hrel
    generalize wr = wo at *
    by_cases hlt : (k : Int) < (l.length : Int)
    · have hkl : k < l.length := by omega
      obtain ⟨q0, q1⟩ := (HR.out.below hb hB) k hkl
      obtain ⟨xo, xm, hx⟩ : ∃ xo xm, at_ l k = (xo, xm) := ⟨_, _, rfl⟩
      have HX := Lib.hid hx
      rw [hx] at q0 q1
      have p1 := Lib.cell_of_heap hbox 1
      have HBX := Lib.hid hbox
      have HOK := Lib.hid hok
      have hkc : (k : Int) ≤ (c : Int) := by omega
      have hlt0 : w.heap.size < wo.heap.size := lt_of_block hbox
      have hbw : b < wo.heap.size := by have := hB.size; omega
      clear hx hbox hok
      have c2 := fun W => word_ok xm W
      have c3 := fun W => word_ok xo W
      cases h1 : wordB xm
      · rw [h1] at c2
        have HV : Hid (validB s l = false) := Lib.hid (valid_no1 hkl (by rw [HX.out, okE, h1]; rfl))
        clear h1
        go_wp2_with (first | (go_at_call 18; (with_reducible refine (c2 _).mono ?_); rintro e w1 ⟨rfl, rfl⟩) | (go_at_call 18; (with_reducible refine (c3 _).mono ?_); rintro e w1 ⟨rfl, rfl⟩))
        go_ret
        exact ⟨by rw [HV.out]; rfl, bal hB _⟩
      rw [h1] at c2
      cases h2 : wordB xo
      · rw [h2] at c3
        have HV : Hid (validB s l = false) := Lib.hid (valid_no1 hkl (by rw [HX.out, okE, h1, h2]; rfl))
        clear h1 h2
        go_wp2_with (first | (go_at_call 18; (with_reducible refine (c2 _).mono ?_); rintro e w1 ⟨rfl, rfl⟩) | (go_at_call 18; (with_reducible refine (c3 _).mono ?_); rintro e w1 ⟨rfl, rfl⟩))
        go_ret
        exact ⟨by rw [HV.out]; rfl, bal hB _⟩
      rw [h2] at c3
      have hxo : 0 ≤ xo ∧ xo < 4294967296 := by simpa [wordB] using h2
      have hxm : 0 ≤ xm ∧ xm < 4294967296 := by simpa [wordB] using h1
      obtain ⟨hxo0, hxo1⟩ := hxo
      obtain ⟨hxm0, hxm1⟩ := hxm
      obtain ⟨rm, hrm⟩ : ∃ rm, Int.tmod xo 8 = rm := ⟨_, rfl⟩
      have hrm8 : xo % 8 = rm := by rw [← hrm, Int.tmod_eq_emod_of_nonneg hxo0]
      have HC : Hid (wordB xm = true ∧ wordB xo = true ∧ xo % 8 = rm) := Lib.hid ⟨h1, h2, hrm8⟩
      clear h1 h2 hrm8
      by_cases hbad : (xo != 4294967295) = true ∧ (rm != 0) = true
      · obtain ⟨b1, b2⟩ := hbad
        have HV : Hid (validB s l = false) := Lib.hid (valid_no1 hkl (by rw [HX.out, okE, HC.out.1, HC.out.2.1, HC.out.2.2]; simp at b1 b2 ⊢; exact ⟨b1, b2⟩))
        go_wp2_with (first | (go_at_call 18; (with_reducible refine (c2 _).mono ?_); rintro e w1 ⟨rfl, rfl⟩) | (go_at_call 18; (with_reducible refine (c3 _).mono ?_); rintro e w1 ⟨rfl, rfl⟩))
        go_ret
        exact ⟨by rw [HV.out]; rfl, bal hB _⟩
      have HE : Hid (okE (xo, xm) = true) := Lib.hid (by
        rw [okE, HC.out.1, HC.out.2.1, HC.out.2.2]
        simp at hbad ⊢
        by_cases e : xo = 4294967295
        · exact .inl e
        · exact .inr (hbad e))
      have hcase : (xo != 4294967295) = false ∨ ((xo != 4294967295) = true ∧ (rm != 0) = false) := by
        cases e : (xo != 4294967295) with
        | false => exact .inl rfl
        | true =>
          cases e2 : (rm != 0) with
          | false => exact .inr ⟨rfl, rfl⟩
          | true => exact absurd ⟨e, e2⟩ hbad
      clear hbad
      rcases hcase with b1 | ⟨b1, b2⟩
      all_goals
        go_wp2_with (first | (go_at_call 18; (with_reducible refine (c2 _).mono ?_); rintro e w1 ⟨rfl, rfl⟩) | (go_at_call 18; (with_reducible refine (c3 _).mono ?_); rintro e w1 ⟨rfl, rfl⟩))
        have HB2 : Hid (Below w.heap.size w (wo.alloc (.cells #[cN xo, cN xm] 54))) := Lib.hid (bal hB _)
        have HX2 := World.alloc_heap_new wo (.cells #[cN xo, cN xm] 54)
        have HBX2 : Hid ((wo.alloc (.cells #[cN xo, cN xm] 54)).heap[w.heap.size]? = some (.cells #[cN s, .slice (some ⟨b, off, none⟩) l.length c] 24 (0, 0))) := Lib.hid ((Lib.alloc_old wo (.cells #[cN xo, cN xm] 54) _ hlt0).trans HBX.out)
        clear q0 q1 p1 c2 c3 b1 hrm
        try clear b2
        go_loopw [51] (fun j wq => ∃ m : Nat, j = cN m ∧ m ≤ k ∧ (∀ i, i < m → okP (at_ l i) (at_ l k) = true) ∧ wq.heap[wo.heap.size]? = some (.cells #[cN xo, cN xm] 54 (0, 0)) ∧ wq.heap[w.heap.size]? = some (.cells #[cN s, .slice (some ⟨b, off, none⟩) l.length c] 24 (0, 0)) ∧ Below w.heap.size w wq) (fun j _ => k - (intOf j).toNat)
        case atStart => exact ⟨0, rfl, Nat.zero_le _, fun i h => absurd h (Nat.not_lt_zero _), HX2, HBX2.out, HB2.out⟩
        case round =>
          obtain ⟨m, rfl, hm, hokm, hxq, hbq, hBq⟩ := hrel
          by_cases hmk : (m : Int) < (k : Int)
          · obtain ⟨r0, r1⟩ := (HR.out.below hb hBq) m (by omega)
            obtain ⟨yo, ym, hy⟩ : ∃ yo ym, at_ l m = (yo, ym) := ⟨_, _, rfl⟩
            have hE := (okE_iff _).1 (HOK.out m (by omega)).1
            rw [hy] at r0 r1 hE
            have HY := Lib.hid hy
            obtain ⟨⟨ym0, ym1⟩, ⟨yo0, yo1⟩, -⟩ := hE
            simp only at ym0 ym1 yo0 yo1
            have e0 := Lib.cell_of_heap hxq 0
            have e1 := Lib.cell_of_heap hxq 1
            have hlq : wo.heap.size < wr.heap.size := lt_of_block hxq
            have hbwq : b < wr.heap.size := by omega
            have HXQ := Lib.hid hxq
            have HBQ := Lib.hid hbq
            have HOM := Lib.hid hokm
            clear hy hxq hbq hokm
            have HP : Hid (∀ z, okP (yo, ym) (xo, xm) = z → okP (at_ l m) (at_ l k) = z) := Lib.hid fun z hz => by rw [HX.out, HY.out]; exact hz
            have hsub1 : IntKind.i64.wrap (xm - ym) = xm - ym := by rw [IntKind.wrap_i64]; omega
            have hsub2 : IntKind.i64.wrap (ym - xm) = ym - xm := by rw [IntKind.wrap_i64]; omega
            by_cases hg : max (xm - ym) (ym - xm) < 8
            · have HV : Hid (validB s l = false) := Lib.hid (valid_no2 hkl (show m < k by omega) (HP.out _ (by rw [okP, decide_eq_false (show ¬ 8 ≤ max (xm - ym) (ym - xm) by omega)]; rfl)))
              go_wp2
              go_ret
              exact ⟨by rw [HV.out]; rfl, bal hBq _⟩
            · have HG : Hid (8 ≤ max (xm - ym) (ym - xm)) := Lib.hid (by omega)
              by_cases ho : xo < yo
              · have HV : Hid (validB s l = false) := Lib.hid (valid_no2 hkl (show m < k by omega) (HP.out _ (by rw [okP, decide_eq_false (show ¬ (yo, ym).1 ≤ (xo, xm).1 from Int.not_le.2 ho)]; simp)))
                go_wp2
                go_ret
                exact ⟨by rw [HV.out]; rfl, bal hBq _⟩
              · have HO : Hid (yo ≤ xo) := Lib.hid (by omega)
                cases he1 : (yo == xo)
                · have HV : Hid (okP (at_ l m) (at_ l k) = true) := Lib.hid (HP.out _ (by
                    rw [okP_iff]
                    have := HG.out
                    rw [beq_eq_false_iff_ne] at he1
                    exact ⟨by simp only; omega, HO.out, fun e => absurd e he1⟩))
                  go_wp2
                  go_roundw
                  case rel => exact ⟨m + 1, by go_num, by omega, fun i hi => (by
                      rcases Nat.lt_or_ge i m with h | h
                      · exact HOM.out i h
                      · rw [show i = m by omega]; exact HV.out), (Lib.alloc_old wr _ _ hlq).trans HXQ.out, (Lib.alloc_old wr _ _ (by omega)).trans HBQ.out, bal hBq _⟩
                  case measure => simp [intOf]; omega
                · cases he2 : (xo != 4294967295)
                  · have HV : Hid (okP (at_ l m) (at_ l k) = true) := Lib.hid (HP.out _ (by
                      rw [okP_iff]
                      have := HG.out
                      rw [bne_eq_false_iff_eq] at he2
                      exact ⟨by simp only; omega, HO.out, fun _ => he2⟩))
                    go_wp2
                    go_roundw
                    case rel => exact ⟨m + 1, by go_num, by omega, fun i hi => (by
                        rcases Nat.lt_or_ge i m with h | h
                        · exact HOM.out i h
                        · rw [show i = m by omega]; exact HV.out), (Lib.alloc_old wr _ _ hlq).trans HXQ.out, (Lib.alloc_old wr _ _ (by omega)).trans HBQ.out, bal hBq _⟩
                    case measure => simp [intOf]; omega
                  · have HV : Hid (validB s l = false) := Lib.hid (valid_no2 hkl (show m < k by omega) (HP.out _ (by
                      rw [beq_iff_eq] at he1
                      have he2' : (xo == UN) = false := by rw [beq_eq_false_iff_ne]; rw [bne_iff_ne] at he2; exact he2
                      rw [okP, he1, he2']
                      simp)))
                    go_wp2
                    go_ret
                    exact ⟨by rw [HV.out]; rfl, bal hBq _⟩
          · obtain rfl : m = k := by omega
            have HOM := Lib.hid hokm
            have HBQ := Lib.hid hbq
            clear hokm hbq hxq
            go_wp2
            go_roundw
            case rel => exact ⟨m + 1, by go_num, by omega, fun i hi => (by
                rcases Nat.lt_or_ge i m with h | h
                · exact HOK.out i h
                · rw [show i = m by omega]; exact ⟨by rw [HX.out]; exact HE.out, HOM.out⟩), HBQ.out, hBq⟩
            case measure => simp [intOf]; omega
    · obtain rfl : k = l.length := by omega
      have HV : Hid (validB s l = true) := Lib.hid (valid_yes hs hl hok)
      clear hok
      go_wp2
      go_ret
      exact ⟨by rw [HV.out]; rfl, hB⟩
theorem valid_ok (s : Int) (v : Value) (l : List Sp) (w : World) (h : SL w v l) : Calls Tryz.prog 10 #[.agg #[cN s, v]] w fun e w' => e = .returned (.bool (validB s l)) ∧ Below w.heap.size w w' := by
  cases hs : wordB s with
  | false => exact valid_word s v l w hs
  | true =>
    rcases h with ⟨rfl, a, c, rfl⟩ | ⟨b, off, c, rfl, hc, hb, hr⟩
    · exact valid_nil s a c w hs
    · by_cases hl : l.length ≤ 8
      · exact valid_row s b off c l w hs hl hc hb hr
      · exact valid_long s _ c l w hs (by omega)
end Go.Proofs.YtocncjimepnlcaaGreatDoor
