/- The reference's Offsets and Blocks. -/
import Derived.Test.YtnmlephjhcmbhaaGreatDkg
import Derived.Test.YtnmlephjhcmbhaaGreatDkl
namespace Go.Proofs.YtnmlephjhcmbhaaGreat
set_option linter.unusedSimpArgs false
set_option linter.unusedVariables false
open Go Go.RowKit
theorem OfEnd.bad {w w' : World} {l : List Int} (h : okL l = false) (hB : Below w.heap.size w w') : OfEnd w (offM l) (.returned (.slice none 0 0)) w' := by
  refine ⟨.slice none 0 0, rfl, ?_⟩
  rw [offM, h]; exact ⟨⟨rfl, .inl ⟨rfl, rfl⟩⟩, hB⟩
theorem OfEnd.good {w w' : World} {l : List Int} {v : Value} {A : Nat} (h : PlS w l l.length v A w') : OfEnd w (offM l) (.returned v) w' := by
  obtain ⟨h1, h2, h3⟩ := h
  rw [List.take_length] at h1 h2 h3
  refine ⟨v, rfl, ?_⟩
  rw [offM, h1]; exact h3
set_option maxRecDepth 100000 in
set_option maxHeartbeats 2000000 in
theorem roffs_ok (a : Option Addr) (c : Nat) (l : List Int) (w : World) (hl : l.length ≤ 2000) (hrow : RowI w a l) :
    Calls Tryz.prog 23 #[.slice a l.length c] w (OfEnd w (offM l)) := by
  obtain ⟨i0, hi, hz0, hz1, hz2⟩ := info_parts i64Info
  have HR := Lib.hid hrow
  clear hrow
  go_enter Tryz.func23, Tryz.ntmps23
  go_wp2
  go_loopw [5, 3, 4] (fun i v q wr => ∃ k A : Nat, i = cN k ∧ k ≤ l.length ∧ q = cN (A : Int) ∧ PlS w l k v A wr) (fun i _ _ _ => l.length - (intOf i).toNat)
  case atStart => exact ⟨0, 0, rfl, Nat.zero_le _, rfl, rfl, rfl, ⟨⟨rfl, .inl ⟨rfl, rfl⟩⟩, Below.refl _ _⟩⟩
  case round =>
    obtain ⟨k, A, rfl, hk, rfl, hS⟩ := hrel
    have hA := hS.le hk
    have HS := Lib.hid hS
    have hown0 := hS.2.2.1
    have hB := hS.2.2.2
    have hlen : (plcs 0 (natS (l.take k))).length = k := by rw [plcs_len]; simp [natS]; omega
    rw [hlen] at hown0
    clear hS hlen
    obtain ⟨xs, hxs⟩ : ∃ xs, xs = ints (plcs 0 (natS (l.take k))) := ⟨_, rfl⟩
    rw [← hxs] at hown0
    have hown := hown0
    clear hown0
    by_cases hlt : (k : Int) < (l.length : Int)
    · have hkl : k < l.length := by omega
      obtain ⟨b, off, rfl, hb, hc⟩ := HR.out k hkl
      have hc' := (hB.cell (p := ⟨b, off + k, none⟩) hb).trans hc
      obtain ⟨x, hx⟩ : ∃ x, l.getD k 0 = x := ⟨_, rfl⟩
      have hc0 := hc
      rw [hx] at hc' hc0
      have HC0 := Lib.hid hc0
      clear hc0
      have HX0 := Lib.hid hx
      clear hc hx
      by_cases h34 : x < 34
      · have hbad : okL l = false := okL_false l k hkl (by rw [HX0.out]; unfold okS; exact decide_eq_false (by omega))
        have HBAD := Lib.hid hbad
        clear hbad hown
        go_wp2
        go_ret
        exact OfEnd.bad HBAD.out hB
      · by_cases h254 : 254 < x
        · have hbad : okL l = false := okL_false l k hkl (by rw [HX0.out]; unfold okS; exact decide_eq_false (by omega))
          have HBAD := Lib.hid hbad
          clear hbad hown
          go_wp2
          go_ret
          exact OfEnd.bad HBAD.out hB
        · obtain ⟨n, rfl⟩ : ∃ n : Nat, x = n := ⟨x.toNat, by omega⟩
          have g0 : (0 : Int) ≤ (n : Int) := by omega
          by_cases hpar : n % 2 = 0
          · have hok : okS (n : Int) = true := by unfold okS; exact decide_eq_true (by omega)
            have ht : Int.tmod (n : Int) 2 = 0 := by rw [Int.tmod_eq_emod_of_nonneg (by omega)]; omega
            obtain ⟨m, hm⟩ : ∃ m : Nat, A % 2048 = m := ⟨_, rfl⟩
            have hm2 : Int.tmod (A : Int) 2048 = (m : Int) := by rw [Int.tmod_eq_emod_of_nonneg (by omega)]; omega
            have hm3 : m < 2048 := by omega
            have hA0 : (0 : Int) ≤ (A : Int) := by omega
            have HX := Lib.hid (show l.getD k 0 = (n : Int) from HX0.out)
            have HO := Lib.hid hok
            have HXS := Lib.hid hxs
            by_cases hroom : 2048 - m < n
            · have hp : plc A n = A + (2048 - m) := by rw [plc, hm, if_pos hroom]
              have g1 : (2048 : Int) < m + n := by omega
              have HP : Hid (((plc A n : Nat) : Int) = (A : Int) - m + 2048) := Lib.hid (by rw [hp]; omega)
              clear hm hok hxs hp hpar hroom
              go_wp2_with (at_builtin; refine wpList_append_own _ rfl _ _ 33 rfl w.heap.size 3 i0 (.int .i64 0) 1 8 Tryz.underlying33 hi hz0 hz1 hz2 rfl (by decide) _ _ _ rfl (own_keep hown ((Below.refl _ wr).alloc (Nat.le_refl _) _)) ⟨wr.heap.size, 0, none⟩ 1 1 [cN ((A : Int) - m + 2048)] rfl rfl ?c1a ?c2a ?c3a ?c4a ?c5a ?_)
              try case c1a => intro j u h; exact cell_one_new _ _ _ j u h
              case c2a => first | rfl | (intro u h; rw [List.mem_singleton.1 h]; rfl)
              case c3a => unfold maxLen; omega
              case c4a => omega
              case c5a => have := hB.size; first | omega | (simp; omega)
              intro v' w1 hown1 hgrow hnn
              have hB1 : Below w.heap.size w w1 := (hB.alloc hB.size _).grown hgrow (by simp; have := hB.size; omega) (fun k e => (hown.lt k e).1)
              have hc2 := (hB1.cell (p := ⟨b, off + k, none⟩) hb).trans HC0.out
              have H2 := Lib.hid (HS.out.snoc (v' := v') (W' := w1) hkl HX.out HO.out (by rw [HP.out, ← HXS.out]; exact hown1) hB1)
              clear hown1 hgrow hnn hB1 hown hB
              go_wp2
              go_roundw
              case rel => exact ⟨k + 1, plc A n + n, by go_num, by omega, num_eq (by have := HP.out; omega), H2.out⟩
              case measure => simp [intOf]; omega
            · have hp : plc A n = A := by rw [plc, hm, if_neg hroom]
              have g1 : ¬ (2048 : Int) < m + n := by omega
              have HP : Hid (((plc A n : Nat) : Int) = (A : Int)) := Lib.hid (by rw [hp])
              clear hm hok hxs hp hpar hroom
              go_wp2_with (at_builtin; refine wpList_append_own _ rfl _ _ 33 rfl w.heap.size 3 i0 (.int .i64 0) 1 8 Tryz.underlying33 hi hz0 hz1 hz2 rfl (by decide) _ _ _ rfl (own_keep hown ((Below.refl _ wr).alloc (Nat.le_refl _) _)) ⟨wr.heap.size, 0, none⟩ 1 1 [cN ((A : Int))] rfl rfl ?c1b ?c2b ?c3b ?c4b ?c5b ?_)
              try case c1b => intro j u h; exact cell_one_new _ _ _ j u h
              case c2b => first | rfl | (intro u h; rw [List.mem_singleton.1 h]; rfl)
              case c3b => unfold maxLen; omega
              case c4b => omega
              case c5b => have := hB.size; first | omega | (simp; omega)
              intro v' w1 hown1 hgrow hnn
              have hB1 : Below w.heap.size w w1 := (hB.alloc hB.size _).grown hgrow (by simp; have := hB.size; omega) (fun k e => (hown.lt k e).1)
              have hc2 := (hB1.cell (p := ⟨b, off + k, none⟩) hb).trans HC0.out
              have H2 := Lib.hid (HS.out.snoc (v' := v') (W' := w1) hkl HX.out HO.out (by rw [HP.out, ← HXS.out]; exact hown1) hB1)
              clear hown1 hgrow hnn hB1 hown hB
              go_wp2
              go_roundw
              case rel => exact ⟨k + 1, plc A n + n, by go_num, by omega, num_eq (by have := HP.out; omega), H2.out⟩
              case measure => simp [intOf]; omega
          · have ht : Int.tmod (n : Int) 2 = 1 := by rw [Int.tmod_eq_emod_of_nonneg (by omega)]; omega
            have hbad : okL l = false := okL_false l k hkl (by rw [HX0.out]; unfold okS; exact decide_eq_false (by omega))
            have HBAD := Lib.hid hbad
            clear hbad hown hpar
            go_wp2
            go_ret
            exact OfEnd.bad HBAD.out hB
    · obtain rfl : k = l.length := by omega
      clear hown
      go_wp2
      go_ret
      exact OfEnd.good HS.out
theorem offM_last (l : List Int) : (offM l = [] ∧ blkM l = 0) ∨ ∃ p, (offM l).getLast? = some p ∧ blkM l = p / 2048 + 1 := by
  by_cases h : okL l = true
  · rcases List.eq_nil_or_concat l with rfl | ⟨q, x, rfl⟩
    · left
      decide
    · right
      rw [List.concat_eq_append] at *
      obtain ⟨h1, h2⟩ := blkM_last q x h
      exact ⟨_, by rw [h2]; simp, h1⟩
  · left
    unfold blkM endM offM
    rw [if_neg h, if_neg h]
    exact ⟨rfl, rfl⟩
set_option maxRecDepth 100000 in
set_option maxHeartbeats 400000 in
theorem rblks_ok (a : Option Addr) (c : Nat) (l : List Int) (w : World) (hl : l.length ≤ 2000) (hrow : RowI w a l) :
    Calls Tryz.prog 20 #[.slice a l.length c] w fun e w' => e = .returned (cN (blkM l : Nat)) ∧ Below w.heap.size w w' := by
  have c1 := roffs_ok a c l w hl hrow
  have hlen : (offM l).length ≤ 2000 := by
    unfold offM
    split
    · rw [plcs_len]; simpa [natS] using hl
    · simp
  clear hrow
  rcases offM_last l with ⟨h1, h2⟩ | ⟨p, h1, h2⟩
  · rw [h1] at c1
    rw [h2]
    clear h1 h2 hlen
    go_enter Tryz.func20, Tryz.ntmps20
    go_wp2_with fail
    with_reducible refine c1.mono ?_
    rintro e w1 ⟨v, rfl, hI⟩
    obtain ⟨a1, d1, rfl⟩ := own_form hI.1
    have HI := Lib.hid hI
    clear hI
    go_wp2
    go_ret
    exact ⟨rfl, HI.out.2⟩
  · rw [h2]
    have hne : offM l ≠ [] := by intro e; rw [e] at h1; cases h1
    have hpos : 0 < (offM l).length := List.length_pos_iff.2 hne
    obtain ⟨n, hn⟩ : ∃ n, (offM l).length = n := ⟨_, rfl⟩
    have hget : (offM l).getD (n - 1) 0 = p := by
      rw [List.getLast?_eq_getElem?, hn] at h1
      rw [List.getD_eq_getElem?_getD, h1, Option.getD_some]
    have HG := Lib.hid hget
    have HN := Lib.hid hn
    obtain ⟨j, rfl⟩ : ∃ j, n = j + 1 := ⟨n - 1, by omega⟩
    have g0 : (0 : Int) ≤ (p : Int) := by omega
    have hn2 : j + 1 ≤ 2000 := by omega
    clear h1 h2 hne hpos hn hget hlen
    go_enter Tryz.func20, Tryz.ntmps20
    go_wp2_with fail
    with_reducible refine c1.mono ?_
    rintro e w1 ⟨v, rfl, hI⟩
    obtain ⟨g, d1, rfl, -, hc⟩ := own_ints hI.1 j (by rw [HN.out]; omega)
    rw [HN.out]
    have hj : (offM l).getD j 0 = p := HG.out
    rw [hj] at hc
    have HI := Lib.hid hI
    have b1 : (((j + 1 : Nat) : Int) == 0) = false := by simp; omega
    have b2 : ((j : Int) + 1 == 0) = false := by simp; omega
    have b3 : IntKind.i64.wrap (j : Int) = (j : Int) := by rw [IntKind.wrap_i64]; omega
    have b4 : (j : Int) < (j : Int) + 1 := by omega
    have b5 : Int.tdiv (p : Int) 2048 = ((p / 2048 : Nat) : Int) := by rw [Int.tdiv_eq_ediv_of_nonneg (by omega)]; omega
    have hp : p < 2 ^ 40 := by
      have h1 := endM_le l
      have h2 : blkM l = (endM l + 2047) / 2048 := rfl
      rcases offM_last l with ⟨e1, -⟩ | ⟨q, e1, e2⟩
      · rw [e1] at hj; simp at hj; omega
      · have e3 := HN.out
        rw [List.getLast?_eq_getElem?, e3] at e1
        have : (offM l).getD j 0 = q := by rw [List.getD_eq_getElem?_getD, show j = j + 1 - 1 by omega, e1, Option.getD_some]
        omega
    have b6 : IntKind.i64.wrap (((p / 2048 : Nat) : Int) + 1) = ((p / 2048 : Nat) : Int) + 1 := by rw [IntKind.wrap_i64]; omega
    clear hI hj
    go_wp2
    go_ret
    exact ⟨ret_int (by omega), HI.out.2⟩
end Go.Proofs.YtnmlephjhcmbhaaGreat
