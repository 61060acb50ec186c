/- The reference's New. -/
import Derived.Test.YtocncjimepnlcaaGreatSpc
namespace Go.Proofs.YtocncjimepnlcaaGreat
set_option linter.unusedSimpArgs false
set_option linter.unusedVariables false
open Go Go.RowKit
set_option maxRecDepth 100000 in
set_option maxHeartbeats 1000000 in
theorem rnew_bad (start n : Int) (w : World) (h : start < 0 ∨ (0 ≤ start ∧ n < 8) ∨ (0 ≤ start ∧ 8 ≤ n ∧ 64 < n) ∨ (0 ≤ start ∧ 8 ≤ n ∧ n ≤ 64 ∧ Int.tmod n 8 ≠ 0) ∨ (0 ≤ start ∧ 8 ≤ n ∧ n ≤ 64 ∧ Int.tmod n 8 = 0 ∧ 4096 - n < start)) :
    Calls Tryz.prog 8 #[.agg #[cN start, cN n]] w fun e w' => e = .returned (.tuple #[.agg #[cN 0, .slice none 0 0], cN 2]) ∧ Below w.heap.size w w' := by
  have hf : ∃ r, Int.tmod n 8 = r := ⟨_, rfl⟩
  obtain ⟨r, hr⟩ := hf
  rw [hr] at h
  have hE : ((r != 0) = true ∧ r ≠ 0) ∨ ((r != 0) = false ∧ r = 0) := by
    by_cases e : r = 0
    · exact .inr ⟨by rw [e]; rfl, e⟩
    · exact .inl ⟨by rw [bne_iff_ne]; exact e, e⟩
  have hN : ((w.alloc (.cells #[cN start, cN n] 23)).alloc (.cells #[.int .i64 0, .slice none 0 0] 26)).heap[w.heap.size + 1]? = some (.cells #[.int .i64 0, .slice none 0 0] 26 (0, 0)) := by
    have := World.alloc_heap_new (w.alloc (.cells #[cN start, cN n] 23)) (.cells #[.int .i64 0, .slice none 0 0] 26)
    rwa [World.size_alloc] at this
  have q0 := Lib.cell_of_heap hN 0
  have q1 := Lib.cell_of_heap hN 1
  have HQ := Lib.hid (And.intro q0 q1)
  clear hN q0 q1
  rcases h with h | ⟨h1, h2⟩ | ⟨h1, h2, h3⟩ | ⟨h1, h2, h3, h4⟩ | ⟨h1, h2, h3, h4, h5⟩
  · go_enter Tryz.func8, Tryz.ntmps8
    go_wp2
    obtain ⟨q0, q1⟩ := HQ.out
    refine bodyPost_ret (v := .tuple #[.agg #[cN 0, .slice none 0 0], cN 2]) ?_ rfl ⟨rfl, bal (bal (Below.refl _ w) _) _⟩
    simp [results, Tryz.results8, go_sem, q0, q1]
  · go_enter Tryz.func8, Tryz.ntmps8
    go_wp2
    obtain ⟨q0, q1⟩ := HQ.out
    refine bodyPost_ret (v := .tuple #[.agg #[cN 0, .slice none 0 0], cN 2]) ?_ rfl ⟨rfl, bal (bal (Below.refl _ w) _) _⟩
    simp [results, Tryz.results8, go_sem, q0, q1]
  · go_enter Tryz.func8, Tryz.ntmps8
    go_wp2
    obtain ⟨q0, q1⟩ := HQ.out
    refine bodyPost_ret (v := .tuple #[.agg #[cN 0, .slice none 0 0], cN 2]) ?_ rfl ⟨rfl, bal (bal (Below.refl _ w) _) _⟩
    simp [results, Tryz.results8, go_sem, q0, q1]
  · rcases hE with ⟨e1, e2⟩ | ⟨e1, e2⟩
    · go_enter Tryz.func8, Tryz.ntmps8
      go_wp2
      obtain ⟨q0, q1⟩ := HQ.out
      refine bodyPost_ret (v := .tuple #[.agg #[cN 0, .slice none 0 0], cN 2]) ?_ rfl ⟨rfl, bal (bal (Below.refl _ w) _) _⟩
      simp [results, Tryz.results8, go_sem, q0, q1]
    · exact absurd e2 h4
  · rcases hE with ⟨e1, e2⟩ | ⟨e1, e2⟩
    · exact absurd h4 e2
    · have hs : IntKind.i64.wrap (4096 - n) = 4096 - n := by rw [IntKind.wrap_i64]; omega
      go_enter Tryz.func8, Tryz.ntmps8
      go_wp2
      obtain ⟨q0, q1⟩ := HQ.out
      refine bodyPost_ret (v := .tuple #[.agg #[cN 0, .slice none 0 0], cN 2]) ?_ rfl ⟨rfl, bal (bal (Below.refl _ w) _) _⟩
      simp [results, Tryz.results8, go_sem, q0, q1]
set_option maxRecDepth 100000 in
set_option maxHeartbeats 2000000 in
theorem rnew_good (start : Int) (m : Nat) (w : World) (h0 : 0 ≤ start) (hm1 : 1 ≤ m) (hm8 : m ≤ 8) (hs : start ≤ 4096 - 8 * m) :
    Calls Tryz.prog 8 #[.agg #[cN start, cN (8 * (m : Int))]] w fun e w' => ∃ v, e = .returned (.tuple #[.agg #[cN 1, v], cN 0]) ∧ OW w.heap.size v (newT start m) w' ∧ Below w.heap.size w w' := by
  obtain ⟨i0, hi, hz0, hz1, hz2⟩ := info_parts spInfo
  obtain ⟨n, hn⟩ : ∃ n : Int, 8 * (m : Int) = n := ⟨_, rfl⟩
  have g1 : Int.tmod n 8 = 0 := by rw [Int.tmod_eq_emod_of_nonneg (by omega)]; omega
  have g3 : ¬ n < 8 := by omega
  have g4 : ¬ 64 < n := by omega
  have g5 : ¬ 4096 - n < start := by omega
  have g6 : IntKind.i64.wrap (4096 - n) = 4096 - n := by rw [IntKind.wrap_i64]; omega
  have g7 : n ≤ 64 := by omega
  have hs2 : start ≤ 4096 := by omega
  have HNM := Lib.hid hn
  rw [hn]
  clear hn hs
  go_enter Tryz.func8, Tryz.ntmps8
  go_wp2
  go_loopw [5] (fun i wr => ∃ (k : Nat) (v : Value), i = cN (8 * (k : Int)) ∧ k ≤ m ∧ NS w start n k v wr) (fun i _ => (n - intOf i).toNat)
  case atStart =>
    refine ⟨0, .slice none 0 0, rfl, Nat.zero_le _, ?_, ?_, ?_, OW.nil _ _, bal (bal (bal (Below.refl _ w) _) _) _⟩
    · exact (Lib.alloc_old _ _ _ (by simp; omega)).trans ((Lib.alloc_old _ _ _ (by simp)).trans (World.alloc_heap_new w _))
    · refine (Lib.alloc_old _ _ _ (by simp)).trans ?_
      have := World.alloc_heap_new (w.alloc (.cells #[cN start, cN n] 23)) (.cells #[.int .i64 0, .slice none 0 0] 26)
      rwa [World.size_alloc] at this
    · have := World.alloc_heap_new ((w.alloc (.cells #[cN start, cN n] 23)).alloc (.cells #[.int .i64 0, .slice none 0 0] 26)) (.cells #[.int .i64 1, .slice none 0 0] 26)
      rwa [World.size_alloc, World.size_alloc] at this
  case round =>
    obtain ⟨k, v, rfl, hk, H⟩ := hrel
    have p0 := Lib.cell_of_heap H.b0 0
    have p1 := Lib.cell_of_heap H.b0 1
    have p2 := Lib.cell_of_heap H.b2 1
    have hlt3 := lt_of_block H.b2
    by_cases hlt : (k : Int) < (m : Int)
    · have e0 : 8 * (k : Int) < n := by have := HNM.out; omega
      have e2 : IntKind.i64.wrap (start + 8 * (k : Int)) = start + 8 * (k : Int) := by rw [IntKind.wrap_i64]; omega
      have e3 : IntKind.i64.wrap (8 * (k : Int) + 8) = 8 * ((k + 1 : Nat) : Int) := by rw [IntKind.wrap_i64]; omega
      go_wp2_with (at_builtin; refine wpList_append_own _ rfl _ _ 24 rfl (w.heap.size + 3) 48 i0 (.agg #[.int .i64 0, .int .i64 0]) 2 16 Tryz.underlying24 hi hz0 hz1 hz2 rfl (by decide) v (newT start k).length (flat (newT start k)) rfl (H.own.keep ((Below.refl _ wr).alloc (Nat.le_refl _) _)) ⟨wr.heap.size, 0, none⟩ 1 1 [cN UN, cN (start + 8 * (k : Int))] rfl rfl ?c1 ?c2 ?c3 ?c4 ?c5 ?_)
      case c1 =>
        intro j u hj
        match j, hj with
        | 0, hj => simp at hj; subst hj; simp [Addr.add]
        | 1, hj => simp at hj; subst hj; simp [Addr.add]
      case c2 => intro u hu; simp at hu; rcases hu with rfl | rfl <;> rfl
      case c3 => rw [newT_len]; unfold maxLen; omega
      case c4 => rw [newT_len]; omega
      case c5 => simp; omega
      intro v' w2 hown hgrow _
      obtain ⟨B2, N2⟩ := H.put hown hgrow
      have p3 := Lib.cell_of_heap B2 1
      have f3 := Lib.frozen_of_heap B2 1
      obtain ⟨a', c', rfl⟩ := N2.own.form
      clear hown hgrow p0 p1 p2 e2
      have HN := Lib.hid N2
      clear N2 B2 H
      go_wp2
      go_roundw
      case rel => exact ⟨k + 1, _, (by rw [show (8 * ((k : Int) + 1)) = 8 * ((k + 1 : Nat) : Int) by omega]), by omega, HN.out⟩
      case measure => simp [intOf]; omega
    · obtain rfl : k = m := by omega
      have e0 : ¬ 8 * (k : Int) < n := by have := HNM.out; omega
      obtain ⟨a', c', rfl⟩ := H.own.form
      have p3 := Lib.cell_of_heap H.b2 0
      have p1' := fun j => Lib.frozen_of_heap H.b1 j
      have p4 := Lib.cell_of_heap H.b1 0
      have p5 := Lib.cell_of_heap H.b1 1
      go_wp2
      have h1 := row_set 0 (.int .i64 1) H.b1
      have h2 := row_set 1 (.slice a' (newT start k).length c') h1
      have q0 := Lib.cell_of_heap h2 0
      have q1 := Lib.cell_of_heap h2 1
      have hO : OW w.heap.size (.slice a' (newT start k).length c') (newT start k) ((wr.setCell ⟨w.heap.size + 1, 0, none⟩ (.int .i64 1)).setCell ⟨w.heap.size + 1, 1, none⟩ (.slice a' (newT start k).length c')) := ((H.own.other (i := 0) (u := .int .i64 1) (by omega)).other (i := 1) (by omega)).base (by omega)
      have hB := (H.bel.setCell (p := ⟨w.heap.size + 1, 0, none⟩) (by simp only; omega) (.int .i64 1)).setCell (p := ⟨w.heap.size + 1, 1, none⟩) (by simp only; omega) (.slice a' (newT start k).length c')
      clear p0 p1 p1' p2 p3 p4 p5
      refine bodyPost_ret (v := .tuple #[.agg #[cN 1, .slice a' (newT start k).length c'], cN 0]) ?_ rfl ⟨_, rfl, hO, hB⟩
      simp [results, Tryz.results8, go_sem, q0, q1]
end Go.Proofs.YtocncjimepnlcaaGreat
