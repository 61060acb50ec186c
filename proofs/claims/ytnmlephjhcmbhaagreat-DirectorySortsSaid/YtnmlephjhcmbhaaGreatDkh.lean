/- slices.Repeat of one number. -/
import Derived.Test.YtnmlephjhcmbhaaGreatDkg
import Derived.Laws.CopyOwn
namespace Go.Proofs.YtnmlephjhcmbhaaGreat
set_option linter.unusedSimpArgs false
set_option linter.unusedVariables false
open Go Go.RowKit
theorem i64Size : (Tryz.prog.info? 3).map (·.size) = some 1 := by kernel_rfl
def half (N k : Nat) (v : Int) : List Value := List.replicate k (cN v) ++ List.replicate (N - k) (cN 0)
theorem splice_half (N k m : Nat) (v : Int) (h : k + m ≤ N) : splice (half N k v) k (List.replicate m (cN v)) = half N (k + m) v := by
  unfold splice half
  rw [List.length_replicate]
  have e1 : (List.replicate k (cN v) ++ List.replicate (N - k) (cN 0)).take k = List.replicate k (cN v) := by
    rw [List.take_append_of_le_length (by simp)]
    exact List.take_of_length_le (by simp)
  have e2 : (List.replicate k (cN v) ++ List.replicate (N - k) (cN 0)).drop (k + m) = List.replicate (N - (k + m)) (cN 0) := by
    rw [List.drop_append, List.drop_eq_nil_of_le (by simp), List.nil_append, List.drop_replicate, List.length_replicate]
    congr 1
    omega
  rw [e1, e2, ← List.append_assoc, List.replicate_append_replicate]
theorem half_get (N k j : Nat) (v : Int) (h : j < k) : (half N k v)[j]? = some (cN v) := by
  unfold half
  rw [List.getElem?_append_left (by simpa using h)]
  simp [h]
theorem make_ints (n : Nat) (v : Int) (hn : n ≤ 100000) (w : World) :
    (Instr.makeSlice 33 (cN n) (cN n)).run Tryz.prog w = .ok (.slice (some ⟨w.heap.size, 0, none⟩) n n) (w.alloc (.cells (half n 0 v).toArray 3)) := by
  obtain ⟨i0, hi, hz0, hz1, hz2⟩ := info_parts i64Info
  rw [run_make (P := Tryz.prog) w 33 3 i0 _ Tryz.underlying33 hi hz0 .i64 .i64 n n (by omega) (by omega) (by rw [hz2]; omega) (by omega), hz1]
  have : madeCells (Value.int IntKind.i64 0).cells ((n : Int).toNat * 1) = (half n 0 v).toArray := by
    apply Array.toList_inj.1
    rw [show (Value.int IntKind.i64 0).cells = #[Value.int IntKind.i64 0] from rfl, toList_madeCells_one]
    simp [half]
  rw [this]
  rfl
theorem lt_of_cell {W : World} {b : Nat} {o : Nat} {v : Value} (h : W.cell? ⟨b, o, none⟩ = some v) : b < W.heap.size := by
  unfold World.cell? at h
  rcases Nat.lt_or_ge b W.heap.size with hlt | hge
  · exact hlt
  · simp [hge] at h
set_option maxRecDepth 100000 in
set_option maxHeartbeats 2000000 in
theorem srep_ok (v : Int) (N g0 : Nat) (w : World) (h1 : 1 ≤ N) (h2 : N ≤ 1000) (hx : w.cell? ⟨g0, 0, none⟩ = some (cN v)) :
    Calls Tryz.prog 31 #[.slice (some ⟨g0, 0, none⟩) 1 1, cN N] w fun e w' => e = .returned (.slice (some ⟨w.heap.size, 0, none⟩) N N) ∧ w'.heap[w.heap.size]? = some (.cells (half N N v).toArray 3 (0, 0)) ∧ Below w.heap.size w w' := by
  have c1 : ∀ W, Calls Tryz.prog 51 #[.int .u64 1, .int .u64 N] W fun e w' => e = .returned (.tuple #[.int .u64 0, .int .u64 N]) ∧ w' = W := fun W => by
    have := Tryz.bits_Mul 1 N (by decide) (by omega) W
    rw [show 1 * N / 18446744073709551616 = 0 by omega, show 1 * N % 18446744073709551616 = N by omega] at this
    exact this
  have gN : (1 : Int) ≤ (N : Int) := by omega
  have gN2 : (N : Int) ≤ 1000 := by omega
  have hmk : ∀ W, (Instr.makeSlice 33 (cN N) (cN N)).run Tryz.prog W = .ok (.slice (some ⟨W.heap.size, 0, none⟩) N N) (W.alloc (.cells (half N 0 v).toArray 3)) := fun W => make_ints N v (by omega) W
  go_enter Tryz.func31, Tryz.ntmps31
  go_wp2_with fail
  with_reducible refine (c1 _).mono ?_
  rintro e w1 ⟨rfl, rfl⟩
  clear c1
  have hh : (w1.alloc (.cells (half N 0 v).toArray 3)).heap[w1.heap.size]? = some (.cells (half N 0 v).toArray 3 (0, 0)) := World.alloc_heap_new _ _
  have hb0 : Below w1.heap.size w1 (w1.alloc (.cells (half N 0 v).toArray 3)) := bald (Below.refl _ w1) _
  have hlt := lt_of_cell hx
  have hx2 : (w1.alloc (.cells (half N 0 v).toArray 3)).cell? ⟨g0, 0, none⟩ = some (cN v) := (hb0.cell (p := ⟨g0, 0, none⟩) hlt).trans hx
  have HH := Lib.hid hh
  have HB := Lib.hid hb0
  have HX := Lib.hid hx
  clear hh hb0 hx hx2
  go_wp2_with (with_reducible refine wpList_copy_splice rfl (.tmp 31) (.tmp 32) 33 33 rfl 3 Tryz.underlying33 i64Size (some ⟨w1.heap.size, 0, none⟩) (some ⟨g0, 0, none⟩) N N 1 1 rfl rfl w1.heap.size 0 (half N 0 v) 3 HH.out (List.replicate 1 (cN v)) ?d1 ?d2 ?d3 ?d4 w1.heap.size w1 HB.out (Nat.le_refl _) ?_)
  case d1 => show 1 = min 1 N; omega
  case d2 =>
    intro j u hj
    match j, hj with
    | 0, hj => simp at hj; subst hj; exact HX.out
    | j + 1, hj => simp at hj
  case d3 => simp [half]; omega
  case d4 => intro u hu; simp at hu; subst hu; rfl
  intro w2 hs hB2
  have h1' : w2.heap[w1.heap.size]? = some (.cells (half N 1 v).toArray 3 (0, 0)) := by
    have := hs.out
    have e := splice_half N 0 1 v (by omega)
    simp only [List.replicate] at e
    rw [e] at this
    exact this
  have H1' := Lib.hid h1'
  have HB2' := Lib.hid hB2
  clear hs h1' hB2
  go_wp2
  go_loopw [8] (fun q wr => ∃ k : Nat, 1 ≤ k ∧ k ≤ N ∧ q = cN k ∧ wr.heap[w1.heap.size]? = some (.cells (half N k v).toArray 3 (0, 0)) ∧ Below w1.heap.size w1 wr) (fun q _ => N - (intOf q).toNat)
  case atStart => exact ⟨1, Nat.le_refl _, h1, by go_num, H1'.out, HB2'.out⟩
  case round =>
    obtain ⟨k, hk1, hk2, rfl, hh, hB⟩ := hrel
    have HHr := Lib.hid hh
    have HBr := Lib.hid hB
    clear hh hB
    by_cases hlt : (k : Int) < (N : Int)
    · have k0 : (0 : Int) ≤ (k : Int) := by omega
      have k1 : (k : Int) ≤ (N : Int) := by omega
      have hne : ¬ N = k := by omega
      obtain ⟨m, hm⟩ : ∃ m, min k (N - k) = m := ⟨_, rfl⟩
      have hm1 : 1 ≤ m := by omega
      have hm2 : k + m ≤ N := by omega
      have hm3 : m ≤ k := by omega
      have HM := Lib.hid hm
      clear hm
      go_wp2
      refine region_sch (fun _ => True) [(true, 0), (true, 1), (true, 2), (true, 3), (true, 4), (true, 5), (true, 6), (false, 7)] [8, 9] (by kernel_rfl) (by kernel_rfl) (by rintro ⟨_, _, h, _⟩; cases h) (fun _ _ d _ _ h => by cases d <;> exact h) trivial ?_
      simp only [pickM, pickT, List.filterMap_cons, List.filterMap_nil, List.getElem?_cons_zero, List.getElem?_cons_succ, Option.map_some]
      repeat (refine m_float ⟨?_, .inl ⟨?_, .inl ?_⟩, fun K' hK => ?_⟩; rotate_left; (first | rfl | (go_simp; done)); (intro w' hS; go_simp; try rfl); (simp only [Act.put, List.setIfInBounds_toArray, List.set_cons_succ, List.set_cons_zero]; refine hK _ ?_; clear hK K'))
      refine m_loud ?_ (fun K' hK => ?_)
      · rintro ⟨_, _, h, _⟩; cases h
      refine wpList_copy_splice rfl (.tmp 41) (.tmp 44) 33 33 rfl 3 Tryz.underlying33 i64Size (some ⟨w1.heap.size, k, none⟩) (some ⟨w1.heap.size, 0, none⟩) (N - k) (N - k) k N rfl rfl w1.heap.size k (half N k v) 3 HHr.out (List.replicate m (cN v)) ?_ ?_ ?_ ?_ w1.heap.size w1 HBr.out.drew (Nat.le_refl _) ?_
      · rw [List.length_replicate, ← HM.out]
      · intro _
        refine ⟨rfl, _, rfl, fun j u hj => ?_⟩
        rw [List.getElem?_replicate] at hj
        split at hj
        · simp only [Option.some.injEq] at hj
          subst hj
          simp only [Addr.add, Nat.zero_add]
          have := Lib.cell_of_heap HHr.out j
          simp only [List.getElem?_toArray] at this
          rw [half_get N k j v (by omega)] at this
          split
          · rename_i h0; subst h0; exact this
          · exact this
        · cases hj
      · simp [half]; omega
      · intro u hu; rw [List.eq_of_mem_replicate hu]; rfl
      intro w3 hs hB3
      rw [splice_half N k m v hm2] at hs
      have k2 : IntKind.i64.wrap ((k : Int) + m) = (k : Int) + m := by rw [IntKind.wrap_i64]; omega
      rw [List.length_replicate]
      have hs' := hs.out
      have HS3 := Lib.hid hs'
      have HB3 := Lib.hid hB3
      clear hs hs' hB3
      simp only [goInt, Act.put, List.setIfInBounds_toArray, List.set_cons_succ, List.set_cons_zero]
      go_wp2
      refine hK _ _ trivial ?_
      clear hK K'
      refine m_nil ?_
      show wpList Tryz.prog _ _ (List.cons _ _) _ _
      go_wp2
      go_roundw
      case rel => exact ⟨k + m, by omega, hm2, by go_num, HS3.out, HB3.out⟩
      case measure => simp [intOf]; omega
    · obtain rfl : k = N := by omega
      go_wp2
      go_ret
      exact ⟨rfl, HHr.out, HBr.out⟩
end Go.Proofs.YtnmlephjhcmbhaaGreat
