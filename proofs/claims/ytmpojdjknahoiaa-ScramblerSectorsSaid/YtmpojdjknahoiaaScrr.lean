/- What Scramble of the reference returns. -/
import Derived.Test.YtmpojdjknahoiaaScr
namespace Go.Proofs.Ytmpojdjknahoiaa
open Go Go.RowKit
attribute [local irreducible] seqL
set_option maxRecDepth 100000 in
set_option maxHeartbeats 400000 in
theorem refScramble_ok (s : ByteArray) (w : World) (h : (s.size : Int) = 2352) :
    Calls Try.prog 17 #[.string s] w fun e w' => e = .returned (.tuple #[.string ⟨(scrL s.data.toList 2340).toArray⟩, .int .i64 0]) ∧ Below w.heap.size w w' := by
  have hsz : (s.extract 12 s.size).size ≤ 65536 := by simp; omega
  have hx := fun W => xor_ok (s.extract 12 s.size) ⟨(seqL 2340).toArray⟩ W hsz
  have HX : Hid (s.extract 0 12 ++ (⟨(xorL (s.extract 12 s.size).data.toList (seqL 2340)).toArray⟩ : ByteArray) = ⟨(scrL s.data.toList 2340).toArray⟩) := by
    have h1 : s.data.toList.length = s.size := Array.length_toList
    rw [scrL_full _ 2340 (by omega)]
    apply ByteArray.ext
    apply Array.toList_inj.1
    have e1 : (s.extract 0 12).data.toList = s.data.toList.take 12 := by simp
    have e2 : (s.extract 12 s.size).data.toList = s.data.toList.drop 12 := by
      simp
      rw [List.take_of_length_le (by rw [List.length_drop]; omega)]
    rw [ByteArray.data_append, Array.toList_append, e1, e2]
  clear hsz
  have hXl : (xorL (s.extract 12 s.size).data.toList (seqL 2340)).length ≤ 2340 := by rw [xorL_length, seqL_length]; omega
  simp only [] at hx
  generalize xorL (s.extract 12 s.size).data.toList (seqL 2340) = X at hx HX hXl
  go_enter Try.func17, Try.ntmps17
  go_wp2_with (go_at_call 12; refine (refSeq_ok 2340 _ (by omega)).mono ?_; rintro e w1 ⟨rfl, hB⟩)
  refine region_sch (fun _ => True) [(true, 0), (true, 1), (true, 2), (true, 3), (true, 4), (false, 5)] [6, 7, 8] (by kernel_rfl) (by kernel_rfl) (by rintro ⟨_, _, h, _⟩; cases h) (fun _ _ d _ _ h => by cases d <;> exact h) trivial ?_
  simp only [pickM, pickT, List.filterMap_cons, List.filterMap_nil, List.getElem?_cons_zero, List.getElem?_cons_succ, Option.map_some]
  repeat (refine m_float ⟨?_, .inl ⟨?_, .inl ?_⟩, fun K' hK => ?_⟩; rotate_left; rfl; (intro w' _; go_simp; try rfl); (simp only [Act.put, List.setIfInBounds_toArray, List.set_cons_succ, List.set_cons_zero]; refine hK _ ?_; clear hK K'))
  refine m_loud ?_ (fun K' hK => ?_)
  · rintro ⟨_, _, h, _⟩; cases h
  go_wp2_with (go_at_call 18; refine (hx _).mono ?_; rintro e w2 ⟨rfl, hB2⟩)
  refine hK _ _ trivial (m_nil ?_)
  clear hK K'
  show wpList Try.prog _ _ (List.cons _ _) _ _
  go_wp2
  go_ret2
  exact ⟨by rw [← HX.out]; rfl, hB.drew.trans (hB2.mono hB.size)⟩
end Go.Proofs.Ytmpojdjknahoiaa
