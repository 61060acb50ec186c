/- strings.Builder at this program: copyCheck, Write, WriteByte, WriteString. (The shelf's own layings fall here: the translator refuses copyCheck's last region.) -/
import Derived.Test.YtnmlephjhcmbhaaProg
import Derived.Test.YtnmlephjhcmbhaaGen
import Derived.Shelf.Strings.Builder1
namespace Go.Proofs.Ytnmlephjhcmbhaa
set_option linter.unusedSimpArgs false
set_option linter.unusedVariables false
open Go Go.RowKit
theorem bldInfo : (Try.prog.info? 73).map (·.size) = some 2 := by kernel_rfl
theorem bldLies : liesAt Try.prog Try.prog.depth 73 (2 / Try.prog.cellsOf 73) 0 73 1 = true := by kernel_rfl
theorem u8Info : (Try.prog.info? 5).map (fun i => (i.zero, i.size, i.bytes)) = some (some (.int .u8 0), 1, 1) := by kernel_rfl
abbrev Bd (B b : Nat) (p : Value) (bs : List Value) (w : World) : Prop := Lib.BuilderAt 73 5 B b p bs w
abbrev IsB (B b : Nat) (bs : List Value) (w : World) : Prop := Lib.IsBuilder 73 5 B b bs w
abbrev ptr (b : Nat) : Value := .pointer (some ⟨b, 0, none⟩)
theorem row_far (W : World) (b j : Nat) (v : Value) {k : Nat} (h : k ≠ b) : (W.setCell ⟨b, j, none⟩ v).heap[k]? = W.heap[k]? := by
  simp only [World.setCell, Array.getElem?_modify]
  rw [if_neg (fun e => h e.symm)]
set_option maxHeartbeats 1000000 in
set_option maxRecDepth 100000 in
theorem copyCheck_used (b : Nat) (w : World) (h0 : w.cell? ⟨b, 0, none⟩ = some (ptr b)) :
    Calls Try.prog 111 #[ptr b] w fun e w' => e = .returned (.tuple #[]) ∧ w' = w := by
  obtain ⟨j, hj, _⟩ := Option.map_eq_some_iff.1 bldInfo
  go_enter Try.func111, Try.ntmps111
  go_wp2
  rw [Lib.run_neq_ptr_same w _ Try.underlying71 hj]
  go_wp2
  go_end0
  exact ⟨rfl, rfl⟩
set_option maxHeartbeats 1000000 in
set_option maxRecDepth 100000 in
theorem copyCheck_fresh (b : Nat) (w : World) (h0 : w.cell? ⟨b, 0, none⟩ = some (.pointer none)) (hsh : w.shape? b = some (73, 2)) (hfz : w.frozen? ⟨b, 0, none⟩ = false) :
    Calls Try.prog 111 #[ptr b] w fun e w' => e = .returned (.tuple #[]) ∧ w' = w.setCell ⟨b, 0, none⟩ (ptr b) := by
  obtain ⟨j, hj, hjs⟩ := Option.map_eq_some_iff.1 bldInfo
  go_enter Try.func111, Try.ntmps111
  go_wp2
  rw [Lib.run_to_unsafe w ⟨b, 0, none⟩ Try.underlying71 Try.underlying155 hj (by rw [hjs]; decide) hsh (Nat.zero_lt_succ 1)]
  simp only [Result.andThen]
  rw [Oper.upon_value]
  go_wp2
  rw [run_callFunc_extern Try.func156 (by kernel_rfl) (by kernel_rfl) (by kernel_rfl) (e := Extern.AbiNoEscape.same) (by kernel_rfl)]
  rw [Lib.run_noEscape]
  simp only [Result.andThen]
  rw [Oper.upon_value]
  go_wp2
  rw [Lib.run_from_unsafe w ⟨b, 0, none⟩ Try.underlying155 Try.underlying71 hj hsh bldLies]
  simp only [Result.andThen]
  rw [Oper.upon_value]
  go_wp2
  go_end0
  exact ⟨rfl, rfl⟩
theorem copyCheck_ok (B b : Nat) (bs : List Value) (w : World) (h : IsB B b bs w) :
    Calls Try.prog 111 #[ptr b] w fun e w' => e = .returned (.tuple #[]) ∧ (Bd B b (ptr b) bs w' ∧ Below B w w') ∧ Hid (∀ k, k ≠ b → w'.heap[k]? = w.heap[k]?) := by
  rcases h with h | h
  · refine (copyCheck_fresh b w h.cell0 h.shape h.frozen0).mono ?_
    rintro e w' ⟨rfl, rfl⟩
    exact ⟨rfl, ⟨h.used _, (Below.refl B w).setCell (p := ⟨b, 0, none⟩) h.1 _⟩, Lib.hid fun k hk => row_far _ _ _ _ hk⟩
  · refine (copyCheck_used b w h.cell0).mono ?_
    rintro e w' ⟨rfl, rfl⟩
    exact ⟨rfl, ⟨h, Below.refl B _⟩, Lib.hid fun _ _ => rfl⟩
set_option maxHeartbeats 2000000 in
set_option maxRecDepth 100000 in
theorem writeByte_ok (B b : Nat) (bs : List Value) (c : Int) (w : World) (h : IsB B b bs w) (hlen : bs.length + 1 ≤ 140737488355328) (hBw : B ≤ w.heap.size) :
    Calls Try.prog 54 #[ptr b, .int .u8 c] w fun e w' => e = .returned .nilIface ∧ (Bd B b (ptr b) (bs ++ [.int .u8 c]) w' ∧ Below B w w') := by
  obtain ⟨i0, hi, hz0, hz1, hz2⟩ := info_parts u8Info
  go_enter Try.func54, Try.ntmps54
  go_wp2_with (go_at_call 111; refine (copyCheck_ok B b bs _ h).mono ?_)
  rintro e w1 ⟨rfl, ⟨h1, hb1⟩, -⟩
  obtain ⟨hB, v, hbk, hown, hne⟩ := h1
  have c0 : w1.cell? ⟨b, 0, none⟩ = some (ptr b) := by rw [Lib.cell_of_heap hbk]; rfl
  have c1 : w1.cell? ⟨b, 1, none⟩ = some v := by rw [Lib.cell_of_heap hbk]; rfl
  go_wp2_with (at_builtin; refine wpList_append_own _ rfl _ _ 37 rfl B 5 i0 (.int .u8 0) 1 1 Try.underlying37 hi hz0 hz1 hz2 rfl (by decide) _ _ _ rfl (hown.alloc _) ⟨w1.heap.size, 0, none⟩ 1 1 [.int .u8 c] rfl rfl ?c1 ?c2 ?c3 ?c4 ?c5 ?_)
  case c1 =>
    intro j u hj
    match j, hj with
    | 0, hj => simp at hj; subst hj; simp [Addr.add]
  case c2 => intro u hu; simp at hu; subst hu; rfl
  case c3 => unfold maxLen; omega
  case c4 => omega
  case c5 => have := hb1.size; simp; omega
  intro v' w2 hown' hgrow _
  have hlt : b < w1.heap.size := by
    rcases Nat.lt_or_ge b w1.heap.size with h' | h'
    · exact h'
    · simp [Array.getElem?_eq_none h'] at hbk
  have hb2 : w2.heap[b]? = some (.cells #[ptr b, v] 73 (0, 0)) := by
    rw [hgrow.block b (by simp; omega) (fun e => hne e.symm), Lib.alloc_old w1 _ b hlt]
    exact hbk
  have d0 : w2.cell? ⟨b, 0, none⟩ = some (ptr b) := by rw [Lib.cell_of_heap hb2]; rfl
  have d1 : w2.cell? ⟨b, 1, none⟩ = some v := by rw [Lib.cell_of_heap hb2]; rfl
  have f1 : w2.frozen? ⟨b, 1, none⟩ = false := Lib.frozen_of_heap hb2 1
  obtain ⟨g, cap, rfl⟩ : ∃ g cap, v' = .slice (some ⟨g, 0, none⟩) (bs.length + 1) cap := by
    rcases hown'.2 with ⟨_, h0⟩ | ⟨g, cap, cur, hv, _⟩
    · omega
    · exact ⟨g, cap, hv⟩
  go_wp2
  go_ret
  refine ⟨rfl, ?_, ?_⟩
  · exact Lib.BuilderAt.put (T := 73) (e := 5) hB hb2 (bs' := bs ++ [.int .u8 c]) (by simpa using hown') (by decide)
  · exact (hb1.trans (((Below.refl B w1).alloc (by have := hb1.size; omega) _).grown hgrow (by have := hb1.size; simp; omega) (fun k hk => (hown.lt k hk).1))).setCell (p := ⟨b, 1, none⟩) hB _
set_option maxHeartbeats 2000000 in
set_option maxRecDepth 100000 in
theorem writeString_ok (B b : Nat) (bs : List Value) (s : ByteArray) (w : World) (h : IsB B b bs w) (hlen : bs.length + s.size ≤ 140737488355328) (hBw : B ≤ w.heap.size) :
    Calls Try.prog 52 #[ptr b, .string s] w fun e w' => e = .returned (.tuple #[.int .i64 s.size, .nilIface]) ∧ (Bd B b (ptr b) (bs ++ Lib.strCells s) w' ∧ Below B w w') := by
  obtain ⟨i0, hi, hz0, hz1, hz2⟩ := info_parts u8Info
  go_enter Try.func52, Try.ntmps52
  go_wp2_with (go_at_call 111; refine (copyCheck_ok B b bs _ h).mono ?_)
  rintro e w1 ⟨rfl, ⟨h1, hb1⟩, -⟩
  obtain ⟨hB, v, hbk, hown, hne⟩ := h1
  have c0 : w1.cell? ⟨b, 0, none⟩ = some (ptr b) := by rw [Lib.cell_of_heap hbk]; rfl
  have c1 : w1.cell? ⟨b, 1, none⟩ = some v := by rw [Lib.cell_of_heap hbk]; rfl
  go_wp2_with (at_builtin; refine Lib.wpList_append_own_string _ rfl _ _ 37 9 rfl B 5 i0 Try.underlying37 Try.underlying9 hi hz0 hz1 hz2 _ _ _ rfl hown s rfl ?c3 ?c4 ?c5 ?_)
  case c3 => unfold maxLen; omega
  case c4 => omega
  case c5 => have := hb1.size; omega
  intro v' w2 hown' hgrow _
  have hlt : b < w1.heap.size := by
    rcases Nat.lt_or_ge b w1.heap.size with h' | h'
    · exact h'
    · simp [Array.getElem?_eq_none h'] at hbk
  have hb2 : w2.heap[b]? = some (.cells #[ptr b, v] 73 (0, 0)) := by
    rw [hgrow.block b hlt (fun e => hne e.symm)]
    exact hbk
  have d0 : w2.cell? ⟨b, 0, none⟩ = some (ptr b) := by rw [Lib.cell_of_heap hb2]; rfl
  have d1 : w2.cell? ⟨b, 1, none⟩ = some v := by rw [Lib.cell_of_heap hb2]; rfl
  have f1 : w2.frozen? ⟨b, 1, none⟩ = false := Lib.frozen_of_heap hb2 1
  obtain ⟨ao, n', cap, rfl⟩ : ∃ ao n' cap, v' = .slice ao n' cap := by
    rcases hown'.2 with ⟨hv, _⟩ | ⟨g, cap, cur, hv, _⟩
    · exact ⟨_, _, _, hv⟩
    · exact ⟨_, _, _, hv⟩
  go_wp2
  go_ret2
  refine ⟨rfl, ?_, ?_⟩
  · exact Lib.BuilderAt.put (T := 73) (e := 5) hB hb2 (bs' := bs ++ Lib.strCells s) (by simpa [Lib.strCells_length] using hown') (by decide)
  · exact (hb1.grown hgrow (by have := hb1.size; omega) (fun k hk => (hown.lt k hk).1)).setCell (p := ⟨b, 1, none⟩) hB _
set_option maxHeartbeats 2000000 in
set_option maxRecDepth 100000 in
theorem write_ok (B b g0 : Nat) (bs : List Value) (xs : List Value) (n cap0 : Nat) (w : World) (h : IsB B b bs w) (hn : xs.length = n) (hlen : bs.length + n ≤ 140737488355328) (hBw : B ≤ w.heap.size)
    (hb : g0 ≠ b) (hg : w.heap[g0]? = some (.cells xs.toArray 5 (0, 0))) (hx : ∀ u ∈ xs, u.oneCell' = true) :
    Calls Try.prog 53 #[ptr b, .slice (some ⟨g0, 0, none⟩) n cap0] w fun e w' => e = .returned (.tuple #[.int .i64 n, .nilIface]) ∧ (Bd B b (ptr b) (bs ++ xs) w' ∧ Below B w w') := by
  obtain ⟨i0, hi, hz0, hz1, hz2⟩ := info_parts u8Info
  go_enter Try.func53, Try.ntmps53
  go_wp2_with (go_at_call 111; refine (copyCheck_ok B b bs _ h).mono ?_)
  rintro e w1 ⟨rfl, ⟨h1, hb1⟩, hoth⟩
  obtain ⟨hB, v, hbk, hown, hne⟩ := h1
  have hg1 : w1.heap[g0]? = some (.cells xs.toArray 5 (0, 0)) := (hoth.out g0 hb).trans hg
  have HG := Lib.hid hg1
  clear hg1 hg hoth
  have c0 : w1.cell? ⟨b, 0, none⟩ = some (ptr b) := by rw [Lib.cell_of_heap hbk]; rfl
  have c1 : w1.cell? ⟨b, 1, none⟩ = some v := by rw [Lib.cell_of_heap hbk]; rfl
  go_wp2_with (at_builtin; refine wpList_append_own _ rfl _ _ 37 rfl B 5 i0 (.int .u8 0) 1 1 Try.underlying37 hi hz0 hz1 hz2 rfl (by decide) _ _ _ rfl hown ⟨g0, 0, none⟩ n cap0 xs rfl (by simpa using hn) ?c1 ?c2 ?c3 ?c4 ?c5 ?_)
  case c1 =>
    intro j u hj
    have e : (⟨g0, 0, none⟩ : Addr).add j = ⟨g0, j, none⟩ := by
      rcases Nat.eq_zero_or_pos j with rfl | hj
      · rfl
      · simp [Addr.add]
        omega
    rw [e, Lib.cell_of_heap HG.out, List.getElem?_toArray]
    exact hj
  case c2 => exact hx
  case c3 => unfold maxLen; omega
  case c4 => omega
  case c5 => have := hb1.size; omega
  intro v' w2 hown' hgrow _
  have hlt : b < w1.heap.size := by
    rcases Nat.lt_or_ge b w1.heap.size with h' | h'
    · exact h'
    · simp [Array.getElem?_eq_none h'] at hbk
  have hb2 : w2.heap[b]? = some (.cells #[ptr b, v] 73 (0, 0)) := by
    rw [hgrow.block b hlt (fun e => hne e.symm)]
    exact hbk
  have d0 : w2.cell? ⟨b, 0, none⟩ = some (ptr b) := by rw [Lib.cell_of_heap hb2]; rfl
  have d1 : w2.cell? ⟨b, 1, none⟩ = some v := by rw [Lib.cell_of_heap hb2]; rfl
  have f1 : w2.frozen? ⟨b, 1, none⟩ = false := Lib.frozen_of_heap hb2 1
  obtain ⟨ao, n', cap, rfl⟩ : ∃ ao n' cap, v' = .slice ao n' cap := by
    rcases hown'.2 with ⟨hv, _⟩ | ⟨g, cap, cur, hv, _⟩
    · exact ⟨_, _, _, hv⟩
    · exact ⟨_, _, _, hv⟩
  go_wp2
  go_ret2
  refine ⟨rfl, ?_, ?_⟩
  · exact Lib.BuilderAt.put (T := 73) (e := 5) hB hb2 (bs' := bs ++ xs) (by simpa [hn] using hown') (by decide)
  · exact (hb1.grown hgrow (by have := hb1.size; omega) (fun k hk => (hown.lt k hk).1)).setCell (p := ⟨b, 1, none⟩) hB _
theorem fresh_bld {w : World} {b : Nat} (h : w.heap[b]? = some (.cells #[.pointer none, .slice none 0 0] 73 (0, 0))) : IsB b b [] w :=
  Or.inl ⟨Nat.le_refl _, _, h, ⟨by simp, Or.inl ⟨rfl, rfl⟩⟩, by simp [Value.ownBlock]⟩
end Go.Proofs.Ytnmlephjhcmbhaa
