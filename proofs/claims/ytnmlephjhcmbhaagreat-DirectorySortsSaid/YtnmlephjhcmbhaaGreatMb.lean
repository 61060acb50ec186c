/- strings.Builder at this program: copyCheck, Write, WriteByte, WriteString. (The shelf's own layings fall here: the translator refuses copyCheck's last region.) strings.Builder: Write, WriteByte, WriteString, and what of memory they leave alone. Package endian: what write, fits, Little, Big, Both, read, ReadLittle, ReadBig, ReadBoth return. Package endian: double, fits, Both. Package endian: inside, read, ReadLittle, ReadBig, ReadBoth. Package endian: ReadBoth. -/
import Derived.Test.YtnmlephjhcmbhaaGreatProg
import Derived.Test.YtnmlephjhcmbhaaGreatMa
import Derived.Shelf.Strings.Builder1
namespace Go.Proofs.YtnmlephjhcmbhaaGreat
set_option linter.unusedSimpArgs false
set_option linter.unusedVariables false
open Go Go.RowKit
theorem bldInfo : (Tryz.prog.info? 78).map (·.size) = some 2 := by kernel_rfl
theorem bldLies : liesAt Tryz.prog Tryz.prog.depth 78 (2 / Tryz.prog.cellsOf 78) 0 78 1 = true := by kernel_rfl
theorem u8Info : (Tryz.prog.info? 5).map (fun i => (i.zero, i.size, i.bytes)) = some (some (.int .u8 0), 1, 1) := by kernel_rfl
abbrev Bd (B b : Nat) (p : Value) (bs : List Value) (w : World) : Prop := Lib.BuilderAt 78 5 B b p bs w
abbrev IsB (B b : Nat) (bs : List Value) (w : World) : Prop := Lib.IsBuilder 78 5 B b bs w
abbrev ptr (b : Nat) : Value := .pointer (some ⟨b, 0, none⟩)
theorem row_far (W : World) (b j : Nat) (v : Value) {k : Nat} (h : k ≠ b) : (W.setCell ⟨b, j, none⟩ v).heap[k]? = W.heap[k]? := by
  simp only [World.setCell, Array.getElem?_modify]
  rw [if_neg (fun e => h e.symm)]
set_option maxHeartbeats 1000000 in
set_option maxRecDepth 100000 in
theorem copyCheck_used (b : Nat) (w : World) (h0 : w.cell? ⟨b, 0, none⟩ = some (ptr b)) :
    Calls Tryz.prog 82 #[ptr b] w fun e w' => e = .returned (.tuple #[]) ∧ w' = w := by
  obtain ⟨j, hj, _⟩ := Option.map_eq_some_iff.1 bldInfo
  go_enter Tryz.func82, Tryz.ntmps82
  go_wp2
  rw [Lib.run_neq_ptr_same w _ Tryz.underlying76 hj]
  go_wp2
  go_end0
  exact ⟨rfl, rfl⟩
set_option maxHeartbeats 1000000 in
set_option maxRecDepth 100000 in
theorem copyCheck_fresh (b : Nat) (w : World) (h0 : w.cell? ⟨b, 0, none⟩ = some (.pointer none)) (hsh : w.shape? b = some (78, 2)) (hfz : w.frozen? ⟨b, 0, none⟩ = false) :
    Calls Tryz.prog 82 #[ptr b] w fun e w' => e = .returned (.tuple #[]) ∧ w' = w.setCell ⟨b, 0, none⟩ (ptr b) := by
  obtain ⟨j, hj, hjs⟩ := Option.map_eq_some_iff.1 bldInfo
  go_enter Tryz.func82, Tryz.ntmps82
  go_wp2
  rw [Lib.run_to_unsafe w ⟨b, 0, none⟩ Tryz.underlying76 Tryz.underlying129 hj (by rw [hjs]; decide) hsh (Nat.zero_lt_succ 1)]
  simp only [Result.andThen]
  rw [Oper.upon_value]
  go_wp2
  rw [run_callFunc_extern Tryz.func108 (by kernel_rfl) (by kernel_rfl) (by kernel_rfl) (e := Extern.AbiNoEscape.same) (by kernel_rfl)]
  rw [Lib.run_noEscape]
  simp only [Result.andThen]
  rw [Oper.upon_value]
  go_wp2
  rw [Lib.run_from_unsafe w ⟨b, 0, none⟩ Tryz.underlying129 Tryz.underlying76 hj hsh bldLies]
  simp only [Result.andThen]
  rw [Oper.upon_value]
  go_wp2
  go_end0
  exact ⟨rfl, rfl⟩
theorem copyCheck_ok (B b : Nat) (bs : List Value) (w : World) (h : IsB B b bs w) :
    Calls Tryz.prog 82 #[ptr b] w fun e w' => e = .returned (.tuple #[]) ∧ (Bd B b (ptr b) bs w' ∧ Below B w w') ∧ Hid (∀ k, k ≠ b → w'.heap[k]? = w.heap[k]?) := by
  rcases h with h | h
  · refine (copyCheck_fresh b w h.cell0 h.shape h.frozen0).mono ?_
    rintro e w' ⟨rfl, rfl⟩
    exact ⟨rfl, ⟨h.used _, (Below.refl B w).setCell (p := ⟨b, 0, none⟩) h.1 _⟩, Lib.hid fun k hk => row_far _ _ _ _ hk⟩
  · refine (copyCheck_used b w h.cell0).mono ?_
    rintro e w' ⟨rfl, rfl⟩
    exact ⟨rfl, ⟨h, Below.refl B _⟩, Lib.hid fun _ _ => rfl⟩
set_option maxHeartbeats 2000000 in
set_option maxRecDepth 100000 in
theorem writeByte_ok (B b : Nat) (bs : List Value) (c : Int) (w : World) (h : IsB B b bs w) (hlen : bs.length + 1 ≤ 140737488355328) (hBw : B ≤ w.heap.size) :
    Calls Tryz.prog 71 #[ptr b, .int .u8 c] w fun e w' => e = .returned .nilIface ∧ (Bd B b (ptr b) (bs ++ [.int .u8 c]) w' ∧ Below B w w') := by
  obtain ⟨i0, hi, hz0, hz1, hz2⟩ := info_parts u8Info
  go_enter Tryz.func71, Tryz.ntmps71
  go_wp2_with (go_at_call 82; refine (copyCheck_ok B b bs _ h).mono ?_)
  rintro e w1 ⟨rfl, ⟨h1, hb1⟩, -⟩
  obtain ⟨hB, v, hbk, hown, hne⟩ := h1
  have c0 : w1.cell? ⟨b, 0, none⟩ = some (ptr b) := by rw [Lib.cell_of_heap hbk]; rfl
  have c1 : w1.cell? ⟨b, 1, none⟩ = some v := by rw [Lib.cell_of_heap hbk]; rfl
  go_wp2_with (at_builtin; refine wpList_append_own _ rfl _ _ 69 rfl B 5 i0 (.int .u8 0) 1 1 Tryz.underlying69 hi hz0 hz1 hz2 rfl (by decide) _ _ _ rfl (hown.alloc _) ⟨w1.heap.size, 0, none⟩ 1 1 [.int .u8 c] rfl rfl ?c1 ?c2 ?c3 ?c4 ?c5 ?_)
  case c1 =>
    intro j u hj
    match j, hj with
    | 0, hj => simp at hj; subst hj; simp [Addr.add]
  case c2 => intro u hu; simp at hu; subst hu; rfl
  case c3 => unfold maxLen; omega
  case c4 => omega
  case c5 => have := hb1.size; simp; omega
  intro v' w2 hown' hgrow _
  have hlt : b < w1.heap.size := by
    rcases Nat.lt_or_ge b w1.heap.size with h' | h'
    · exact h'
    · simp [Array.getElem?_eq_none h'] at hbk
  have hb2 : w2.heap[b]? = some (.cells #[ptr b, v] 78 (0, 0)) := by
    rw [hgrow.block b (by simp; omega) (fun e => hne e.symm), Lib.alloc_old w1 _ b hlt]
    exact hbk
  have d0 : w2.cell? ⟨b, 0, none⟩ = some (ptr b) := by rw [Lib.cell_of_heap hb2]; rfl
  have d1 : w2.cell? ⟨b, 1, none⟩ = some v := by rw [Lib.cell_of_heap hb2]; rfl
  have f1 : w2.frozen? ⟨b, 1, none⟩ = false := Lib.frozen_of_heap hb2 1
  obtain ⟨g, cap, rfl⟩ : ∃ g cap, v' = .slice (some ⟨g, 0, none⟩) (bs.length + 1) cap := by
    rcases hown'.2 with ⟨_, h0⟩ | ⟨g, cap, cur, hv, _⟩
    · omega
    · exact ⟨g, cap, hv⟩
  go_wp2
  go_ret
  refine ⟨rfl, ?_, ?_⟩
  · exact Lib.BuilderAt.put (T := 78) (e := 5) hB hb2 (bs' := bs ++ [.int .u8 c]) (by simpa using hown') (by decide)
  · exact (hb1.trans (((Below.refl B w1).alloc (by have := hb1.size; omega) _).grown hgrow (by have := hb1.size; simp; omega) (fun k hk => (hown.lt k hk).1))).setCell (p := ⟨b, 1, none⟩) hB _
set_option maxHeartbeats 2000000 in
set_option maxRecDepth 100000 in
theorem writeString_ok (B b : Nat) (bs : List Value) (s : ByteArray) (w : World) (h : IsB B b bs w) (hlen : bs.length + s.size ≤ 140737488355328) (hBw : B ≤ w.heap.size) :
    Calls Tryz.prog 54 #[ptr b, .string s] w fun e w' => e = .returned (.tuple #[.int .i64 s.size, .nilIface]) ∧ (Bd B b (ptr b) (bs ++ Lib.strCells s) w' ∧ Below B w w') := by
  obtain ⟨i0, hi, hz0, hz1, hz2⟩ := info_parts u8Info
  go_enter Tryz.func54, Tryz.ntmps54
  go_wp2_with (go_at_call 82; refine (copyCheck_ok B b bs _ h).mono ?_)
  rintro e w1 ⟨rfl, ⟨h1, hb1⟩, -⟩
  obtain ⟨hB, v, hbk, hown, hne⟩ := h1
  have c0 : w1.cell? ⟨b, 0, none⟩ = some (ptr b) := by rw [Lib.cell_of_heap hbk]; rfl
  have c1 : w1.cell? ⟨b, 1, none⟩ = some v := by rw [Lib.cell_of_heap hbk]; rfl
  go_wp2_with (at_builtin; refine Lib.wpList_append_own_string _ rfl _ _ 69 9 rfl B 5 i0 Tryz.underlying69 Tryz.underlying9 hi hz0 hz1 hz2 _ _ _ rfl hown s rfl ?c3 ?c4 ?c5 ?_)
  case c3 => unfold maxLen; omega
  case c4 => omega
  case c5 => have := hb1.size; omega
  intro v' w2 hown' hgrow _
  have hlt : b < w1.heap.size := by
    rcases Nat.lt_or_ge b w1.heap.size with h' | h'
    · exact h'
    · simp [Array.getElem?_eq_none h'] at hbk
  have hb2 : w2.heap[b]? = some (.cells #[ptr b, v] 78 (0, 0)) := by
    rw [hgrow.block b hlt (fun e => hne e.symm)]
    exact hbk
  have d0 : w2.cell? ⟨b, 0, none⟩ = some (ptr b) := by rw [Lib.cell_of_heap hb2]; rfl
  have d1 : w2.cell? ⟨b, 1, none⟩ = some v := by rw [Lib.cell_of_heap hb2]; rfl
  have f1 : w2.frozen? ⟨b, 1, none⟩ = false := Lib.frozen_of_heap hb2 1
  obtain ⟨ao, n', cap, rfl⟩ : ∃ ao n' cap, v' = .slice ao n' cap := by
    rcases hown'.2 with ⟨hv, _⟩ | ⟨g, cap, cur, hv, _⟩
    · exact ⟨_, _, _, hv⟩
    · exact ⟨_, _, _, hv⟩
  go_wp2
  go_ret2
  refine ⟨rfl, ?_, ?_⟩
  · exact Lib.BuilderAt.put (T := 78) (e := 5) hB hb2 (bs' := bs ++ Lib.strCells s) (by simpa [Lib.strCells_length] using hown') (by decide)
  · exact (hb1.grown hgrow (by have := hb1.size; omega) (fun k hk => (hown.lt k hk).1)).setCell (p := ⟨b, 1, none⟩) hB _
set_option maxHeartbeats 2000000 in
set_option maxRecDepth 100000 in
theorem write_ok (B b g0 : Nat) (bs : List Value) (xs : List Value) (n cap0 : Nat) (w : World) (h : IsB B b bs w) (hn : xs.length = n) (hlen : bs.length + n ≤ 140737488355328) (hBw : B ≤ w.heap.size)
    (hb : g0 ≠ b) (hg : w.heap[g0]? = some (.cells xs.toArray 5 (0, 0))) (hx : ∀ u ∈ xs, u.oneCell' = true) :
    Calls Tryz.prog 70 #[ptr b, .slice (some ⟨g0, 0, none⟩) n cap0] w fun e w' => e = .returned (.tuple #[.int .i64 n, .nilIface]) ∧ (Bd B b (ptr b) (bs ++ xs) w' ∧ Below B w w') := by
  obtain ⟨i0, hi, hz0, hz1, hz2⟩ := info_parts u8Info
  go_enter Tryz.func70, Tryz.ntmps70
  go_wp2_with (go_at_call 82; refine (copyCheck_ok B b bs _ h).mono ?_)
  rintro e w1 ⟨rfl, ⟨h1, hb1⟩, hoth⟩
  obtain ⟨hB, v, hbk, hown, hne⟩ := h1
  have hg1 : w1.heap[g0]? = some (.cells xs.toArray 5 (0, 0)) := (hoth.out g0 hb).trans hg
  have HG := Lib.hid hg1
  clear hg1 hg hoth
  have c0 : w1.cell? ⟨b, 0, none⟩ = some (ptr b) := by rw [Lib.cell_of_heap hbk]; rfl
  have c1 : w1.cell? ⟨b, 1, none⟩ = some v := by rw [Lib.cell_of_heap hbk]; rfl
  go_wp2_with (at_builtin; refine wpList_append_own _ rfl _ _ 69 rfl B 5 i0 (.int .u8 0) 1 1 Tryz.underlying69 hi hz0 hz1 hz2 rfl (by decide) _ _ _ rfl hown ⟨g0, 0, none⟩ n cap0 xs rfl (by simpa using hn) ?c1 ?c2 ?c3 ?c4 ?c5 ?_)
  case c1 =>
    intro j u hj
    have e : (⟨g0, 0, none⟩ : Addr).add j = ⟨g0, j, none⟩ := by
      rcases Nat.eq_zero_or_pos j with rfl | hj
      · rfl
      · simp [Addr.add]
        omega
    rw [e, Lib.cell_of_heap HG.out, List.getElem?_toArray]
    exact hj
  case c2 => exact hx
  case c3 => unfold maxLen; omega
  case c4 => omega
  case c5 => have := hb1.size; omega
  intro v' w2 hown' hgrow _
  have hlt : b < w1.heap.size := by
    rcases Nat.lt_or_ge b w1.heap.size with h' | h'
    · exact h'
    · simp [Array.getElem?_eq_none h'] at hbk
  have hb2 : w2.heap[b]? = some (.cells #[ptr b, v] 78 (0, 0)) := by
    rw [hgrow.block b hlt (fun e => hne e.symm)]
    exact hbk
  have d0 : w2.cell? ⟨b, 0, none⟩ = some (ptr b) := by rw [Lib.cell_of_heap hb2]; rfl
  have d1 : w2.cell? ⟨b, 1, none⟩ = some v := by rw [Lib.cell_of_heap hb2]; rfl
  have f1 : w2.frozen? ⟨b, 1, none⟩ = false := Lib.frozen_of_heap hb2 1
  obtain ⟨ao, n', cap, rfl⟩ : ∃ ao n' cap, v' = .slice ao n' cap := by
    rcases hown'.2 with ⟨hv, _⟩ | ⟨g, cap, cur, hv, _⟩
    · exact ⟨_, _, _, hv⟩
    · exact ⟨_, _, _, hv⟩
  go_wp2
  go_ret2
  refine ⟨rfl, ?_, ?_⟩
  · exact Lib.BuilderAt.put (T := 78) (e := 5) hB hb2 (bs' := bs ++ xs) (by simpa [hn] using hown') (by decide)
  · exact (hb1.grown hgrow (by have := hb1.size; omega) (fun k hk => (hown.lt k hk).1)).setCell (p := ⟨b, 1, none⟩) hB _
theorem fresh_bld {w : World} {b : Nat} (h : w.heap[b]? = some (.cells #[.pointer none, .slice none 0 0] 78 (0, 0))) : IsB b b [] w :=
  Or.inl ⟨Nat.le_refl _, _, h, ⟨by simp, Or.inl ⟨rfl, rfl⟩⟩, by simp [Value.ownBlock]⟩
end Go.Proofs.YtnmlephjhcmbhaaGreat
namespace Go.Proofs.YtnmlephjhcmbhaaGreat
set_option linter.unusedSimpArgs false
set_option linter.unusedVariables false
open Go Go.RowKit
/-- Each block but b that holds other cells than bytes is as it was. -/
def Fr5 (b : Nat) (w w' : World) : Prop := ∀ (k : Nat) (cs : Array Value) (T : TypeId) (fr : Nat × Nat), k ≠ b → T ≠ 5 → w.heap[k]? = some (.cells cs T fr) → w'.heap[k]? = some (.cells cs T fr)
theorem Fr5.refl (b : Nat) (w : World) : Fr5 b w w := fun _ _ _ _ _ _ h => h
theorem Fr5.trans {b : Nat} {w w1 w2 : World} (h : Fr5 b w w1) (k : Fr5 b w1 w2) : Fr5 b w w2 := fun i cs T fr hi hT hw => k i cs T fr hi hT (h i cs T fr hi hT hw)
theorem lt_of_block {w : World} {k : Nat} {o : Obj} (h : w.heap[k]? = some o) : k < w.heap.size := by
  rcases Nat.lt_or_ge k w.heap.size with h' | h'
  · exact h'
  · simp [Array.getElem?_eq_none h'] at h
theorem fr5_put {B b n : Nat} {w w1 wa w2 w3 : World} {v v' : Value} {xs : List Value} (hoth : ∀ k, k ≠ b → w1.heap[k]? = w.heap[k]?) (hs : w1.heap.size ≤ wa.heap.size) (ha : ∀ k, k < w1.heap.size → wa.heap[k]? = w1.heap[k]?)
    (hown : w1.ownsRow B 5 1 v n xs) (hgrow : wa.grownBy w2 v.ownBlock) (h3 : w3 = w2.setCell ⟨b, 1, none⟩ v') : Fr5 b w w3 := by
  intro k cs T fr hk hT hw
  have h1 : w1.heap[k]? = some (.cells cs T fr) := (hoth k hk).trans hw
  have hlt := lt_of_block h1
  have hne := Lib.ownBlock_ne hown h1 hT
  rw [h3, row_far _ _ _ _ hk, hgrow.block k (Nat.lt_of_lt_of_le hlt hs) (fun e => hne e.symm), ha k hlt, h1]
set_option maxHeartbeats 2000000 in
set_option maxRecDepth 100000 in
theorem writeByte_f (B b : Nat) (bs : List Value) (c : Int) (w : World) (h : IsB B b bs w) (hlen : bs.length + 1 ≤ 140737488355328) (hBw : B ≤ w.heap.size) :
    Calls Tryz.prog 71 #[ptr b, .int .u8 c] w fun e w' => e = .returned .nilIface ∧ (Bd B b (ptr b) (bs ++ [.int .u8 c]) w' ∧ Below B w w') ∧ Hid (Fr5 b w w') := by
  obtain ⟨i0, hi, hz0, hz1, hz2⟩ := info_parts u8Info
  go_enter Tryz.func71, Tryz.ntmps71
  go_wp2_with (go_at_call 82; refine (copyCheck_ok B b bs _ h).mono ?_)
  rintro e w1 ⟨rfl, ⟨h1, hb1⟩, hoth⟩
  obtain ⟨hB, v, hbk, hown, hne⟩ := h1
  have c0 : w1.cell? ⟨b, 0, none⟩ = some (ptr b) := by rw [Lib.cell_of_heap hbk]; rfl
  have c1 : w1.cell? ⟨b, 1, none⟩ = some v := by rw [Lib.cell_of_heap hbk]; rfl
  go_wp2_with (at_builtin; refine wpList_append_own _ rfl _ _ 69 rfl B 5 i0 (.int .u8 0) 1 1 Tryz.underlying69 hi hz0 hz1 hz2 rfl (by decide) _ _ _ rfl (hown.alloc _) ⟨w1.heap.size, 0, none⟩ 1 1 [.int .u8 c] rfl rfl ?c1 ?c2 ?c3 ?c4 ?c5 ?_)
  case c1 =>
    intro j u hj
    match j, hj with
    | 0, hj => simp at hj; subst hj; simp [Addr.add]
  case c2 => intro u hu; simp at hu; subst hu; rfl
  case c3 => unfold maxLen; omega
  case c4 => omega
  case c5 => have := hb1.size; simp; omega
  intro v' w2 hown' hgrow _
  have hlt : b < w1.heap.size := by
    rcases Nat.lt_or_ge b w1.heap.size with h' | h'
    · exact h'
    · simp [Array.getElem?_eq_none h'] at hbk
  have hb2 : w2.heap[b]? = some (.cells #[ptr b, v] 78 (0, 0)) := by
    rw [hgrow.block b (by simp; omega) (fun e => hne e.symm), Lib.alloc_old w1 _ b hlt]
    exact hbk
  have d0 : w2.cell? ⟨b, 0, none⟩ = some (ptr b) := by rw [Lib.cell_of_heap hb2]; rfl
  have d1 : w2.cell? ⟨b, 1, none⟩ = some v := by rw [Lib.cell_of_heap hb2]; rfl
  have f1 : w2.frozen? ⟨b, 1, none⟩ = false := Lib.frozen_of_heap hb2 1
  obtain ⟨g, cap, rfl⟩ : ∃ g cap, v' = .slice (some ⟨g, 0, none⟩) (bs.length + 1) cap := by
    rcases hown'.2 with ⟨_, h0⟩ | ⟨g, cap, cur, hv, _⟩
    · omega
    · exact ⟨g, cap, hv⟩
  go_wp2
  go_ret
  refine ⟨rfl, ⟨?_, ?_⟩, Lib.hid (fr5_put hoth.out (by simp) (fun k hk => Lib.alloc_old w1 _ k hk) hown hgrow rfl)⟩
  · exact Lib.BuilderAt.put (T := 78) (e := 5) hB hb2 (bs' := bs ++ [.int .u8 c]) (by simpa using hown') (by decide)
  · exact (hb1.trans (((Below.refl B w1).alloc (by have := hb1.size; omega) _).grown hgrow (by have := hb1.size; simp; omega) (fun k hk => (hown.lt k hk).1))).setCell (p := ⟨b, 1, none⟩) hB _
set_option maxHeartbeats 2000000 in
set_option maxRecDepth 100000 in
theorem writeString_f (B b : Nat) (bs : List Value) (s : ByteArray) (w : World) (h : IsB B b bs w) (hlen : bs.length + s.size ≤ 140737488355328) (hBw : B ≤ w.heap.size) :
    Calls Tryz.prog 54 #[ptr b, .string s] w fun e w' => e = .returned (.tuple #[.int .i64 s.size, .nilIface]) ∧ (Bd B b (ptr b) (bs ++ Lib.strCells s) w' ∧ Below B w w') ∧ Hid (Fr5 b w w') := by
  obtain ⟨i0, hi, hz0, hz1, hz2⟩ := info_parts u8Info
  go_enter Tryz.func54, Tryz.ntmps54
  go_wp2_with (go_at_call 82; refine (copyCheck_ok B b bs _ h).mono ?_)
  rintro e w1 ⟨rfl, ⟨h1, hb1⟩, hoth⟩
  obtain ⟨hB, v, hbk, hown, hne⟩ := h1
  have c0 : w1.cell? ⟨b, 0, none⟩ = some (ptr b) := by rw [Lib.cell_of_heap hbk]; rfl
  have c1 : w1.cell? ⟨b, 1, none⟩ = some v := by rw [Lib.cell_of_heap hbk]; rfl
  go_wp2_with (at_builtin; refine Lib.wpList_append_own_string _ rfl _ _ 69 9 rfl B 5 i0 Tryz.underlying69 Tryz.underlying9 hi hz0 hz1 hz2 _ _ _ rfl hown s rfl ?c3 ?c4 ?c5 ?_)
  case c3 => unfold maxLen; omega
  case c4 => omega
  case c5 => have := hb1.size; omega
  intro v' w2 hown' hgrow _
  have hlt : b < w1.heap.size := by
    rcases Nat.lt_or_ge b w1.heap.size with h' | h'
    · exact h'
    · simp [Array.getElem?_eq_none h'] at hbk
  have hb2 : w2.heap[b]? = some (.cells #[ptr b, v] 78 (0, 0)) := by
    rw [hgrow.block b hlt (fun e => hne e.symm)]
    exact hbk
  have d0 : w2.cell? ⟨b, 0, none⟩ = some (ptr b) := by rw [Lib.cell_of_heap hb2]; rfl
  have d1 : w2.cell? ⟨b, 1, none⟩ = some v := by rw [Lib.cell_of_heap hb2]; rfl
  have f1 : w2.frozen? ⟨b, 1, none⟩ = false := Lib.frozen_of_heap hb2 1
  obtain ⟨ao, n', cap, rfl⟩ : ∃ ao n' cap, v' = .slice ao n' cap := by
    rcases hown'.2 with ⟨hv, _⟩ | ⟨g, cap, cur, hv, _⟩
    · exact ⟨_, _, _, hv⟩
    · exact ⟨_, _, _, hv⟩
  go_wp2
  go_ret2
  refine ⟨rfl, ⟨?_, ?_⟩, Lib.hid (fr5_put hoth.out (Nat.le_refl _) (fun _ _ => rfl) hown hgrow rfl)⟩
  · exact Lib.BuilderAt.put (T := 78) (e := 5) hB hb2 (bs' := bs ++ Lib.strCells s) (by simpa [Lib.strCells_length] using hown') (by decide)
  · exact (hb1.grown hgrow (by have := hb1.size; omega) (fun k hk => (hown.lt k hk).1)).setCell (p := ⟨b, 1, none⟩) hB _
set_option maxHeartbeats 2000000 in
set_option maxRecDepth 100000 in
theorem write_f (B b g0 : Nat) (bs : List Value) (xs : List Value) (n cap0 : Nat) (w : World) (h : IsB B b bs w) (hn : xs.length = n) (hlen : bs.length + n ≤ 140737488355328) (hBw : B ≤ w.heap.size)
    (hb : g0 ≠ b) (hg : w.heap[g0]? = some (.cells xs.toArray 5 (0, 0))) (hx : ∀ u ∈ xs, u.oneCell' = true) :
    Calls Tryz.prog 70 #[ptr b, .slice (some ⟨g0, 0, none⟩) n cap0] w fun e w' => e = .returned (.tuple #[.int .i64 n, .nilIface]) ∧ (Bd B b (ptr b) (bs ++ xs) w' ∧ Below B w w') ∧ Hid (Fr5 b w w') := by
  obtain ⟨i0, hi, hz0, hz1, hz2⟩ := info_parts u8Info
  go_enter Tryz.func70, Tryz.ntmps70
  go_wp2_with (go_at_call 82; refine (copyCheck_ok B b bs _ h).mono ?_)
  rintro e w1 ⟨rfl, ⟨h1, hb1⟩, hoth⟩
  obtain ⟨hB, v, hbk, hown, hne⟩ := h1
  have hg1 : w1.heap[g0]? = some (.cells xs.toArray 5 (0, 0)) := (hoth.out g0 hb).trans hg
  have HG := Lib.hid hg1
  clear hg1 hg
  have c0 : w1.cell? ⟨b, 0, none⟩ = some (ptr b) := by rw [Lib.cell_of_heap hbk]; rfl
  have c1 : w1.cell? ⟨b, 1, none⟩ = some v := by rw [Lib.cell_of_heap hbk]; rfl
  go_wp2_with (at_builtin; refine wpList_append_own _ rfl _ _ 69 rfl B 5 i0 (.int .u8 0) 1 1 Tryz.underlying69 hi hz0 hz1 hz2 rfl (by decide) _ _ _ rfl hown ⟨g0, 0, none⟩ n cap0 xs rfl (by simpa using hn) ?c1 ?c2 ?c3 ?c4 ?c5 ?_)
  case c1 =>
    intro j u hj
    have e : (⟨g0, 0, none⟩ : Addr).add j = ⟨g0, j, none⟩ := by
      rcases Nat.eq_zero_or_pos j with rfl | hj
      · rfl
      · simp [Addr.add]
        omega
    rw [e, Lib.cell_of_heap HG.out, List.getElem?_toArray]
    exact hj
  case c2 => exact hx
  case c3 => unfold maxLen; omega
  case c4 => omega
  case c5 => have := hb1.size; omega
  intro v' w2 hown' hgrow _
  have hlt : b < w1.heap.size := by
    rcases Nat.lt_or_ge b w1.heap.size with h' | h'
    · exact h'
    · simp [Array.getElem?_eq_none h'] at hbk
  have hb2 : w2.heap[b]? = some (.cells #[ptr b, v] 78 (0, 0)) := by
    rw [hgrow.block b hlt (fun e => hne e.symm)]
    exact hbk
  have d0 : w2.cell? ⟨b, 0, none⟩ = some (ptr b) := by rw [Lib.cell_of_heap hb2]; rfl
  have d1 : w2.cell? ⟨b, 1, none⟩ = some v := by rw [Lib.cell_of_heap hb2]; rfl
  have f1 : w2.frozen? ⟨b, 1, none⟩ = false := Lib.frozen_of_heap hb2 1
  obtain ⟨ao, n', cap, rfl⟩ : ∃ ao n' cap, v' = .slice ao n' cap := by
    rcases hown'.2 with ⟨hv, _⟩ | ⟨g, cap, cur, hv, _⟩
    · exact ⟨_, _, _, hv⟩
    · exact ⟨_, _, _, hv⟩
  go_wp2
  go_ret2
  refine ⟨rfl, ⟨?_, ?_⟩, Lib.hid (fr5_put hoth.out (Nat.le_refl _) (fun _ _ => rfl) hown hgrow rfl)⟩
  · exact Lib.BuilderAt.put (T := 78) (e := 5) hB hb2 (bs' := bs ++ xs) (by simpa [hn] using hown') (by decide)
  · exact (hb1.grown hgrow (by have := hb1.size; omega) (fun k hk => (hown.lt k hk).1)).setCell (p := ⟨b, 1, none⟩) hB _
end Go.Proofs.YtnmlephjhcmbhaaGreat
namespace Go.Proofs.YtnmlephjhcmbhaaGreat
set_option linter.unusedSimpArgs false
set_option linter.unusedVariables false
open Go Go.RowKit
/-- The byte of a number with the weight 256^i. -/
def byteAt (n i : Nat) : UInt8 := UInt8.ofNat (n / 2 ^ (8 * i))
theorem byteAt_nat (n i : Nat) : (byteAt n i).toNat = n / 2 ^ (8 * i) % 256 := by simp [byteAt]
/-- The k least bytes of a number, the least one first. -/
def leL (n k : Nat) : List UInt8 := (List.range k).map (byteAt n)
theorem leL_length (n k : Nat) : (leL n k).length = k := by simp [leL]
theorem leL_succ (n k : Nat) : leL n (k + 1) = leL n k ++ [byteAt n k] := by simp [leL, List.range_succ]
theorem leL_get (n k j : Nat) (h : j < k) : (leL n k)[j]? = some (byteAt n j) := by simp [leL, h]
/-- What the loop of write has written in k rounds. -/
def wrL (p : Nat → Nat) (n s : Nat) : Nat → List UInt8
  | 0 => List.replicate s 0
  | k + 1 => (wrL p n s k).set (p k) (byteAt n k)
theorem wrL_length (p : Nat → Nat) (n s k : Nat) : (wrL p n s k).length = s := by
  induction k with
  | zero => simp [wrL]
  | succ k ih => simp [wrL, ih]
theorem wrL_up (n s k : Nat) (h : k ≤ s) : wrL (fun i => i) n s k = leL n k ++ List.replicate (s - k) 0 := by
  induction k with
  | zero => simp [wrL, leL]
  | succ k ih =>
    rw [wrL, ih (by omega), leL_succ, List.set_append_right _ _ (by rw [leL_length]; omega), leL_length, Nat.sub_self, show s - k = (s - (k + 1)) + 1 by omega, List.replicate_succ]
    simp
theorem wrL_down (n s k : Nat) (h : k ≤ s) : wrL (fun i => s - 1 - i) n s k = List.replicate (s - k) 0 ++ (leL n k).reverse := by
  induction k with
  | zero => simp [wrL, leL]
  | succ k ih =>
    rw [wrL, ih (by omega), leL_succ, List.set_append_left _ _ (by rw [List.length_replicate]; omega), List.reverse_append]
    have e : (List.replicate (s - k) (0 : UInt8)).set (s - 1 - k) (byteAt n k) = List.replicate (s - (k + 1)) 0 ++ [byteAt n k] := by
      rw [show s - k = (s - (k + 1)) + 1 by omega, List.replicate_succ', List.set_append_right _ _ (by rw [List.length_replicate]; omega), List.length_replicate, show s - 1 - k - (s - (k + 1)) = 0 by omega]
      rfl
    rw [e]
    simp
theorem wrL_upAll (n s : Nat) : wrL (fun i => i) n s s = leL n s := by rw [wrL_up n s s (Nat.le_refl _)]; simp
theorem wrL_downAll (n s : Nat) : wrL (fun i => s - 1 - i) n s s = (leL n s).reverse := by rw [wrL_down n s s (Nat.le_refl _)]; simp
abbrev upV : Value := .func (.func 120) #[] #[]
abbrev downV (B : Nat) : Value := .func (.func 121) #[] #[ptr B]
set_option maxHeartbeats 400000 in
theorem up_ok (n : Int) (w : World) : Calls Tryz.prog 98 #[.int .i64 n] w fun e w' => e = .returned upV ∧ w = w' := by
  go_enter Tryz.func98, Tryz.ntmps98
  go_wp2
  go_ret
  exact ⟨rfl, rfl⟩
set_option maxHeartbeats 400000 in
theorem down_ok (n : Int) (w : World) : Calls Tryz.prog 99 #[.int .i64 n] w fun e w' => e = .returned (downV w.heap.size) ∧ w' = w.alloc (.cells #[.int .i64 n] 3) := by
  go_enter Tryz.func99, Tryz.ntmps99
  go_wp2
  go_ret
  exact ⟨rfl, rfl⟩
set_option maxHeartbeats 400000 in
theorem up1_ok (i : Int) (w : World) : Calls Tryz.prog 120 #[.int .i64 i] w fun e w' => e = .returned (.int .i64 i) ∧ w = w' := by
  go_enter Tryz.func120, Tryz.ntmps120
  go_wp2
  go_ret
  exact ⟨rfl, rfl⟩
set_option maxHeartbeats 400000 in
theorem down1_ok (i s : Nat) (B : Nat) (w : World) (hi : i < s) (hs : s ≤ 8) (hc : w.cell? ⟨B, 0, none⟩ = some (.int .i64 s)) : Calls Tryz.prog 121 #[.int .i64 i, ptr B] w fun e w' => e = .returned (.int .i64 ((s - 1 - i : Nat) : Int)) ∧ w = w' := by
  have e1 : IntKind.i64.wrap ((s : Int) - 1) = (s : Int) - 1 := by rw [IntKind.wrap_i64]; omega
  have e2 : IntKind.i64.wrap ((s : Int) - 1 - (i : Int)) = ((s - 1 - i : Nat) : Int) := by rw [IntKind.wrap_i64]; omega
  go_enter Tryz.func121, Tryz.ntmps121
  go_wp2
  go_ret
  exact ⟨rfl, rfl⟩
def WrRel (p : Nat → Nat) (w : World) (n s k : Nat) (wr : World) : Prop :=
  k ≤ s ∧ wr.heap[w.heap.size]? = some (.cells (cb (wrL p n s k)).toArray 5 (0, 0)) ∧ Below w.heap.size w wr
set_option maxRecDepth 100000 in
set_option maxHeartbeats 800000 in
theorem writeUp_ok (n s : Nat) (w : World) (hs : s ≤ 8) :
    Calls Tryz.prog 97 #[.int .i64 n, .int .i64 s, upV] w fun e w' => e = .returned (.string ⟨(leL n s).toArray⟩) ∧ Below w.heap.size w w' := by
  have hmk := fun W => make_bytes (P := Tryz.prog) (t := 69) (e := 5) Tryz.underlying69 u8Info s (by omega) W
  go_enter Tryz.func97, Tryz.ntmps97
  go_wp2
  go_loopw [12] (fun i wr => ∃ k : Nat, i = .int .i64 k ∧ WrRel (fun i => i) w n s k wr) (fun i _ => s - (intOf i).toNat)
  case atStart =>
    refine ⟨0, rfl, Nat.zero_le _, ?_, (Below.refl _ w).alloc (Nat.le_refl _) _⟩
    rw [World.alloc_heap_new]
    simp [wrL, cb]
  case round =>
    obtain ⟨k, rfl, hk, h1, hB⟩ := hrel
    by_cases hlt : (k : Int) < s
    · have g1 : IntKind.i64.wrap (8 * (k : Int)) = 8 * (k : Int) := by rw [IntKind.wrap_i64]; omega
      have g2 : (0 : Int) ≤ 8 * (k : Int) := by omega
      have g3 : (8 * (k : Int)).toNat = 8 * k := by omega
      have g4 : IntKind.u8.wrap ((n : Int) / 2 ^ (8 * k)) = ((byteAt n k).toNat : Int) := by
        rw [byteAt_nat, IntKind.wrap_u8, Int.natCast_emod, Int.natCast_ediv, Int.natCast_pow]
        rfl
      obtain ⟨p, hp⟩ : ∃ p : Nat, (fun i => i) k = p := ⟨_, rfl⟩
      have hps : p < s := by simp only at hp; omega
      simp only at hp
      have hcall : ∀ W, Calls Tryz.prog 120 #[.int .i64 k] W fun e w' => e = .returned (.int .i64 p) ∧ W = w' := fun W => by
        rw [← hp]
        exact up1_ok k W
      have hset := cb_set (wrL (fun i => i) n s k) [] p (byteAt n k) (by rw [wrL_length]; exact hps)
      have HS : Hid (wrL (fun i => i) n s (k + 1) = (wrL (fun i => i) n s k).set p (byteAt n k)) := Lib.hid (by rw [wrL]; simp only [hp])
      have g5 : (0 : Int) ≤ (p : Int) := by omega
      have g6 : (p : Int) < (s : Int) := by omega
      have g7 : (p : Int).toNat = p := Int.toNat_natCast p
      have f1 : wr.frozen? ⟨w.heap.size, p, none⟩ = false := Lib.frozen_of_heap h1 p
      obtain ⟨u, c1⟩ : ∃ u, wr.cell? ⟨w.heap.size, p, none⟩ = some u := by
        rw [Lib.cell_of_heap h1, List.getElem?_toArray]
        exact ⟨_, List.getElem?_eq_getElem (by rw [cb_length, wrL_length]; exact hps)⟩
      simp only [List.append_nil] at hset
      generalize byteAt n k = c at g4 hset HS
      have H1 := Lib.hid h1
      have HT := Lib.hid hset
      clear h1 hset hp
      go_wp2
      refine region_sch (fun w' => w' = wr.drew) [(true, 0), (true, 1), (true, 2), (true, 4), (true, 5), (true, 6), (true, 7), (true, 8), (false, 3)] [9, 10] (by kernel_rfl) (by kernel_rfl) (by rintro ⟨_, _, h, _⟩; cases h) (fun _ _ d _ _ h => by cases d <;> exact h) rfl ?_
      simp only [pickM, pickT, List.filterMap_cons, List.filterMap_nil, List.getElem?_cons_zero, List.getElem?_cons_succ, Option.map_some]
      repeat (refine m_float ⟨?_, .inl ⟨?_, .inl ?_⟩, fun K' hK => ?_⟩; rotate_left; (first | rfl | (go_simp; done)); (intro w' hS; subst hS; go_simp; try rfl); (simp only [Act.put, List.setIfInBounds_toArray, List.set_cons_succ, List.set_cons_zero]; refine hK _ ?_; clear hK K'))
      refine m_loud ?_ (fun K' hK => ?_)
      · rintro ⟨_, _, h, _⟩; cases h
      go_wp2_with (go_at_call 120; refine (hcall _).mono ?_; rintro e w5 ⟨rfl, rfl⟩)
      refine hK _ _ rfl ?_
      clear hK K'
      refine m_nil ?_
      show wpList Tryz.prog _ _ (List.cons _ _) _ _
      go_wp2
      go_roundw
      case rel =>
        refine ⟨k + 1, by go_num, by omega, ?_, ?_⟩
        · rw [HS.out, ← HT.out]
          exact row_set p _ H1.out
        · exact (hB.setCell (p := ⟨w.heap.size, p, none⟩) (Nat.le_refl _) _).drew
      case measure => simp [intOf]; omega
    · obtain rfl : k = s := by omega
      rw [wrL_upAll] at h1
      have hcv := row_string (P := Tryz.prog) (src := 69) (dst := 9) (n := k) (cap := k) Tryz.underlying69 Tryz.underlying5 Tryz.underlying9 (by rw [leL_length]) h1
      have H1 := Lib.hid h1
      clear h1
      go_wp2
      go_ret
      exact ⟨rfl, hB⟩
set_option maxRecDepth 100000 in
set_option maxHeartbeats 800000 in
theorem writeDown_ok (n s : Nat) (w : World) (hs : s ≤ 8) (B : Nat) (hc : w.cell? ⟨B, 0, none⟩ = some (.int .i64 s)) :
    Calls Tryz.prog 97 #[.int .i64 n, .int .i64 s, (downV B)] w fun e w' => e = .returned (.string ⟨(leL n s).reverse.toArray⟩) ∧ Below w.heap.size w w' := by
  have hmk := fun W => make_bytes (P := Tryz.prog) (t := 69) (e := 5) Tryz.underlying69 u8Info s (by omega) W
  go_enter Tryz.func97, Tryz.ntmps97
  go_wp2
  go_loopw [12] (fun i wr => ∃ k : Nat, i = .int .i64 k ∧ WrRel (fun i => s - 1 - i) w n s k wr) (fun i _ => s - (intOf i).toNat)
  case atStart =>
    refine ⟨0, rfl, Nat.zero_le _, ?_, (Below.refl _ w).alloc (Nat.le_refl _) _⟩
    rw [World.alloc_heap_new]
    simp [wrL, cb]
  case round =>
    obtain ⟨k, rfl, hk, h1, hB⟩ := hrel
    by_cases hlt : (k : Int) < s
    · have g1 : IntKind.i64.wrap (8 * (k : Int)) = 8 * (k : Int) := by rw [IntKind.wrap_i64]; omega
      have g2 : (0 : Int) ≤ 8 * (k : Int) := by omega
      have g3 : (8 * (k : Int)).toNat = 8 * k := by omega
      have g4 : IntKind.u8.wrap ((n : Int) / 2 ^ (8 * k)) = ((byteAt n k).toNat : Int) := by
        rw [byteAt_nat, IntKind.wrap_u8, Int.natCast_emod, Int.natCast_ediv, Int.natCast_pow]
        rfl
      obtain ⟨p, hp⟩ : ∃ p : Nat, (fun i => s - 1 - i) k = p := ⟨_, rfl⟩
      have hps : p < s := by simp only at hp; omega
      simp only at hp
      have hcall : ∀ W : World, W.cell? ⟨B, 0, none⟩ = some (.int .i64 s) → Calls Tryz.prog 121 #[.int .i64 k, ptr B] W fun e w' => e = .returned (.int .i64 p) ∧ W = w' := fun W => by
        rw [← hp]
        exact down1_ok k s B W (by omega) hs
      have hB0 : B < w.heap.size := World.block_lt_of_cell? w _ hc
      have hc1 : wr.drew.cell? ⟨B, 0, none⟩ = some (.int .i64 s) := by rw [World.cell?_drew, hB.cell hB0]; exact hc
      have hset := cb_set (wrL (fun i => s - 1 - i) n s k) [] p (byteAt n k) (by rw [wrL_length]; exact hps)
      have HS : Hid (wrL (fun i => s - 1 - i) n s (k + 1) = (wrL (fun i => s - 1 - i) n s k).set p (byteAt n k)) := Lib.hid (by rw [wrL]; simp only [hp])
      have g5 : (0 : Int) ≤ (p : Int) := by omega
      have g6 : (p : Int) < (s : Int) := by omega
      have g7 : (p : Int).toNat = p := Int.toNat_natCast p
      have f1 : wr.frozen? ⟨w.heap.size, p, none⟩ = false := Lib.frozen_of_heap h1 p
      obtain ⟨u, c1⟩ : ∃ u, wr.cell? ⟨w.heap.size, p, none⟩ = some u := by
        rw [Lib.cell_of_heap h1, List.getElem?_toArray]
        exact ⟨_, List.getElem?_eq_getElem (by rw [cb_length, wrL_length]; exact hps)⟩
      simp only [List.append_nil] at hset
      generalize byteAt n k = c at g4 hset HS
      have H1 := Lib.hid h1
      have HT := Lib.hid hset
      clear h1 hset hp
      go_wp2
      refine region_sch (fun w' => w' = wr.drew) [(true, 0), (true, 1), (true, 2), (true, 4), (true, 5), (true, 6), (true, 7), (true, 8), (false, 3)] [9, 10] (by kernel_rfl) (by kernel_rfl) (by rintro ⟨_, _, h, _⟩; cases h) (fun _ _ d _ _ h => by cases d <;> exact h) rfl ?_
      simp only [pickM, pickT, List.filterMap_cons, List.filterMap_nil, List.getElem?_cons_zero, List.getElem?_cons_succ, Option.map_some]
      repeat (refine m_float ⟨?_, .inl ⟨?_, .inl ?_⟩, fun K' hK => ?_⟩; rotate_left; (first | rfl | (go_simp; done)); (intro w' hS; subst hS; go_simp; try rfl); (simp only [Act.put, List.setIfInBounds_toArray, List.set_cons_succ, List.set_cons_zero]; refine hK _ ?_; clear hK K'))
      refine m_loud ?_ (fun K' hK => ?_)
      · rintro ⟨_, _, h, _⟩; cases h
      go_wp2_with (go_at_call 121; refine (hcall _ hc1).mono ?_; rintro e w5 ⟨rfl, rfl⟩)
      refine hK _ _ rfl ?_
      clear hK K'
      refine m_nil ?_
      show wpList Tryz.prog _ _ (List.cons _ _) _ _
      go_wp2
      go_roundw
      case rel =>
        refine ⟨k + 1, by go_num, by omega, ?_, ?_⟩
        · rw [HS.out, ← HT.out]
          exact row_set p _ H1.out
        · exact (hB.setCell (p := ⟨w.heap.size, p, none⟩) (Nat.le_refl _) _).drew
      case measure => simp [intOf]; omega
    · obtain rfl : k = s := by omega
      rw [wrL_downAll] at h1
      have hcv := row_string (P := Tryz.prog) (src := 69) (dst := 9) (n := k) (cap := k) Tryz.underlying69 Tryz.underlying5 Tryz.underlying9 (by rw [List.length_reverse, leL_length]) h1
      have H1 := Lib.hid h1
      clear h1
      go_wp2
      go_ret
      exact ⟨rfl, hB⟩
end Go.Proofs.YtnmlephjhcmbhaaGreat
namespace Go.Proofs.YtnmlephjhcmbhaaGreat
set_option linter.unusedSimpArgs false
set_option linter.unusedVariables false
open Go Go.RowKit
set_option maxRecDepth 100000 in
set_option maxHeartbeats 400000 in
theorem double_ok (s : Int) (w : World) : Calls Tryz.prog 95 #[.int .i64 s] w fun e w' => e = .returned (.bool (decide (s = 1 ∨ s = 2 ∨ s = 4))) ∧ w = w' := by
  by_cases h1 : s = 1
  · subst h1
    go_enter Tryz.func95, Tryz.ntmps95
    go_wp2
    go_ret
    exact ⟨rfl, rfl⟩
  by_cases h2 : s = 2
  · subst h2
    go_enter Tryz.func95, Tryz.ntmps95
    go_wp2
    go_ret
    exact ⟨rfl, rfl⟩
  by_cases h4 : s = 4
  · subst h4
    go_enter Tryz.func95, Tryz.ntmps95
    go_wp2
    go_ret
    exact ⟨rfl, rfl⟩
  have t1 : (s == 1) = false := by simpa using h1
  have t2 : (s == 2) = false := by simpa using h2
  have t4 : (s == 4) = false := by simpa using h4
  rw [show decide (s = 1 ∨ s = 2 ∨ s = 4) = false by simp [h1, h2, h4]]
  go_enter Tryz.func95, Tryz.ntmps95
  go_wp2
  go_ret
  exact ⟨rfl, rfl⟩
set_option maxRecDepth 100000 in
set_option maxHeartbeats 400000 in
theorem fits_ok (n : Int) (s : Nat) (w : World) (h1 : 1 ≤ s) (h8 : s ≤ 7) : Calls Tryz.prog 96 #[.int .i64 n, .int .i64 s] w fun e w' => e = .returned (.bool (decide (0 ≤ n ∧ n < 2 ^ (8 * s)))) ∧ w = w' := by
  obtain ⟨c, hc⟩ : ∃ c : Int, (2 : Int) ^ (8 * s) = c := ⟨_, rfl⟩
  have hcc : IntKind.i64.wrap c = c := by
    have h : s = 1 ∨ s = 2 ∨ s = 3 ∨ s = 4 ∨ s = 5 ∨ s = 6 ∨ s = 7 := by omega
    subst hc
    rcases h with rfl | rfl | rfl | rfl | rfl | rfl | rfl <;> rfl
  have hc1 : min (8 * s) 64 = 8 * s := by omega
  have t8 : ((s : Int) == 8) = false := by simp; omega
  have g1 : IntKind.i64.wrap (8 * (s : Int)) = 8 * (s : Int) := by rw [IntKind.wrap_i64]; omega
  have g2 : (0 : Int) ≤ 8 * (s : Int) := by omega
  have g3 : (8 * (s : Int)).toNat = 8 * s := by omega
  rw [hc]
  by_cases h0 : 0 ≤ n
  · by_cases h2 : n < c
    · rw [show decide (0 ≤ n ∧ n < c) = true by simp [h0, h2]]
      go_enter Tryz.func96, Tryz.ntmps96
      go_wp2
      go_ret
      exact ⟨rfl, rfl⟩
    · rw [show decide (0 ≤ n ∧ n < c) = false by simp [h2]]
      go_enter Tryz.func96, Tryz.ntmps96
      go_wp2
      go_ret
      exact ⟨rfl, rfl⟩
  · rw [show decide (0 ≤ n ∧ n < c) = false by simp [h0]]
    go_enter Tryz.func96, Tryz.ntmps96
    go_wp2
    go_ret
    exact ⟨rfl, rfl⟩
/-- A number in both byte orders. -/
def both (n k : Nat) : ByteArray := ⟨(leL n k ++ (leL n k).reverse).toArray⟩
theorem both_size (n k : Nat) : (both n k).size = 2 * k := by
  show (leL n k ++ (leL n k).reverse).toArray.size = _
  rw [List.size_toArray, List.length_append, List.length_reverse, leL_length]
  omega
theorem two_pow_lt_ten (s : Nat) (h : s ≤ 7) : (2 : Int) ^ (8 * s) ≤ 2 ^ 56 := by
  have h2 : s = 0 ∨ s = 1 ∨ s = 2 ∨ s = 3 ∨ s = 4 ∨ s = 5 ∨ s = 6 ∨ s = 7 := by omega
  rcases h2 with rfl | rfl | rfl | rfl | rfl | rfl | rfl | rfl <;> decide
set_option maxRecDepth 100000 in
set_option maxHeartbeats 400000 in
theorem both_bad (n : Int) (s : Nat) (w : World) (hs : s = 1 ∨ s = 2 ∨ s = 4) (h : ¬ (0 ≤ n ∧ n < 2 ^ (8 * s))) :
    Calls Tryz.prog 69 #[.int .i64 n, .int .i64 s] w fun e w' => e = .returned (.tuple #[.string ByteArray.empty, .int .i64 2]) ∧ Below w.heap.size w w' := by
  have c1 := fun W => double_ok (s : Int) W
  rw [show decide ((s : Int) = 1 ∨ (s : Int) = 2 ∨ (s : Int) = 4) = true by simp; omega] at c1
  have c2 := fun W => fits_ok n s W (by omega) (by omega)
  rw [show decide (0 ≤ n ∧ n < 2 ^ (8 * s)) = false by simpa using h] at c2
  clear h
  go_enter Tryz.func69, Tryz.ntmps69
  go_wp2_with (first | (go_at_call 95; (with_reducible refine (c1 _).mono ?_); rintro e w1 ⟨rfl, rfl⟩) | (go_at_call 96; (with_reducible refine (c2 _).mono ?_); rintro e w1 ⟨rfl, rfl⟩))
  go_ret2
  exact ⟨rfl, Below.refl _ _⟩
set_option maxRecDepth 100000 in
set_option maxHeartbeats 400000 in
theorem both_ok (n s : Nat) (w : World) (hs : s = 1 ∨ s = 2 ∨ s = 4) (h : (n : Int) < 2 ^ (8 * s)) :
    Calls Tryz.prog 69 #[.int .i64 n, .int .i64 s] w fun e w' => e = .returned (.tuple #[.string (both n s), .int .i64 0]) ∧ Below w.heap.size w w' := by
  have c1 := fun W => double_ok (s : Int) W
  rw [show decide ((s : Int) = 1 ∨ (s : Int) = 2 ∨ (s : Int) = 4) = true by simp; omega] at c1
  have c2 := fun W => fits_ok n s W (by omega) (by omega)
  rw [show decide (0 ≤ (n : Int) ∧ (n : Int) < 2 ^ (8 * s)) = true from decide_eq_true ⟨by omega, h⟩] at c2
  have c3 := fun W => writeUp_ok n s W (by omega)
  have c4 := fun B W h => writeDown_ok n s W (by omega) B h
  have hz1 : (⟨(leL n s).toArray⟩ : ByteArray).size = s := by
    show (leL n s).toArray.size = _
    rw [List.size_toArray, leL_length]
  have hz2 : (⟨(leL n s).reverse.toArray⟩ : ByteArray).size = s := by
    show (leL n s).reverse.toArray.size = _
    rw [List.size_toArray, List.length_reverse, leL_length]
  have happ : both n s = (⟨(leL n s).toArray⟩ : ByteArray) ++ ⟨(leL n s).reverse.toArray⟩ := by
    apply ByteArray.ext
    rw [ByteArray.data_append]
    simp [both]
  rw [happ]
  clear h happ
  generalize (⟨(leL n s).toArray⟩ : ByteArray) = A at c3 hz1 ⊢
  generalize (⟨(leL n s).reverse.toArray⟩ : ByteArray) = B at c4 hz2 ⊢
  go_enter Tryz.func69, Tryz.ntmps69
  go_wp2_with (first | (go_at_call 95; (with_reducible refine (c1 _).mono ?_); rintro e w1 ⟨rfl, rfl⟩) | (go_at_call 96; (with_reducible refine (c2 _).mono ?_); rintro e w1 ⟨rfl, rfl⟩) | (go_at_call 98; (with_reducible refine (up_ok _ _).mono ?_); rintro e w1 ⟨rfl, rfl⟩) | (go_at_call 97; (with_reducible refine (c3 _).mono ?_); rintro e w2 ⟨rfl, hB2⟩) | (go_at_call 99; (with_reducible refine (down_ok _ _).mono ?_); rintro e w3 ⟨rfl, rfl⟩))
  have hc : (w2.alloc (.cells #[.int .i64 s] 3)).cell? ⟨w2.heap.size, 0, none⟩ = some (.int .i64 s) := by
    rw [Lib.cell_of_heap (World.alloc_heap_new w2 _)]; rfl
  refine (c4 _ _ hc).mono ?_
  rintro e w4 ⟨rfl, hB4⟩
  go_wp2
  go_ret2
  exact ⟨rfl, bthen hB2 (bthen ((Below.refl _ _).alloc (Nat.le_refl _) _) hB4)⟩
end Go.Proofs.YtnmlephjhcmbhaaGreat
namespace Go.Proofs.YtnmlephjhcmbhaaGreat
set_option linter.unusedSimpArgs false
set_option linter.unusedVariables false
open Go Go.RowKit
theorem u64_wraps (n : Int) (h0 : 0 ≤ n) (h1 : n < 2 ^ 64) : IntKind.u64.wrap n = n := by rw [IntKind.wrap_u64]; omega
theorem u64_or {a b : Nat} (ha : a < 2 ^ 64) (hb : b < 2 ^ 64) : bits .or .u64 (a : Int) (b : Int) = ((a ||| b : Nat) : Int) := (bits_nat .u64 64 (by decide) u64_wraps a b ha hb).2
/-- The number whose byte with the weight 256^i is f i, i < k. -/
def acc (f : Nat → Nat) : Nat → Nat
  | 0 => 0
  | k + 1 => acc f k + f k * 2 ^ (8 * k)
theorem acc_lt (f : Nat → Nat) (hf : ∀ i, f i < 256) (k : Nat) : acc f k < 2 ^ (8 * k) := by
  induction k with
  | zero => simp [acc]
  | succ k ih =>
    have e : 2 ^ (8 * (k + 1)) = 256 * 2 ^ (8 * k) := by rw [show 8 * (k + 1) = 8 * k + 8 by omega, Nat.pow_add, Nat.mul_comm]
    have h2 : f k * 2 ^ (8 * k) ≤ 255 * 2 ^ (8 * k) := Nat.mul_le_mul_right _ (by have := hf k; omega)
    rw [acc, e]
    omega
theorem acc_congr {f g : Nat → Nat} {k : Nat} (h : ∀ i, i < k → f i = g i) : acc f k = acc g k := by
  induction k with
  | zero => rfl
  | succ k ih => rw [acc, acc, ih fun i hi => h i (by omega), h k (by omega)]
theorem acc_byteAt (n k : Nat) : acc (fun i => (byteAt n i).toNat) k = n % 2 ^ (8 * k) := by
  induction k with
  | zero => simp [acc, Nat.mod_one]
  | succ k ih =>
    rw [acc, ih, byteAt_nat, show 8 * (k + 1) = 8 * k + 8 by omega, Nat.pow_add, Nat.mod_mul, Nat.mul_comm (2 ^ (8 * k))]
theorem acc_inj {f g : Nat → Nat} (hf : ∀ i, f i < 256) (hg : ∀ i, g i < 256) : ∀ k, acc f k = acc g k → ∀ i, i < k → f i = g i
  | 0, _, i, hi => absurd hi (Nat.not_lt_zero _)
  | k + 1, h, i, hi => by
    rw [acc, acc] at h
    have h1 := acc_lt f hf k
    have h2 := acc_lt g hg k
    have hk : f k = g k := by
      have a1 : (acc f k + f k * 2 ^ (8 * k)) / 2 ^ (8 * k) = f k := by rw [Nat.add_mul_div_right _ _ (Nat.two_pow_pos _), Nat.div_eq_of_lt h1, Nat.zero_add]
      have a2 : (acc g k + g k * 2 ^ (8 * k)) / 2 ^ (8 * k) = g k := by rw [Nat.add_mul_div_right _ _ (Nat.two_pow_pos _), Nat.div_eq_of_lt h2, Nat.zero_add]
      rw [← a1, ← a2, h]
    rcases Nat.lt_or_ge i k with hik | hik
    · exact acc_inj hf hg k (by rw [hk] at h; omega) i hik
    · rw [show i = k by omega, hk]
/-- The byte at a place of a string (0 behind its end). -/
def sB (s : ByteArray) (i : Nat) : Nat := (s.data.toList.getD i 0).toNat
theorem sB_lt (s : ByteArray) (i : Nat) : sB s i < 256 := UInt8.toNat_lt _
theorem sB_get (s : ByteArray) (i : Nat) (h : i < s.size) : (s[i]'h).toNat = sB s i := by
  have h' : i < s.data.toList.length := by rw [list_size]; exact h
  rw [sB, List.getD_eq_getElem?_getD, List.getElem?_eq_getElem h', Option.getD_some]
  rfl
/-- The little-endian, and the big-endian, number of size bytes at a place. -/
def leR (s : ByteArray) (at_ size : Nat) : Nat := acc (fun i => sB s (at_ + i)) size
def beR (s : ByteArray) (at_ size : Nat) : Nat := acc (fun i => sB s (at_ + (size - 1 - i))) size
theorem pow7 (k : Nat) (h : k ≤ 7) : 2 ^ (8 * k) ≤ 2 ^ 56 := Nat.pow_le_pow_right (by decide) (by omega)
set_option maxRecDepth 100000 in
set_option maxHeartbeats 400000 in
theorem inside_ok (s : ByteArray) (a k : Nat) (w : World) (hs : s.size < 2 ^ 62) (hk : k ≤ 1000) : Calls Tryz.prog 128 #[.string s, .int .i64 a, .int .i64 k] w fun e w' => e = .returned (.bool (decide (a + k ≤ s.size))) ∧ w = w' := by
  have g1 : IntKind.i64.wrap ((s.size : Int) - k) = (s.size : Int) - k := by rw [IntKind.wrap_i64]; omega
  have g0 : (0 : Int) ≤ a := by omega
  by_cases h : a + k ≤ s.size
  · rw [decide_eq_true h]
    have g2 : (a : Int) ≤ (s.size : Int) - k := by omega
    go_enter Tryz.func128, Tryz.ntmps128
    go_wp2
    go_ret
    exact ⟨rfl, rfl⟩
  · rw [decide_eq_false h]
    have g2 : ¬ (a : Int) ≤ (s.size : Int) - k := by omega
    go_enter Tryz.func128, Tryz.ntmps128
    go_wp2
    go_ret
    exact ⟨rfl, rfl⟩
set_option maxRecDepth 100000 in
set_option maxHeartbeats 800000 in
theorem readUp_ok (s : ByteArray) (a k : Nat) (w : World) (hs : s.size < 2 ^ 62) (h1 : 1 ≤ k) (h7 : k ≤ 7) (hin : a + k ≤ s.size) :
    Calls Tryz.prog 107 #[.string s, .int .i64 a, .int .i64 k, upV] w fun e w' => e = .returned (.tuple #[.int .i64 (leR s a k), .int .i64 0]) ∧ w = w' := by
  have c1 := fun W => inside_ok s a k W hs (by omega)
  rw [decide_eq_true hin] at c1
  obtain ⟨f, hf⟩ : ∃ f : Nat → Nat, (fun i => sB s (a + i)) = f := ⟨_, rfl⟩
  have hf8 : ∀ i, f i < 256 := fun i => by rw [← hf]; exact sB_lt _ _
  rw [leR, hf]
  go_enter Tryz.func107, Tryz.ntmps107
  go_wp2_with (first | (go_at_call 128; (with_reducible refine (c1 _).mono ?_); rintro e w1 ⟨rfl, rfl⟩))
  go_loop [26, 10] (fun i n => ∃ j : Nat, i = .int .i64 j ∧ j ≤ k ∧ n = .int .u64 (acc f j)) (fun i _ => k - (intOf i).toNat)
  case atStart => exact ⟨0, rfl, Nat.zero_le _, rfl⟩
  case round =>
    obtain ⟨j, rfl, hj, rfl⟩ := hrel
    by_cases hlt : (j : Int) < k
    · have g1 : IntKind.i64.wrap (8 * (j : Int)) = 8 * (j : Int) := by rw [IntKind.wrap_i64]; omega
      have g2 : (0 : Int) ≤ 8 * (j : Int) := by omega
      have g3 : (8 * (j : Int)).toNat = 8 * j := by omega
      obtain ⟨p, hp⟩ : ∃ p : Nat, (fun i => i) j = p := ⟨_, rfl⟩
      simp only at hp
      have hps : p < k := by omega
      have hcall : ∀ W, Calls Tryz.prog 120 #[.int .i64 j] W fun e w' => e = .returned (.int .i64 p) ∧ W = w' := fun W => by
        rw [← hp]
        exact up1_ok j W
      have hqs : a + p < s.size := by omega
      have g4 : wrap64 ((a : Int) + (p : Int)) = (a : Int) + (p : Int) := by unfold wrap64; omega
      have g5 : (0 : Int) ≤ (a : Int) + (p : Int) := by omega
      have g6 : (a : Int) + (p : Int) < (s.size : Int) := by omega
      have g7 : ((a : Int) + (p : Int)).toNat = a + p := by omega
      have hx : (s[a + p]'hqs).toNat = f j := by rw [sB_get s (a + p) hqs, ← hp, ← hf]
      have hA := acc_lt f hf8 j
      have hA1 := acc_lt f hf8 (j + 1)
      have hP := pow7 j (by omega)
      have hP1 := pow7 (j + 1) (by omega)
      have hj8 := hf8 j
      have hS : acc f (j + 1) = acc f j + f j * 2 ^ (8 * j) := rfl
      have g8 : IntKind.u64.wrap ((f j : Nat) : Int) = (f j : Nat) := u64_wraps _ (by omega) (by omega)
      have g9 : IntKind.u64.wrap (((f j : Nat) : Int) * 2 ^ (8 * j)) = ((f j * 2 ^ (8 * j) : Nat) : Int) := by
        rw [Int.natCast_mul, Int.natCast_pow]
        refine u64_wraps _ ?_ ?_
        · exact Int.mul_nonneg (by omega) (Int.pow_nonneg (by decide))
        · have : ((f j * 2 ^ (8 * j) : Nat) : Int) < 2 ^ 64 := by omega
          rwa [Int.natCast_mul, Int.natCast_pow] at this
      have g10 : bits .or .u64 ((acc f j : Nat) : Int) ((f j * 2 ^ (8 * j) : Nat) : Int) = ((acc f (j + 1) : Nat) : Int) := by
        rw [u64_or (by omega) (by omega), Nat.or_comm, nat_join (8 * j) _ _ (Nat.mul_mod_left _ _) hA, hS, Nat.add_comm]
      have HS := Lib.hid (And.intro (And.intro hx g8) (And.intro g9 g10))
      clear hS hA1 hp hx g8 g9 g10 hP hP1 hj8
      go_wp2_with (go_at_call 120; (with_reducible refine (hcall _).mono ?_); rintro e w1 ⟨rfl, rfl⟩)
      case roundEnd =>
        obtain ⟨⟨hx, g8⟩, g9, g10⟩ := HS.out
        refine ⟨⟨j + 1, by go_num, by omega, ?_⟩, by simp only [intOf]; omega⟩
        rw [hx, g8, g9, g10]
    · obtain rfl : j = k := by omega
      have hA := acc_lt f hf8 j
      have hP := pow7 j h7
      have g1 : ((acc f j : Nat) : Int) ≤ 9223372036854775807 := by omega
      have g2 : IntKind.i64.wrap ((acc f j : Nat) : Int) = ((acc f j : Nat) : Int) := by rw [IntKind.wrap_i64]; omega
      go_wp2
      go_ret2
      exact ⟨rfl, rfl⟩
set_option maxRecDepth 100000 in
set_option maxHeartbeats 800000 in
theorem readDown_ok (s : ByteArray) (a k : Nat) (w : World) (B : Nat) (hc : w.cell? ⟨B, 0, none⟩ = some (.int .i64 k)) (hs : s.size < 2 ^ 62) (h1 : 1 ≤ k) (h7 : k ≤ 7) (hin : a + k ≤ s.size) :
    Calls Tryz.prog 107 #[.string s, .int .i64 a, .int .i64 k, downV B] w fun e w' => e = .returned (.tuple #[.int .i64 (beR s a k), .int .i64 0]) ∧ w = w' := by
  have c1 := fun W => inside_ok s a k W hs (by omega)
  rw [decide_eq_true hin] at c1
  obtain ⟨f, hf⟩ : ∃ f : Nat → Nat, (fun i => sB s (a + (k - 1 - i))) = f := ⟨_, rfl⟩
  have hf8 : ∀ i, f i < 256 := fun i => by rw [← hf]; exact sB_lt _ _
  rw [beR, hf]
  go_enter Tryz.func107, Tryz.ntmps107
  go_wp2_with (first | (go_at_call 128; (with_reducible refine (c1 _).mono ?_); rintro e w1 ⟨rfl, rfl⟩))
  go_loop [26, 10] (fun i n => ∃ j : Nat, i = .int .i64 j ∧ j ≤ k ∧ n = .int .u64 (acc f j)) (fun i _ => k - (intOf i).toNat)
  case atStart => exact ⟨0, rfl, Nat.zero_le _, rfl⟩
  case round =>
    obtain ⟨j, rfl, hj, rfl⟩ := hrel
    by_cases hlt : (j : Int) < k
    · have g1 : IntKind.i64.wrap (8 * (j : Int)) = 8 * (j : Int) := by rw [IntKind.wrap_i64]; omega
      have g2 : (0 : Int) ≤ 8 * (j : Int) := by omega
      have g3 : (8 * (j : Int)).toNat = 8 * j := by omega
      obtain ⟨p, hp⟩ : ∃ p : Nat, (fun i => k - 1 - i) j = p := ⟨_, rfl⟩
      simp only at hp
      have hps : p < k := by omega
      have hcall : ∀ W : World, W.cell? ⟨B, 0, none⟩ = some (.int .i64 k) → Calls Tryz.prog 121 #[.int .i64 j, ptr B] W fun e w' => e = .returned (.int .i64 p) ∧ W = w' := fun W => by
        rw [← hp]
        exact down1_ok j k B W (by omega) (by omega)
      have hqs : a + p < s.size := by omega
      have g4 : wrap64 ((a : Int) + (p : Int)) = (a : Int) + (p : Int) := by unfold wrap64; omega
      have g5 : (0 : Int) ≤ (a : Int) + (p : Int) := by omega
      have g6 : (a : Int) + (p : Int) < (s.size : Int) := by omega
      have g7 : ((a : Int) + (p : Int)).toNat = a + p := by omega
      have hx : (s[a + p]'hqs).toNat = f j := by rw [sB_get s (a + p) hqs, ← hp, ← hf]
      have hA := acc_lt f hf8 j
      have hA1 := acc_lt f hf8 (j + 1)
      have hP := pow7 j (by omega)
      have hP1 := pow7 (j + 1) (by omega)
      have hj8 := hf8 j
      have hS : acc f (j + 1) = acc f j + f j * 2 ^ (8 * j) := rfl
      have g8 : IntKind.u64.wrap ((f j : Nat) : Int) = (f j : Nat) := u64_wraps _ (by omega) (by omega)
      have g9 : IntKind.u64.wrap (((f j : Nat) : Int) * 2 ^ (8 * j)) = ((f j * 2 ^ (8 * j) : Nat) : Int) := by
        rw [Int.natCast_mul, Int.natCast_pow]
        refine u64_wraps _ ?_ ?_
        · exact Int.mul_nonneg (by omega) (Int.pow_nonneg (by decide))
        · have : ((f j * 2 ^ (8 * j) : Nat) : Int) < 2 ^ 64 := by omega
          rwa [Int.natCast_mul, Int.natCast_pow] at this
      have g10 : bits .or .u64 ((acc f j : Nat) : Int) ((f j * 2 ^ (8 * j) : Nat) : Int) = ((acc f (j + 1) : Nat) : Int) := by
        rw [u64_or (by omega) (by omega), Nat.or_comm, nat_join (8 * j) _ _ (Nat.mul_mod_left _ _) hA, hS, Nat.add_comm]
      have HS := Lib.hid (And.intro (And.intro hx g8) (And.intro g9 g10))
      clear hS hA1 hp hx g8 g9 g10 hP hP1 hj8
      go_wp2_with (go_at_call 121; (with_reducible refine (hcall _ hc).mono ?_); rintro e w1 ⟨rfl, rfl⟩)
      case roundEnd =>
        obtain ⟨⟨hx, g8⟩, g9, g10⟩ := HS.out
        refine ⟨⟨j + 1, by go_num, by omega, ?_⟩, by simp only [intOf]; omega⟩
        rw [hx, g8, g9, g10]
    · obtain rfl : j = k := by omega
      have hA := acc_lt f hf8 j
      have hP := pow7 j h7
      have g1 : ((acc f j : Nat) : Int) ≤ 9223372036854775807 := by omega
      have g2 : IntKind.i64.wrap ((acc f j : Nat) : Int) = ((acc f j : Nat) : Int) := by rw [IntKind.wrap_i64]; omega
      go_wp2
      go_ret2
      exact ⟨rfl, rfl⟩
set_option maxRecDepth 100000 in
set_option maxHeartbeats 400000 in
theorem readLittle_ok (s : ByteArray) (a k : Nat) (w : World) (hs : s.size < 2 ^ 62) (h1 : 1 ≤ k) (h7 : k ≤ 7) (hin : a + k ≤ s.size) :
    Calls Tryz.prog 78 #[.string s, .int .i64 a, .int .i64 k] w fun e w' => e = .returned (.tuple #[.int .i64 (leR s a k), .int .i64 0]) ∧ Below w.heap.size w w' := by
  have c1 := fun W => readUp_ok s a k W hs h1 h7 hin
  go_enter Tryz.func78, Tryz.ntmps78
  go_wp2_with (first | (go_at_call 98; (with_reducible refine (up_ok _ _).mono ?_); rintro e w1 ⟨rfl, rfl⟩) | (go_at_call 107; (with_reducible refine (c1 _).mono ?_); rintro e w1 ⟨rfl, rfl⟩))
  go_ret2
  exact ⟨rfl, Below.refl _ _⟩
end Go.Proofs.YtnmlephjhcmbhaaGreat
namespace Go.Proofs.YtnmlephjhcmbhaaGreat
set_option linter.unusedSimpArgs false
set_option linter.unusedVariables false
open Go Go.RowKit
end Go.Proofs.YtnmlephjhcmbhaaGreat
