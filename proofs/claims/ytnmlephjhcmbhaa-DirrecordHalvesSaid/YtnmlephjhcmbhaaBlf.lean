/- strings.Builder: Write, WriteByte, WriteString, and what of memory they leave alone. -/
import Derived.Test.YtnmlephjhcmbhaaBld
namespace Go.Proofs.Ytnmlephjhcmbhaa
set_option linter.unusedSimpArgs false
set_option linter.unusedVariables false
open Go Go.RowKit
/-- Each block but b that holds other cells than bytes is as it was. -/
def Fr5 (b : Nat) (w w' : World) : Prop := ∀ (k : Nat) (cs : Array Value) (T : TypeId) (fr : Nat × Nat), k ≠ b → T ≠ 5 → w.heap[k]? = some (.cells cs T fr) → w'.heap[k]? = some (.cells cs T fr)
theorem Fr5.refl (b : Nat) (w : World) : Fr5 b w w := fun _ _ _ _ _ _ h => h
theorem Fr5.trans {b : Nat} {w w1 w2 : World} (h : Fr5 b w w1) (k : Fr5 b w1 w2) : Fr5 b w w2 := fun i cs T fr hi hT hw => k i cs T fr hi hT (h i cs T fr hi hT hw)
theorem lt_of_block {w : World} {k : Nat} {o : Obj} (h : w.heap[k]? = some o) : k < w.heap.size := by
  rcases Nat.lt_or_ge k w.heap.size with h' | h'
  · exact h'
  · simp [Array.getElem?_eq_none h'] at h
theorem fr5_put {B b n : Nat} {w w1 wa w2 w3 : World} {v v' : Value} {xs : List Value} (hoth : ∀ k, k ≠ b → w1.heap[k]? = w.heap[k]?) (hs : w1.heap.size ≤ wa.heap.size) (ha : ∀ k, k < w1.heap.size → wa.heap[k]? = w1.heap[k]?)
    (hown : w1.ownsRow B 5 1 v n xs) (hgrow : wa.grownBy w2 v.ownBlock) (h3 : w3 = w2.setCell ⟨b, 1, none⟩ v') : Fr5 b w w3 := by
  intro k cs T fr hk hT hw
  have h1 : w1.heap[k]? = some (.cells cs T fr) := (hoth k hk).trans hw
  have hlt := lt_of_block h1
  have hne := Lib.ownBlock_ne hown h1 hT
  rw [h3, row_far _ _ _ _ hk, hgrow.block k (Nat.lt_of_lt_of_le hlt hs) (fun e => hne e.symm), ha k hlt, h1]
set_option maxHeartbeats 2000000 in
set_option maxRecDepth 100000 in
theorem writeByte_f (B b : Nat) (bs : List Value) (c : Int) (w : World) (h : IsB B b bs w) (hlen : bs.length + 1 ≤ 140737488355328) (hBw : B ≤ w.heap.size) :
    Calls Try.prog 54 #[ptr b, .int .u8 c] w fun e w' => e = .returned .nilIface ∧ (Bd B b (ptr b) (bs ++ [.int .u8 c]) w' ∧ Below B w w') ∧ Hid (Fr5 b w w') := by
  obtain ⟨i0, hi, hz0, hz1, hz2⟩ := info_parts u8Info
  go_enter Try.func54, Try.ntmps54
  go_wp2_with (go_at_call 111; refine (copyCheck_ok B b bs _ h).mono ?_)
  rintro e w1 ⟨rfl, ⟨h1, hb1⟩, hoth⟩
  obtain ⟨hB, v, hbk, hown, hne⟩ := h1
  have c0 : w1.cell? ⟨b, 0, none⟩ = some (ptr b) := by rw [Lib.cell_of_heap hbk]; rfl
  have c1 : w1.cell? ⟨b, 1, none⟩ = some v := by rw [Lib.cell_of_heap hbk]; rfl
  go_wp2_with (at_builtin; refine wpList_append_own _ rfl _ _ 37 rfl B 5 i0 (.int .u8 0) 1 1 Try.underlying37 hi hz0 hz1 hz2 rfl (by decide) _ _ _ rfl (hown.alloc _) ⟨w1.heap.size, 0, none⟩ 1 1 [.int .u8 c] rfl rfl ?c1 ?c2 ?c3 ?c4 ?c5 ?_)
  case c1 =>
    intro j u hj
    match j, hj with
    | 0, hj => simp at hj; subst hj; simp [Addr.add]
  case c2 => intro u hu; simp at hu; subst hu; rfl
  case c3 => unfold maxLen; omega
  case c4 => omega
  case c5 => have := hb1.size; simp; omega
  intro v' w2 hown' hgrow _
  have hlt : b < w1.heap.size := by
    rcases Nat.lt_or_ge b w1.heap.size with h' | h'
    · exact h'
    · simp [Array.getElem?_eq_none h'] at hbk
  have hb2 : w2.heap[b]? = some (.cells #[ptr b, v] 73 (0, 0)) := by
    rw [hgrow.block b (by simp; omega) (fun e => hne e.symm), Lib.alloc_old w1 _ b hlt]
    exact hbk
  have d0 : w2.cell? ⟨b, 0, none⟩ = some (ptr b) := by rw [Lib.cell_of_heap hb2]; rfl
  have d1 : w2.cell? ⟨b, 1, none⟩ = some v := by rw [Lib.cell_of_heap hb2]; rfl
  have f1 : w2.frozen? ⟨b, 1, none⟩ = false := Lib.frozen_of_heap hb2 1
  obtain ⟨g, cap, rfl⟩ : ∃ g cap, v' = .slice (some ⟨g, 0, none⟩) (bs.length + 1) cap := by
    rcases hown'.2 with ⟨_, h0⟩ | ⟨g, cap, cur, hv, _⟩
    · omega
    · exact ⟨g, cap, hv⟩
  go_wp2
  go_ret
  refine ⟨rfl, ⟨?_, ?_⟩, Lib.hid (fr5_put hoth.out (by simp) (fun k hk => Lib.alloc_old w1 _ k hk) hown hgrow rfl)⟩
  · exact Lib.BuilderAt.put (T := 73) (e := 5) hB hb2 (bs' := bs ++ [.int .u8 c]) (by simpa using hown') (by decide)
  · exact (hb1.trans (((Below.refl B w1).alloc (by have := hb1.size; omega) _).grown hgrow (by have := hb1.size; simp; omega) (fun k hk => (hown.lt k hk).1))).setCell (p := ⟨b, 1, none⟩) hB _
set_option maxHeartbeats 2000000 in
set_option maxRecDepth 100000 in
theorem writeString_f (B b : Nat) (bs : List Value) (s : ByteArray) (w : World) (h : IsB B b bs w) (hlen : bs.length + s.size ≤ 140737488355328) (hBw : B ≤ w.heap.size) :
    Calls Try.prog 52 #[ptr b, .string s] w fun e w' => e = .returned (.tuple #[.int .i64 s.size, .nilIface]) ∧ (Bd B b (ptr b) (bs ++ Lib.strCells s) w' ∧ Below B w w') ∧ Hid (Fr5 b w w') := by
  obtain ⟨i0, hi, hz0, hz1, hz2⟩ := info_parts u8Info
  go_enter Try.func52, Try.ntmps52
  go_wp2_with (go_at_call 111; refine (copyCheck_ok B b bs _ h).mono ?_)
  rintro e w1 ⟨rfl, ⟨h1, hb1⟩, hoth⟩
  obtain ⟨hB, v, hbk, hown, hne⟩ := h1
  have c0 : w1.cell? ⟨b, 0, none⟩ = some (ptr b) := by rw [Lib.cell_of_heap hbk]; rfl
  have c1 : w1.cell? ⟨b, 1, none⟩ = some v := by rw [Lib.cell_of_heap hbk]; rfl
  go_wp2_with (at_builtin; refine Lib.wpList_append_own_string _ rfl _ _ 37 9 rfl B 5 i0 Try.underlying37 Try.underlying9 hi hz0 hz1 hz2 _ _ _ rfl hown s rfl ?c3 ?c4 ?c5 ?_)
  case c3 => unfold maxLen; omega
  case c4 => omega
  case c5 => have := hb1.size; omega
  intro v' w2 hown' hgrow _
  have hlt : b < w1.heap.size := by
    rcases Nat.lt_or_ge b w1.heap.size with h' | h'
    · exact h'
    · simp [Array.getElem?_eq_none h'] at hbk
  have hb2 : w2.heap[b]? = some (.cells #[ptr b, v] 73 (0, 0)) := by
    rw [hgrow.block b hlt (fun e => hne e.symm)]
    exact hbk
  have d0 : w2.cell? ⟨b, 0, none⟩ = some (ptr b) := by rw [Lib.cell_of_heap hb2]; rfl
  have d1 : w2.cell? ⟨b, 1, none⟩ = some v := by rw [Lib.cell_of_heap hb2]; rfl
  have f1 : w2.frozen? ⟨b, 1, none⟩ = false := Lib.frozen_of_heap hb2 1
  obtain ⟨ao, n', cap, rfl⟩ : ∃ ao n' cap, v' = .slice ao n' cap := by
    rcases hown'.2 with ⟨hv, _⟩ | ⟨g, cap, cur, hv, _⟩
    · exact ⟨_, _, _, hv⟩
    · exact ⟨_, _, _, hv⟩
  go_wp2
  go_ret2
  refine ⟨rfl, ⟨?_, ?_⟩, Lib.hid (fr5_put hoth.out (Nat.le_refl _) (fun _ _ => rfl) hown hgrow rfl)⟩
  · exact Lib.BuilderAt.put (T := 73) (e := 5) hB hb2 (bs' := bs ++ Lib.strCells s) (by simpa [Lib.strCells_length] using hown') (by decide)
  · exact (hb1.grown hgrow (by have := hb1.size; omega) (fun k hk => (hown.lt k hk).1)).setCell (p := ⟨b, 1, none⟩) hB _
set_option maxHeartbeats 2000000 in
set_option maxRecDepth 100000 in
theorem write_f (B b g0 : Nat) (bs : List Value) (xs : List Value) (n cap0 : Nat) (w : World) (h : IsB B b bs w) (hn : xs.length = n) (hlen : bs.length + n ≤ 140737488355328) (hBw : B ≤ w.heap.size)
    (hb : g0 ≠ b) (hg : w.heap[g0]? = some (.cells xs.toArray 5 (0, 0))) (hx : ∀ u ∈ xs, u.oneCell' = true) :
    Calls Try.prog 53 #[ptr b, .slice (some ⟨g0, 0, none⟩) n cap0] w fun e w' => e = .returned (.tuple #[.int .i64 n, .nilIface]) ∧ (Bd B b (ptr b) (bs ++ xs) w' ∧ Below B w w') ∧ Hid (Fr5 b w w') := by
  obtain ⟨i0, hi, hz0, hz1, hz2⟩ := info_parts u8Info
  go_enter Try.func53, Try.ntmps53
  go_wp2_with (go_at_call 111; refine (copyCheck_ok B b bs _ h).mono ?_)
  rintro e w1 ⟨rfl, ⟨h1, hb1⟩, hoth⟩
  obtain ⟨hB, v, hbk, hown, hne⟩ := h1
  have hg1 : w1.heap[g0]? = some (.cells xs.toArray 5 (0, 0)) := (hoth.out g0 hb).trans hg
  have HG := Lib.hid hg1
  clear hg1 hg
  have c0 : w1.cell? ⟨b, 0, none⟩ = some (ptr b) := by rw [Lib.cell_of_heap hbk]; rfl
  have c1 : w1.cell? ⟨b, 1, none⟩ = some v := by rw [Lib.cell_of_heap hbk]; rfl
  go_wp2_with (at_builtin; refine wpList_append_own _ rfl _ _ 37 rfl B 5 i0 (.int .u8 0) 1 1 Try.underlying37 hi hz0 hz1 hz2 rfl (by decide) _ _ _ rfl hown ⟨g0, 0, none⟩ n cap0 xs rfl (by simpa using hn) ?c1 ?c2 ?c3 ?c4 ?c5 ?_)
  case c1 =>
    intro j u hj
    have e : (⟨g0, 0, none⟩ : Addr).add j = ⟨g0, j, none⟩ := by
      rcases Nat.eq_zero_or_pos j with rfl | hj
      · rfl
      · simp [Addr.add]
        omega
    rw [e, Lib.cell_of_heap HG.out, List.getElem?_toArray]
    exact hj
  case c2 => exact hx
  case c3 => unfold maxLen; omega
  case c4 => omega
  case c5 => have := hb1.size; omega
  intro v' w2 hown' hgrow _
  have hlt : b < w1.heap.size := by
    rcases Nat.lt_or_ge b w1.heap.size with h' | h'
    · exact h'
    · simp [Array.getElem?_eq_none h'] at hbk
  have hb2 : w2.heap[b]? = some (.cells #[ptr b, v] 73 (0, 0)) := by
    rw [hgrow.block b hlt (fun e => hne e.symm)]
    exact hbk
  have d0 : w2.cell? ⟨b, 0, none⟩ = some (ptr b) := by rw [Lib.cell_of_heap hb2]; rfl
  have d1 : w2.cell? ⟨b, 1, none⟩ = some v := by rw [Lib.cell_of_heap hb2]; rfl
  have f1 : w2.frozen? ⟨b, 1, none⟩ = false := Lib.frozen_of_heap hb2 1
  obtain ⟨ao, n', cap, rfl⟩ : ∃ ao n' cap, v' = .slice ao n' cap := by
    rcases hown'.2 with ⟨hv, _⟩ | ⟨g, cap, cur, hv, _⟩
    · exact ⟨_, _, _, hv⟩
    · exact ⟨_, _, _, hv⟩
  go_wp2
  go_ret2
  refine ⟨rfl, ⟨?_, ?_⟩, Lib.hid (fr5_put hoth.out (Nat.le_refl _) (fun _ _ => rfl) hown hgrow rfl)⟩
  · exact Lib.BuilderAt.put (T := 73) (e := 5) hB hb2 (bs' := bs ++ xs) (by simpa [hn] using hown') (by decide)
  · exact (hb1.grown hgrow (by have := hb1.size; omega) (fun k hk => (hown.lt k hk).1)).setCell (p := ⟨b, 1, none⟩) hB _
end Go.Proofs.Ytnmlephjhcmbhaa
