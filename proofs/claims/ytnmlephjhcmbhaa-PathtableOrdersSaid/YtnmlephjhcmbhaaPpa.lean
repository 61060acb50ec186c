/- Entries of path tables: rows of three cells. -/
import Derived.Test.YtnmlephjhcmbhaaDko
namespace Go.Proofs.Ytnmlephjhcmbhaa
set_option linter.unusedSimpArgs false
set_option linter.unusedVariables false
open Go Go.RowKit
structure PE where
  id : ByteArray
  lba : Int
  par : Int
def peD : PE := ⟨ByteArray.empty, 0, 0⟩
abbrev peA (x : PE) : Array Value := #[.string x.id, cN x.lba, cN x.par]
def CellsP (W : World) (b o : Nat) (x : PE) : Prop :=
  W.cell? ⟨b, o, none⟩ = some (.string x.id) ∧ W.cell? ⟨b, o + 1, none⟩ = some (cN x.lba) ∧ W.cell? ⟨b, o + 2, none⟩ = some (cN x.par)
theorem CellsP.below {W W' : World} {b o : Nat} {x : PE} (h : CellsP W b o x) (hb : b < W.heap.size) (k : Below W.heap.size W W') : CellsP W' b o x := by
  unfold CellsP at *
  rw [k.cell (p := ⟨b, o, none⟩) hb, k.cell (p := ⟨b, o + 1, none⟩) hb, k.cell (p := ⟨b, o + 2, none⟩) hb]
  exact h
/-- A slice of entries that can be read. -/
def RowP (W : World) (a : Option Addr) (l : List PE) : Prop := ∀ k, k < l.length → ∃ b off, a = some ⟨b, off, none⟩ ∧ b < W.heap.size ∧ CellsP W b (off + k * 3) (l.getD k peD)
theorem RowP.below {W W' : World} {a : Option Addr} {l : List PE} (h : RowP W a l) (k : Below W.heap.size W W') : RowP W' a l := fun i hi => by
  obtain ⟨b, off, rfl, hb, hc⟩ := h i hi
  exact ⟨b, off, rfl, Nat.lt_of_lt_of_le hb k.size, hc.below hb k⟩
theorem RowP.drew {W : World} {a : Option Addr} {l : List PE} (h : RowP W a l) : RowP W.drew a l := h
/-- The address is known where there is an entry. -/
theorem RowP.addr {W : World} {a : Option Addr} {l : List PE} (h : RowP W a l) (h0 : 0 < l.length) : ∃ b off, a = some ⟨b, off, none⟩ ∧ b < W.heap.size ∧ ∀ k, k < l.length → CellsP W b (off + k * 3) (l.getD k peD) := by
  obtain ⟨b, off, rfl, hb, -⟩ := h 0 h0
  refine ⟨b, off, rfl, hb, fun k hk => ?_⟩
  obtain ⟨b', off', he, -, hc⟩ := h k hk
  simp only [Option.some.injEq, Addr.mk.injEq] at he
  obtain ⟨rfl, rfl, -⟩ := he
  exact hc
theorem RowP.drop {W : World} {b off : Nat} {l : List PE} (h : RowP W (some ⟨b, off, none⟩) l) (n : Nat) : RowP W (some ⟨b, off + n * 3, none⟩) (l.drop n) := fun k hk => by
  rw [List.length_drop] at hk
  obtain ⟨b', off', he, hb, hc⟩ := h (n + k) (by omega)
  simp only [Option.some.injEq, Addr.mk.injEq] at he
  obtain ⟨rfl, rfl, -⟩ := he
  refine ⟨b, off + n * 3, rfl, hb, ?_⟩
  rw [show off + n * 3 + k * 3 = off + (n + k) * 3 by omega]
  have e : (l.drop n).getD k peD = l.getD (n + k) peD := by rw [List.getD_eq_getElem?_getD, List.getElem?_drop, ← List.getD_eq_getElem?_getD]
  rw [e]
  exact hc
theorem peInfo : (Try.prog.info? 63).map (fun i => (i.zero, i.size, i.bytes)) = some (some (.agg #[.string ByteArray.empty, .int .i64 0, .int .i64 0]), 3, 32) := by kernel_rfl
def flatE (l : List PE) : List Value := l.flatMap fun r => (peA r).toList
theorem flatE_len (l : List PE) : (flatE l).length = l.length * 3 := by
  induction l with
  | nil => rfl
  | cons x l ih => simp only [flatE, List.flatMap_cons, List.length_append] at ih ⊢; rw [ih, List.length_cons]; simp; omega
theorem flatE_append (l m : List PE) : flatE (l ++ m) = flatE l ++ flatE m := by simp [flatE]
theorem flatE_one (r : PE) : flatE [r] = (peA r).toList := by simp [flatE]
theorem flatE_get : ∀ (l : List PE) (k i : Nat), k < l.length → i < 3 → (flatE l)[k * 3 + i]? = (peA (l.getD k peD)).toList[i]?
  | [], _, _, h, _ => by simp at h
  | x :: l, 0, i, _, hi => by
    rw [show flatE (x :: l) = (peA x).toList ++ flatE l from rfl, List.getElem?_append_left (by simp; omega)]
    simp
  | x :: l, k + 1, i, h, hi => by
    rw [show flatE (x :: l) = (peA x).toList ++ flatE l from rfl, List.getElem?_append_right (by simp; omega), List.getD_cons_succ, ← flatE_get l k i (by simpa using h) hi]
    congr 1
    simp
    omega
theorem CellsP_of {W : World} {g o : Nat} {r : PE} (h : ∀ i, i < 3 → W.cell? ⟨g, o + i, none⟩ = (peA r).toList[i]?) : CellsP W g o r :=
  ⟨h 0 (by decide), h 1 (by decide), h 2 (by decide)⟩
theorem RowP_own {W : World} {b : Nat} {u : Value} (l : List PE) (h : W.ownsRow b 63 3 u l.length (flatE l)) : ∃ a c, u = .slice a l.length c ∧ RowP W a l := by
  rcases h.2 with ⟨rfl, h0⟩ | ⟨g, cap, cur, rfl, hb, hg, h1, h2, h3, h4⟩
  · exact ⟨none, 0, by rw [h0], fun k hk => by omega⟩
  · refine ⟨some ⟨g, 0, none⟩, cap, rfl, fun k hk => ⟨g, 0, rfl, lt_of_block hg, CellsP_of fun i hi => ?_⟩⟩
    rw [Nat.zero_add, World.ownsRow.cellAt h (k * 3 + i) (by omega), flatE_get l k i hk hi]
theorem RowP_block {W : World} {g : Nat} {l : List PE} {f : Nat × Nat} (h : W.heap[g]? = some (.cells (flatE l).toArray 63 f)) (hf : f = (0, 0)) : RowP W (some ⟨g, 0, none⟩) l := by
  subst hf
  exact fun k hk => ⟨g, 0, rfl, lt_of_block h, CellsP_of fun i hi => by
    rw [Nat.zero_add, Lib.cell_of_heap h, List.getElem?_toArray, flatE_get l k i hk hi]⟩
/-- What an entry must be. -/
def RootP (x : PE) : Prop := x.id.data.toList = [0] ∧ x.par = 1
def NamedP (x : PE) : Prop := x.id.size ≠ 0 ∧ x.id.size ≤ 255 ∧ x.id.data.toList ≠ [0] ∧ x.id.data.toList ≠ [1]
def BlockP (n : Int) : Prop := 0 ≤ n ∧ n < 4294967296
instance (x : PE) : Decidable (RootP x) := by unfold RootP; infer_instance
instance (x : PE) : Decidable (NamedP x) := by unfold NamedP; infer_instance
instance (n : Int) : Decidable (BlockP n) := by unfold BlockP; infer_instance
set_option maxRecDepth 100000 in
set_option maxHeartbeats 400000 in
theorem isroot_ok (x : PE) (w : World) : Calls Try.prog 68 #[.agg (peA x)] w fun e w' => e = .returned (.bool (decide (RootP x))) ∧ Below w.heap.size w w' := by
  by_cases h0 : x.id.data.toList = [0]
  · have g0 : x.id.toList = [0] := by rw [Lib.toList_data]; exact h0
    by_cases h1 : x.par = 1
    · rw [decide_eq_true (show RootP x from ⟨h0, h1⟩)]
      clear h0
      go_enter Try.func68, Try.ntmps68
      go_wp2
      go_ret
      exact ⟨rfl, bald (Below.refl _ w) _⟩
    · rw [decide_eq_false (show ¬ RootP x from fun h => h1 h.2)]
      have g1 : (x.par == 1) = false := by simpa using h1
      clear h0 h1
      go_enter Try.func68, Try.ntmps68
      go_wp2
      go_ret
      exact ⟨rfl, bald (Below.refl _ w) _⟩
  · rw [decide_eq_false (show ¬ RootP x from fun h => h0 h.1)]
    have g0 : (x.id.toList == [0]) = false := by rw [Lib.toList_data]; exact beq_eq_false_iff_ne.2 h0
    clear h0
    go_enter Try.func68, Try.ntmps68
    go_wp2
    go_ret
    exact ⟨rfl, bald (Below.refl _ w) _⟩
set_option maxRecDepth 100000 in
set_option maxHeartbeats 400000 in
theorem isblock_ok (n : Int) (w : World) : Calls Try.prog 69 #[cN n] w fun e w' => e = .returned (.bool (decide (BlockP n))) ∧ Below w.heap.size w w' := by
  by_cases h0 : 0 ≤ n
  · by_cases h1 : n < 4294967296
    · rw [decide_eq_true (show BlockP n from ⟨h0, h1⟩)]
      go_enter Try.func69, Try.ntmps69
      go_wp2
      go_ret
      exact ⟨rfl, Below.refl _ w⟩
    · rw [decide_eq_false (show ¬ BlockP n from fun h => h1 h.2)]
      go_enter Try.func69, Try.ntmps69
      go_wp2
      go_ret
      exact ⟨rfl, Below.refl _ w⟩
  · rw [decide_eq_false (show ¬ BlockP n from fun h => h0 h.1)]
    go_enter Try.func69, Try.ntmps69
    go_wp2
    go_ret
    exact ⟨rfl, Below.refl _ w⟩
set_option maxRecDepth 100000 in
set_option maxHeartbeats 400000 in
theorem isnamed_ok (x : PE) (w : World) : Calls Try.prog 70 #[.agg (peA x)] w fun e w' => e = .returned (.bool (decide (NamedP x))) ∧ Below w.heap.size w w' := by
  by_cases h0 : x.id.size = 0
  · rw [decide_eq_false (show ¬ NamedP x from fun h => h.1 h0)]
    have g0 : x.id.toList.isEmpty = true := by rw [Lib.toList_data, List.isEmpty_iff]; exact List.eq_nil_of_length_eq_zero (by rw [list_size]; exact h0)
    clear h0
    go_enter Try.func70, Try.ntmps70
    go_wp2
    go_ret
    exact ⟨rfl, bald (Below.refl _ w) _⟩
  · have g0 : x.id.toList.isEmpty = false := by
      rw [Lib.toList_data]
      cases hh : x.id.data.toList with
      | nil => exact absurd (by rw [← list_size, hh]; rfl) h0
      | cons _ _ => rfl
    by_cases h1 : (x.id.size : Int) ≤ 255
    · by_cases h2 : x.id.data.toList = [0]
      · rw [decide_eq_false (show ¬ NamedP x from fun h => h.2.2.1 h2)]
        have g2 : (x.id.toList == [0]) = true := by rw [Lib.toList_data]; exact beq_iff_eq.2 h2
        clear h0 h2
        go_enter Try.func70, Try.ntmps70
        go_wp2
        go_ret
        exact ⟨rfl, bald (Below.refl _ w) _⟩
      · have g2 : (x.id.toList == [0]) = false := by rw [Lib.toList_data]; exact beq_eq_false_iff_ne.2 h2
        by_cases h3 : x.id.data.toList = [1]
        · rw [decide_eq_false (show ¬ NamedP x from fun h => h.2.2.2 h3)]
          have g3 : (x.id.toList == [1]) = true := by rw [Lib.toList_data]; exact beq_iff_eq.2 h3
          clear h0 h2 h3
          go_enter Try.func70, Try.ntmps70
          go_wp2
          go_ret
          exact ⟨rfl, bald (Below.refl _ w) _⟩
        · rw [decide_eq_true (show NamedP x from ⟨h0, by omega, h2, h3⟩)]
          have g3 : (x.id.toList == [1]) = false := by rw [Lib.toList_data]; exact beq_eq_false_iff_ne.2 h3
          clear h0 h2 h3
          go_enter Try.func70, Try.ntmps70
          go_wp2
          go_ret
          exact ⟨rfl, bald (Below.refl _ w) _⟩
    · rw [decide_eq_false (show ¬ NamedP x from fun h => h1 (by have := h.2.1; omega))]
      clear h0
      go_enter Try.func70, Try.ntmps70
      go_wp2
      go_ret
      exact ⟨rfl, bald (Below.refl _ w) _⟩
end Go.Proofs.Ytnmlephjhcmbhaa
