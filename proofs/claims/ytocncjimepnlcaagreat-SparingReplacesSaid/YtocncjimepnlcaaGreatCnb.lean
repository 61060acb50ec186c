/- Sparing tables: Lookup of both, at any table. -/
import Derived.Test.YtocncjimepnlcaaGreatSpb
import Derived.Test.YtocncjimepnlcaaGreatCmf
namespace Go.Proofs.YtocncjimepnlcaaGreat
set_option linter.unusedSimpArgs false
set_option linter.unusedVariables false
open Go Go.RowKit
def lkN (l : List Sp) (start count x : Int) : Int :=
  if x < 0 ∨ count ≤ x then 0 else match look l (x - x % 8) with
    | some m => IntKind.i64.wrap (m + x % 8)
    | none => IntKind.i64.wrap (start + x)
def lkE (count x : Int) : Int := if x < 0 ∨ count ≤ x then 2 else 0
set_option maxRecDepth 100000 in
set_option maxHeartbeats 1000000 in
theorem lk_bad (v : Value) (l : List Sp) (start count block : Int) (w : World) (h : block < 0 ∨ (0 ≤ block ∧ count ≤ block)) :
    Calls Tryz.prog 14 #[v, .agg #[cN start, cN count], cN block] w fun e w' => e = .returned (.tuple #[cN (lkN l start count block), cN (lkE count block)]) ∧ Below w.heap.size w w' := by
  have hb : block < 0 ∨ count ≤ block := by omega
  unfold lkN lkE
  rw [if_pos hb, if_pos hb]
  clear hb
  rcases h with h | ⟨h1, h2⟩
  all_goals
    go_enter Tryz.func14, Tryz.ntmps14
    go_wp2
    go_ret2
    exact ⟨rfl, bal (Below.refl _ w) _⟩
set_option maxRecDepth 100000 in
set_option maxHeartbeats 1000000 in
theorem rlk_bad (v : Value) (l : List Sp) (start count block : Int) (w : World) (h : block < 0 ∨ (0 ≤ block ∧ count ≤ block)) :
    Calls Tryz.prog 15 #[v, .agg #[cN start, cN count], cN block] w fun e w' => e = .returned (.tuple #[cN (lkN l start count block), cN (lkE count block)]) ∧ Below w.heap.size w w' := by
  have hb : block < 0 ∨ count ≤ block := by omega
  unfold lkN lkE
  rw [if_pos hb, if_pos hb]
  clear hb
  rcases h with h | ⟨h1, h2⟩
  all_goals
    go_enter Tryz.func15, Tryz.ntmps15
    go_wp2
    go_ret2
    exact ⟨rfl, bal (Below.refl _ w) _⟩
set_option maxRecDepth 100000 in
set_option maxHeartbeats 2000000 in
theorem lk_good (v : Value) (l : List Sp) (start count block : Int) (w : World) (h : SL w v l) (hl : l.length ≤ 1000) (h0 : 0 ≤ block) (h1 : block < count) (h2 : block < 9223372036854775808) :
    Calls Tryz.prog 14 #[v, .agg #[cN start, cN count], cN block] w fun e w' => e = .returned (.tuple #[cN (lkN l start count block), cN (lkE count block)]) ∧ Below w.heap.size w w' := by
  obtain ⟨a, c, rfl, hrow⟩ := h.rows
  have hnb : ¬ (block < 0 ∨ count ≤ block) := by omega
  unfold lkN lkE
  rw [if_neg hnb, if_neg hnb]
  clear hnb h
  obtain ⟨r, hr⟩ : ∃ r, Int.tmod block 8 = r := ⟨_, rfl⟩
  have hr2 : block % 8 = r := by rw [← hr, Int.tmod_eq_emod_of_nonneg h0]
  have hr0 : 0 ≤ r := by omega
  have hr8 : r < 8 := by omega
  rw [hr2]
  obtain ⟨f, hf⟩ : ∃ f, block - r = f := ⟨_, rfl⟩
  have hw : IntKind.i64.wrap (block - r) = f := by rw [IntKind.wrap_i64]; omega
  have hd : IntKind.i64.wrap (Int.tdiv block 8) = Int.tdiv block 8 := by rw [IntKind.wrap_i64, Int.tdiv_eq_ediv_of_nonneg h0]; omega
  have hd2 : Int.tdiv block 8 * 8 = f := by rw [Int.tdiv_eq_ediv_of_nonneg h0]; omega
  have hd3 : IntKind.i64.wrap f = f := by rw [IntKind.wrap_i64]; omega
  rw [hf]
  obtain ⟨z, hz⟩ : ∃ z : Int, (match look l f with | some m => IntKind.i64.wrap (m + r) | none => IntKind.i64.wrap (start + block)) = z := ⟨_, rfl⟩
  rw [hz]
  have HP : Hid ((∀ m, look l f = some m → IntKind.i64.wrap (m + r) = z) ∧ (look l f = none → IntKind.i64.wrap (start + block) = z)) := Lib.hid ⟨fun m h => by rw [← hz, h], fun h => by rw [← hz, h]⟩
  clear hr2 hz
  have hcnt : ¬ count ≤ block := by omega
  have HR := Lib.hid hrow
  clear hrow
  go_enter Tryz.func14, Tryz.ntmps14
  go_wp2
  go_loopw [20] (fun i wr => ∃ k : Nat, i = cN k ∧ k ≤ l.length ∧ (∀ i, i < k → (at_ l i).1 ≠ f) ∧ wr.heap[w.heap.size]? = some (.cells #[cN start, cN count] 23 (0, 0)) ∧ Below w.heap.size w wr) (fun i _ => l.length - (intOf i).toNat)
  case atStart => exact ⟨0, rfl, Nat.zero_le _, fun i h => absurd h (Nat.not_lt_zero _), World.alloc_heap_new w _, bal (Below.refl _ w) _⟩
  case round =>
    obtain ⟨k, rfl, hk, hno, hbox, hB⟩ := hrel
    have HNO := Lib.hid hno
    have hlt0 : w.heap.size < wr.heap.size := lt_of_block hbox
    clear hno
    by_cases hlt : (k : Int) < (l.length : Int)
    · have hkl : k < l.length := by omega
      obtain ⟨b, off, rfl, hlc, hb, hc0, hc1⟩ := HR.out k hkl
      have q0 := (hB.cell (p := ⟨b, off + k * 2, none⟩) hb).trans hc0
      have q1 := (hB.cell (p := ⟨b, off + k * 2 + 1, none⟩) hb).trans hc1
      have hbw : b < wr.heap.size := by have := hB.size; omega
      obtain ⟨xo, xm, hx⟩ : ∃ xo xm, at_ l k = (xo, xm) := ⟨_, _, rfl⟩
      rw [hx] at q0 q1
      have HX := Lib.hid hx
      have HBOX := Lib.hid hbox
      simp only at q0 q1
      clear hx hbox hc0 hc1
      cases he : (xo == f)
      · go_wp2
        go_roundw
        case rel => exact ⟨k + 1, by go_num, by omega, fun i hi => (by
            rcases Nat.lt_or_ge i k with h | h
            · exact HNO.out i h
            · rw [show i = k by omega, HX.out]; rw [beq_eq_false_iff_ne] at he; exact he), (Lib.alloc_old wr _ _ hlt0).trans HBOX.out, bal hB _⟩
        case measure => simp [intOf]; omega
      · have hv : IntKind.i64.wrap (xm + r) = z := HP.out.1 xm (by
          have := look_at hkl HNO.out (show (at_ l k).1 = f by rw [HX.out]; rw [beq_iff_eq] at he; exact he)
          rw [this, HX.out])
        go_wp2
        go_ret2
        exact ⟨rfl, bal hB _⟩
    · obtain rfl : k = l.length := by omega
      have hv : IntKind.i64.wrap (start + block) = z := HP.out.2 (look_no HNO.out)
      have p0 := Lib.cell_of_heap hbox 0
      go_wp2
      go_ret2
      exact ⟨rfl, hB⟩
set_option maxRecDepth 100000 in
set_option maxHeartbeats 2000000 in
theorem rlk_good (v : Value) (l : List Sp) (start count block : Int) (w : World) (h : SL w v l) (hl : l.length ≤ 1000) (h0 : 0 ≤ block) (h1 : block < count) (h2 : block < 9223372036854775808) :
    Calls Tryz.prog 15 #[v, .agg #[cN start, cN count], cN block] w fun e w' => e = .returned (.tuple #[cN (lkN l start count block), cN (lkE count block)]) ∧ Below w.heap.size w w' := by
  obtain ⟨a, c, rfl, hrow⟩ := h.rows
  have hnb : ¬ (block < 0 ∨ count ≤ block) := by omega
  unfold lkN lkE
  rw [if_neg hnb, if_neg hnb]
  clear hnb h
  obtain ⟨r, hr⟩ : ∃ r, Int.tmod block 8 = r := ⟨_, rfl⟩
  have hr2 : block % 8 = r := by rw [← hr, Int.tmod_eq_emod_of_nonneg h0]
  have hr0 : 0 ≤ r := by omega
  have hr8 : r < 8 := by omega
  rw [hr2]
  obtain ⟨f, hf⟩ : ∃ f, block - r = f := ⟨_, rfl⟩
  have hw : IntKind.i64.wrap (block - r) = f := by rw [IntKind.wrap_i64]; omega
  have hd : IntKind.i64.wrap (Int.tdiv block 8) = Int.tdiv block 8 := by rw [IntKind.wrap_i64, Int.tdiv_eq_ediv_of_nonneg h0]; omega
  have hd2 : Int.tdiv block 8 * 8 = f := by rw [Int.tdiv_eq_ediv_of_nonneg h0]; omega
  have hd3 : IntKind.i64.wrap f = f := by rw [IntKind.wrap_i64]; omega
  rw [hf]
  obtain ⟨z, hz⟩ : ∃ z : Int, (match look l f with | some m => IntKind.i64.wrap (m + r) | none => IntKind.i64.wrap (start + block)) = z := ⟨_, rfl⟩
  rw [hz]
  have HP : Hid ((∀ m, look l f = some m → IntKind.i64.wrap (m + r) = z) ∧ (look l f = none → IntKind.i64.wrap (start + block) = z)) := Lib.hid ⟨fun m h => by rw [← hz, h], fun h => by rw [← hz, h]⟩
  clear hr2 hz
  have hcnt : ¬ count ≤ block := by omega
  have HR := Lib.hid hrow
  clear hrow
  go_enter Tryz.func15, Tryz.ntmps15
  go_wp2
  go_loopw [8] (fun i wr => ∃ k : Nat, i = cN k ∧ k ≤ l.length ∧ (∀ i, i < k → (at_ l i).1 ≠ f) ∧ wr.heap[w.heap.size]? = some (.cells #[cN start, cN count] 23 (0, 0)) ∧ Below w.heap.size w wr) (fun i _ => l.length - (intOf i).toNat)
  case atStart => exact ⟨0, rfl, Nat.zero_le _, fun i h => absurd h (Nat.not_lt_zero _), World.alloc_heap_new w _, bal (Below.refl _ w) _⟩
  case round =>
    obtain ⟨k, rfl, hk, hno, hbox, hB⟩ := hrel
    have HNO := Lib.hid hno
    have hlt0 : w.heap.size < wr.heap.size := lt_of_block hbox
    clear hno
    by_cases hlt : (k : Int) < (l.length : Int)
    · have hkl : k < l.length := by omega
      obtain ⟨b, off, rfl, hlc, hb, hc0, hc1⟩ := HR.out k hkl
      have q0 := (hB.cell (p := ⟨b, off + k * 2, none⟩) hb).trans hc0
      have q1 := (hB.cell (p := ⟨b, off + k * 2 + 1, none⟩) hb).trans hc1
      have hbw : b < wr.heap.size := by have := hB.size; omega
      obtain ⟨xo, xm, hx⟩ : ∃ xo xm, at_ l k = (xo, xm) := ⟨_, _, rfl⟩
      rw [hx] at q0 q1
      have HX := Lib.hid hx
      have HBOX := Lib.hid hbox
      simp only at q0 q1
      clear hx hbox hc0 hc1
      cases he : (xo == f)
      · go_wp2
        go_roundw
        case rel => exact ⟨k + 1, by go_num, by omega, fun i hi => (by
            rcases Nat.lt_or_ge i k with h | h
            · exact HNO.out i h
            · rw [show i = k by omega, HX.out]; rw [beq_eq_false_iff_ne] at he; exact he), HBOX.out, hB⟩
        case measure => simp [intOf]; omega
      · have hv : IntKind.i64.wrap (xm + r) = z := HP.out.1 xm (by
          have := look_at hkl HNO.out (show (at_ l k).1 = f by rw [HX.out]; rw [beq_iff_eq] at he; exact he)
          rw [this, HX.out])
        go_wp2
        go_ret2
        exact ⟨rfl, hB⟩
    · obtain rfl : k = l.length := by omega
      have hv : IntKind.i64.wrap (start + block) = z := HP.out.2 (look_no HNO.out)
      have p0 := Lib.cell_of_heap hbox 0
      go_wp2
      go_ret2
      exact ⟨rfl, hB⟩
theorem lk_ok (v : Value) (l : List Sp) (start count block : Int) (w : World) (h : SL w v l) (hl : l.length ≤ 1000) (h2 : block < 9223372036854775808) :
    Calls Tryz.prog 14 #[v, .agg #[cN start, cN count], cN block] w fun e w' => e = .returned (.tuple #[cN (lkN l start count block), cN (lkE count block)]) ∧ Below w.heap.size w w' := by
  by_cases h0 : block < 0
  · exact lk_bad v l start count block w (.inl h0)
  · by_cases h1 : count ≤ block
    · exact lk_bad v l start count block w (.inr ⟨by omega, h1⟩)
    · exact lk_good v l start count block w h hl (by omega) (by omega) h2
theorem rlk_ok (v : Value) (l : List Sp) (start count block : Int) (w : World) (h : SL w v l) (hl : l.length ≤ 1000) (h2 : block < 9223372036854775808) :
    Calls Tryz.prog 15 #[v, .agg #[cN start, cN count], cN block] w fun e w' => e = .returned (.tuple #[cN (lkN l start count block), cN (lkE count block)]) ∧ Below w.heap.size w w' := by
  by_cases h0 : block < 0
  · exact rlk_bad v l start count block w (.inl h0)
  · by_cases h1 : count ≤ block
    · exact rlk_bad v l start count block w (.inr ⟨by omega, h1⟩)
    · exact rlk_good v l start count block w h hl (by omega) (by omega) h2
end Go.Proofs.YtocncjimepnlcaaGreat
