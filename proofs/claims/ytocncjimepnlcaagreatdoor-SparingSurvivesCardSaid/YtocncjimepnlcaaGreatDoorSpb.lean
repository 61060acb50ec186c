/- Sparing tables: Lookup, Same of the reference, New. -/
import Derived.Test.YtocncjimepnlcaaGreatDoorSpa
namespace Go.Proofs.YtocncjimepnlcaaGreatDoor
set_option linter.unusedSimpArgs false
set_option linter.unusedVariables false
open Go Go.RowKit
/-- What Lookup gives. -/
def lookN (l : List Sp) (start count block : Int) : Int := if block < 0 ∨ count ≤ block then 0 else place l start block
def lookE (count block : Int) : Int := if block < 0 ∨ count ≤ block then 2 else 0
theorem look_at {l : List Sp} {f : Int} {k : Nat} (hk : k < l.length) (h : ∀ i, i < k → (at_ l i).1 ≠ f) (hf : (at_ l k).1 = f) : look l f = some (at_ l k).2 := by
  induction l generalizing k with
  | nil => simp at hk
  | cons x l ih =>
    cases k with
    | zero =>
      have : x.1 = f := hf
      rw [look, if_pos this]
      rfl
    | succ k =>
      have h0 : x.1 ≠ f := h 0 (by omega)
      rw [look, if_neg h0]
      exact ih (k := k) (by simpa using hk) (fun i hi => h (i + 1) (by omega)) hf
theorem look_no {l : List Sp} {f : Int} (h : ∀ i, i < l.length → (at_ l i).1 ≠ f) : look l f = none := by
  induction l with
  | nil => rfl
  | cons x l ih =>
    have h0 : x.1 ≠ f := h 0 (by simp)
    rw [look, if_neg h0]
    exact ih fun i hi => h (i + 1) (by simpa using hi)
set_option maxRecDepth 100000 in
set_option maxHeartbeats 1000000 in
theorem lookup_row (a : Option Addr) (c : Nat) (l : List Sp) (start count block : Int) (w : World) (h0 : 0 ≤ block) (h1 : block < count) (h2 : block < 4294967296) (h3 : 0 ≤ start) (h4 : start < 1152921504606846976) (hl8 : l.length ≤ 8)
    (hm : ∀ x ∈ l, 0 ≤ x.2 ∧ x.2 < 4294967296) (hrow : ∀ k, k < l.length → ∃ b off, a = some ⟨b, off, none⟩ ∧ b < w.heap.size ∧ Row w b off l) :
    Calls Tryz.prog 15 #[.slice a l.length c, .agg #[cN start, cN count], cN block] w fun e w' => e = .returned (.tuple #[cN (place l start block), cN 0]) ∧ Below w.heap.size w w' := by
  obtain ⟨r, hr⟩ : ∃ r, Int.tmod block 8 = r := ⟨_, rfl⟩
  have hr2 : block % 8 = r := by rw [← hr, Int.tmod_eq_emod_of_nonneg h0]
  have hr0 : 0 ≤ r := by omega
  have hr8 : r < 8 := by omega
  obtain ⟨f, hf⟩ : ∃ f, block - r = f := ⟨_, rfl⟩
  have hw : IntKind.i64.wrap (block - r) = f := by rw [IntKind.wrap_i64]; omega
  have HP : Hid ((∀ m, look l f = some m → place l start block = m + r) ∧ (look l f = none → place l start block = start + block)) := Lib.hid ⟨fun m h => by unfold place; rw [hr2, hf, h], fun h => by unfold place; rw [hr2, hf, h]⟩
  clear hr2
  have hcnt : ¬ count ≤ block := by omega
  have HR := Lib.hid hrow
  have HM := Lib.hid hm
  clear hrow hm
  go_enter Tryz.func15, Tryz.ntmps15
  go_wp2
  go_loopw [20] (fun i wr => ∃ k : Nat, i = cN k ∧ k ≤ l.length ∧ (∀ i, i < k → (at_ l i).1 ≠ f) ∧ wr.heap[w.heap.size]? = some (.cells #[cN start, cN count] 50 (0, 0)) ∧ Below w.heap.size w wr) (fun i _ => l.length - (intOf i).toNat)
  case atStart => exact ⟨0, rfl, Nat.zero_le _, fun i h => absurd h (Nat.not_lt_zero _), World.alloc_heap_new w _, bal (Below.refl _ w) _⟩
  case round =>
    obtain ⟨k, rfl, hk, hno, hbox, hB⟩ := hrel
    have HNO := Lib.hid hno
    have hlt0 : w.heap.size < wr.heap.size := lt_of_block hbox
    clear hno
    by_cases hlt : (k : Int) < (l.length : Int)
    · have hkl : k < l.length := by omega
      obtain ⟨b, off, rfl, hb, hR⟩ := HR.out k hkl
      obtain ⟨q0, q1⟩ := (hR.below hb hB) k hkl
      have hbw : b < wr.heap.size := by have := hB.size; omega
      obtain ⟨xo, xm, hx⟩ : ∃ xo xm, at_ l k = (xo, xm) := ⟨_, _, rfl⟩
      have hxm := HM.out _ (at_mem hkl)
      rw [hx] at q0 q1 hxm
      have HX := Lib.hid hx
      have HBOX := Lib.hid hbox
      obtain ⟨hxm0, hxm1⟩ := hxm
      simp only at hxm0 hxm1
      clear hx hbox hR
      cases he : (xo == f)
      · go_wp2
        go_roundw
        case rel => exact ⟨k + 1, by go_num, by omega, fun i hi => (by
            rcases Nat.lt_or_ge i k with h | h
            · exact HNO.out i h
            · rw [show i = k by omega, HX.out]; rw [beq_eq_false_iff_ne] at he; exact he), (Lib.alloc_old wr _ _ hlt0).trans HBOX.out, bal hB _⟩
        case measure => simp [intOf]; omega
      · have HV : Hid (place l start block = xm + r) := Lib.hid (HP.out.1 xm (by
          have := look_at hkl HNO.out (show (at_ l k).1 = f by rw [HX.out]; rw [beq_iff_eq] at he; exact he)
          rw [this, HX.out]))
        go_wp2
        go_ret2
        exact ⟨by rw [HV.out]; rfl, bal hB _⟩
    · obtain rfl : k = l.length := by omega
      have HV : Hid (place l start block = start + block) := Lib.hid (HP.out.2 (look_no HNO.out))
      have p0 := Lib.cell_of_heap hbox 0
      go_wp2
      go_ret2
      exact ⟨by rw [HV.out]; rfl, hB⟩
set_option maxRecDepth 100000 in
set_option maxHeartbeats 1000000 in
theorem lookup_bad (v : Value) (start count block : Int) (w : World) (h : block < 0 ∨ (0 ≤ block ∧ count ≤ block)) :
    Calls Tryz.prog 15 #[v, .agg #[cN start, cN count], cN block] w fun e w' => e = .returned (.tuple #[cN 0, cN 2]) ∧ Below w.heap.size w w' := by
  rcases h with h | ⟨h1, h2⟩
  all_goals
    go_enter Tryz.func15, Tryz.ntmps15
    go_wp2
    go_ret2
    exact ⟨rfl, bal (Below.refl _ w) _⟩
theorem lookup_ok (v : Value) (l : List Sp) (start count block : Int) (w : World) (hl : SL w v l) (h0 : 0 ≤ block) (h1 : block < count) (h2 : block < 4294967296) (h3 : 0 ≤ start) (h4 : start < 1152921504606846976) (hl8 : l.length ≤ 8) (hm : ∀ x ∈ l, 0 ≤ x.2 ∧ x.2 < 4294967296) :
    Calls Tryz.prog 15 #[v, .agg #[cN start, cN count], cN block] w fun e w' => e = .returned (.tuple #[cN (place l start block), cN 0]) ∧ Below w.heap.size w w' := by
  rcases hl with ⟨rfl, a, c, rfl⟩ | ⟨b, off, c, rfl, hc, hb, hr⟩
  · exact lookup_row a c [] start count block w h0 h1 h2 h3 h4 (Nat.zero_le 8) hm (fun k hk => by simp at hk)
  · exact lookup_row _ c l start count block w h0 h1 h2 h3 h4 hl8 hm (fun k hk => ⟨b, off, rfl, hb, hr⟩)
end Go.Proofs.YtocncjimepnlcaaGreatDoor
