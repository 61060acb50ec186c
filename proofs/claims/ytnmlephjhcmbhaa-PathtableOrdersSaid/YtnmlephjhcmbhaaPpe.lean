/- slices.IndexFunc and ContainsFunc of entries; pathtable.Find, Size; Same of the reference. -/
import Derived.Test.YtnmlephjhcmbhaaPpc
namespace Go.Proofs.Ytnmlephjhcmbhaa
set_option linter.unusedSimpArgs false
set_option linter.unusedVariables false
open Go Go.RowKit
def idxP (P : PE → Bool) (l : List PE) : Int := if l.findIdx P < l.length then (l.findIdx P : Int) else -1
theorem fidx_no {P : PE → Bool} {l : List PE} {k : Nat} {x : PE} (h : k ≤ l.findIdx P) (hk : k < l.length) (hx : l.getD k peD = x) (hP : P x = false) : k + 1 ≤ l.findIdx P := by
  rcases Nat.lt_or_ge k (l.findIdx P) with h1 | h1
  · exact h1
  · have e : l.findIdx P = k := by omega
    have := List.findIdx_getElem (p := P) (xs := l) (w := by omega)
    simp only [e] at this
    rw [List.getD_eq_getElem?_getD, List.getElem?_eq_getElem hk, Option.getD_some] at hx
    rw [hx, hP] at this
    cases this
theorem fidx_yes {P : PE → Bool} {l : List PE} {k : Nat} {x : PE} (h : k ≤ l.findIdx P) (hk : k < l.length) (hx : l.getD k peD = x) (hP : P x = true) : idxP P l = k := by
  have e : l.findIdx P = k := by
    rcases Nat.lt_or_ge k (l.findIdx P) with h1 | h1
    · have := List.not_of_lt_findIdx (p := P) (xs := l) h1
      rw [List.getD_eq_getElem?_getD, List.getElem?_eq_getElem hk, Option.getD_some] at hx
      rw [hx] at this
      simp [hP] at this
    · omega
  rw [idxP, e, if_pos hk]
theorem fidx_end {P : PE → Bool} {l : List PE} (h : l.length ≤ l.findIdx P) : idxP P l = -1 := by rw [idxP, if_neg (by omega)]
theorem idxP_any (P : PE → Bool) (l : List PE) : decide (0 ≤ idxP P l) = l.any P := by
  unfold idxP
  by_cases h : l.findIdx P < l.length
  · rw [if_pos h, decide_eq_true (by omega)]
    symm
    rw [List.any_eq_true]
    exact ⟨_, List.getElem_mem h, List.findIdx_getElem⟩
  · rw [if_neg h, decide_eq_false (by omega)]
    symm
    rw [List.any_eq_false]
    intro x hx
    have := List.findIdx_eq_length.1 (show l.findIdx P = l.length by have := List.findIdx_le_length (p := P) (xs := l); omega) x hx
    simpa using this
set_option maxRecDepth 100000 in
set_option maxHeartbeats 400000 in
theorem pord2_ok (x : PE) (w : World) : Calls Try.prog 78 #[.agg (peA x)] w fun e w' => e = .returned (.bool (!decide (BlockP x.lba))) ∧ Below w.heap.size w w' := by
  have c1 := fun W => isblock_ok x.lba W
  obtain ⟨B, hB⟩ : ∃ B, decide (BlockP x.lba) = B := ⟨_, rfl⟩
  rw [hB] at c1 ⊢
  clear hB
  go_enter Try.func78, Try.ntmps78
  go_wp2_with fail
  with_reducible refine (c1 _).mono ?_
  rintro e w1 ⟨rfl, hB1⟩
  go_wp2
  go_ret
  exact ⟨rfl, bthen (bald (Below.refl _ w) _) hB1⟩
set_option maxRecDepth 100000 in
set_option maxHeartbeats 400000 in
theorem penc1_ok (x : PE) (w : World) : Calls Try.prog 83 #[.agg (peA x)] w fun e w' => e = .returned (.bool (decide ((255 : Int) < x.id.size))) ∧ Below w.heap.size w w' := by
  go_enter Try.func83, Try.ntmps83
  go_wp2
  go_ret
  exact ⟨rfl, bald (Below.refl _ w) _⟩
set_option maxRecDepth 100000 in
set_option maxHeartbeats 400000 in
theorem penc2_ok (x : PE) (w : World) : Calls Try.prog 84 #[.agg (peA x)] w fun e w' => e = .returned (.bool x.id.toList.isEmpty) ∧ Below w.heap.size w w' := by
  go_enter Try.func84, Try.ntmps84
  go_wp2
  go_ret
  exact ⟨rfl, bald (Below.refl _ w) _⟩
set_option maxRecDepth 100000 in
set_option maxHeartbeats 400000 in
theorem pfind1_ok (x : PE) (n : Int) (id : ByteArray) (F1 F2 : Nat) (w : World) (h1 : w.heap[F1]? = some (.cells #[cN n] 3 (0, 0))) (h2 : w.heap[F2]? = some (.cells #[.string id] 9 (0, 0))) :
    Calls Try.prog 82 #[.agg (peA x), .pointer (some ⟨F1, 0, none⟩), .pointer (some ⟨F2, 0, none⟩)] w fun e w' => e = .returned (.bool (x.par == n && x.id.toList == id.toList)) ∧ Below w.heap.size w w' := by
  have p1 := Lib.cell_of_heap ((Lib.alloc_old w (.cells (peA x) 63) _ (lt_of_block h1)).trans h1) 0
  have p2 := Lib.cell_of_heap ((Lib.alloc_old w (.cells (peA x) 63) _ (lt_of_block h2)).trans h2) 0
  clear h1 h2
  cases hv : (x.par == n)
  · go_enter Try.func82, Try.ntmps82
    go_wp2
    go_ret
    exact ⟨rfl, bald (Below.refl _ w) _⟩
  · go_enter Try.func82, Try.ntmps82
    go_wp2
    go_ret
    exact ⟨rfl, bald (Below.refl _ w) _⟩
set_option maxRecDepth 100000 in
set_option maxHeartbeats 1000000 in
theorem ifblock_ok (a : Option Addr) (c : Nat) (l : List PE) (w : World) (hl : l.length ≤ 2 ^ 50) (hrow : RowP w a l) :
    Calls Try.prog 81 #[.slice a l.length c, .func (.func 78) #[] #[]] w fun e w' => e = .returned (cN (idxP (fun x => !decide (BlockP x.lba)) l)) ∧ Below w.heap.size w w' := by
  have HR := Lib.hid hrow
  clear hrow
  skip
  go_enter Try.func81, Try.ntmps81
  go_wp2
  go_loopw [8, 5] (fun i _ wr => ∃ k : Nat, i = cN k ∧ k ≤ l.length ∧ k ≤ l.findIdx (fun x => !decide (BlockP x.lba)) ∧ Below w.heap.size w wr) (fun i _ _ => l.length - (intOf i).toNat)
  case atStart => exact ⟨0, rfl, Nat.zero_le _, Nat.zero_le _, Below.refl _ w⟩
  case round =>
    obtain ⟨k, rfl, hk, hf, hB⟩ := hrel
    have HB := Lib.hid hB
    have HF := Lib.hid hf
    by_cases hlt : (k : Int) < (l.length : Int)
    · have hkl : k < l.length := by omega
      obtain ⟨b, off, rfl, hb, hc⟩ := HR.out k hkl
      obtain ⟨x, hx⟩ : ∃ x, l.getD k peD = x := ⟨_, rfl⟩
      rw [hx] at hc
      obtain ⟨q0, q1, q2⟩ := hc.below hb hB
      have c1 := pord2_ok x wr
      have HX := Lib.hid hx
      obtain ⟨B, hBB⟩ : ∃ B, (fun x => !decide (BlockP x.lba)) x = B := ⟨_, rfl⟩
      have e2 : (fun x => !decide (BlockP x.lba)) x = B := hBB
      simp only [] at e2
      rw [e2] at c1
      have HBB := Lib.hid hBB
      clear hx hc hB hf hBB e2
      cases B
      · go_wp2_with fail
        with_reducible refine c1.mono ?_
        rintro e w1 ⟨rfl, hB1⟩
        have HB1 := Lib.hid (bthen HB.out hB1)
        clear hB1 c1
        go_wp2
        go_roundw
        case rel => exact ⟨k + 1, by go_num, by omega, fidx_no HF.out hkl HX.out HBB.out, HB1.out⟩
        case measure => simp [intOf]; omega
      · go_wp2_with fail
        with_reducible refine c1.mono ?_
        rintro e w1 ⟨rfl, hB1⟩
        have HB1 := Lib.hid (bthen HB.out hB1)
        clear hB1 c1
        go_wp2
        go_ret
        exact ⟨ret_int (fidx_yes HF.out hkl HX.out HBB.out).symm, HB1.out⟩
    · obtain rfl : k = l.length := by omega
      clear hf
      go_wp2
      go_ret
      exact ⟨ret_int (fidx_end HF.out).symm, HB.out⟩
set_option maxRecDepth 100000 in
set_option maxHeartbeats 1000000 in
theorem iflong_ok (a : Option Addr) (c : Nat) (l : List PE) (w : World) (hl : l.length ≤ 2 ^ 50) (hrow : RowP w a l) :
    Calls Try.prog 81 #[.slice a l.length c, .func (.func 83) #[] #[]] w fun e w' => e = .returned (cN (idxP (fun x => decide ((255 : Int) < x.id.size)) l)) ∧ Below w.heap.size w w' := by
  have HR := Lib.hid hrow
  clear hrow
  skip
  go_enter Try.func81, Try.ntmps81
  go_wp2
  go_loopw [8, 5] (fun i _ wr => ∃ k : Nat, i = cN k ∧ k ≤ l.length ∧ k ≤ l.findIdx (fun x => decide ((255 : Int) < x.id.size)) ∧ Below w.heap.size w wr) (fun i _ _ => l.length - (intOf i).toNat)
  case atStart => exact ⟨0, rfl, Nat.zero_le _, Nat.zero_le _, Below.refl _ w⟩
  case round =>
    obtain ⟨k, rfl, hk, hf, hB⟩ := hrel
    have HB := Lib.hid hB
    have HF := Lib.hid hf
    by_cases hlt : (k : Int) < (l.length : Int)
    · have hkl : k < l.length := by omega
      obtain ⟨b, off, rfl, hb, hc⟩ := HR.out k hkl
      obtain ⟨x, hx⟩ : ∃ x, l.getD k peD = x := ⟨_, rfl⟩
      rw [hx] at hc
      obtain ⟨q0, q1, q2⟩ := hc.below hb hB
      have c1 := penc1_ok x wr
      have HX := Lib.hid hx
      obtain ⟨B, hBB⟩ : ∃ B, (fun x => decide ((255 : Int) < x.id.size)) x = B := ⟨_, rfl⟩
      have e2 : (fun x => decide ((255 : Int) < x.id.size)) x = B := hBB
      simp only [] at e2
      rw [e2] at c1
      have HBB := Lib.hid hBB
      clear hx hc hB hf hBB e2
      cases B
      · go_wp2_with fail
        with_reducible refine c1.mono ?_
        rintro e w1 ⟨rfl, hB1⟩
        have HB1 := Lib.hid (bthen HB.out hB1)
        clear hB1 c1
        go_wp2
        go_roundw
        case rel => exact ⟨k + 1, by go_num, by omega, fidx_no HF.out hkl HX.out HBB.out, HB1.out⟩
        case measure => simp [intOf]; omega
      · go_wp2_with fail
        with_reducible refine c1.mono ?_
        rintro e w1 ⟨rfl, hB1⟩
        have HB1 := Lib.hid (bthen HB.out hB1)
        clear hB1 c1
        go_wp2
        go_ret
        exact ⟨ret_int (fidx_yes HF.out hkl HX.out HBB.out).symm, HB1.out⟩
    · obtain rfl : k = l.length := by omega
      clear hf
      go_wp2
      go_ret
      exact ⟨ret_int (fidx_end HF.out).symm, HB.out⟩
set_option maxRecDepth 100000 in
set_option maxHeartbeats 1000000 in
theorem ifempty_ok (a : Option Addr) (c : Nat) (l : List PE) (w : World) (hl : l.length ≤ 2 ^ 50) (hrow : RowP w a l) :
    Calls Try.prog 81 #[.slice a l.length c, .func (.func 84) #[] #[]] w fun e w' => e = .returned (cN (idxP (fun x => x.id.toList.isEmpty) l)) ∧ Below w.heap.size w w' := by
  have HR := Lib.hid hrow
  clear hrow
  skip
  go_enter Try.func81, Try.ntmps81
  go_wp2
  go_loopw [8, 5] (fun i _ wr => ∃ k : Nat, i = cN k ∧ k ≤ l.length ∧ k ≤ l.findIdx (fun x => x.id.toList.isEmpty) ∧ Below w.heap.size w wr) (fun i _ _ => l.length - (intOf i).toNat)
  case atStart => exact ⟨0, rfl, Nat.zero_le _, Nat.zero_le _, Below.refl _ w⟩
  case round =>
    obtain ⟨k, rfl, hk, hf, hB⟩ := hrel
    have HB := Lib.hid hB
    have HF := Lib.hid hf
    by_cases hlt : (k : Int) < (l.length : Int)
    · have hkl : k < l.length := by omega
      obtain ⟨b, off, rfl, hb, hc⟩ := HR.out k hkl
      obtain ⟨x, hx⟩ : ∃ x, l.getD k peD = x := ⟨_, rfl⟩
      rw [hx] at hc
      obtain ⟨q0, q1, q2⟩ := hc.below hb hB
      have c1 := penc2_ok x wr
      have HX := Lib.hid hx
      obtain ⟨B, hBB⟩ : ∃ B, (fun x => x.id.toList.isEmpty) x = B := ⟨_, rfl⟩
      have e2 : (fun x => x.id.toList.isEmpty) x = B := hBB
      simp only [] at e2
      rw [e2] at c1
      have HBB := Lib.hid hBB
      clear hx hc hB hf hBB e2
      cases B
      · go_wp2_with fail
        with_reducible refine c1.mono ?_
        rintro e w1 ⟨rfl, hB1⟩
        have HB1 := Lib.hid (bthen HB.out hB1)
        clear hB1 c1
        go_wp2
        go_roundw
        case rel => exact ⟨k + 1, by go_num, by omega, fidx_no HF.out hkl HX.out HBB.out, HB1.out⟩
        case measure => simp [intOf]; omega
      · go_wp2_with fail
        with_reducible refine c1.mono ?_
        rintro e w1 ⟨rfl, hB1⟩
        have HB1 := Lib.hid (bthen HB.out hB1)
        clear hB1 c1
        go_wp2
        go_ret
        exact ⟨ret_int (fidx_yes HF.out hkl HX.out HBB.out).symm, HB1.out⟩
    · obtain rfl : k = l.length := by omega
      clear hf
      go_wp2
      go_ret
      exact ⟨ret_int (fidx_end HF.out).symm, HB.out⟩
set_option maxRecDepth 100000 in
set_option maxHeartbeats 1000000 in
theorem iffind_ok (n : Int) (id : ByteArray) (F1 F2 : Nat) (a : Option Addr) (c : Nat) (l : List PE) (w : World) (hl : l.length ≤ 2 ^ 50) (h1 : w.heap[F1]? = some (.cells #[cN n] 3 (0, 0))) (h2 : w.heap[F2]? = some (.cells #[.string id] 9 (0, 0))) (hrow : RowP w a l) :
    Calls Try.prog 81 #[.slice a l.length c, .func (.func 82) #[] #[.pointer (some ⟨F1, 0, none⟩), .pointer (some ⟨F2, 0, none⟩)]] w fun e w' => e = .returned (cN (idxP (fun x => x.par == n && x.id.toList == id.toList) l)) ∧ Below w.heap.size w w' := by
  have HR := Lib.hid hrow
  clear hrow
  have H1 := Lib.hid h1; have H2 := Lib.hid h2; clear h1 h2
  go_enter Try.func81, Try.ntmps81
  go_wp2
  go_loopw [8, 5] (fun i _ wr => ∃ k : Nat, i = cN k ∧ k ≤ l.length ∧ k ≤ l.findIdx (fun x => x.par == n && x.id.toList == id.toList) ∧ Below w.heap.size w wr) (fun i _ _ => l.length - (intOf i).toNat)
  case atStart => exact ⟨0, rfl, Nat.zero_le _, Nat.zero_le _, Below.refl _ w⟩
  case round =>
    obtain ⟨k, rfl, hk, hf, hB⟩ := hrel
    have HB := Lib.hid hB
    have HF := Lib.hid hf
    by_cases hlt : (k : Int) < (l.length : Int)
    · have hkl : k < l.length := by omega
      obtain ⟨b, off, rfl, hb, hc⟩ := HR.out k hkl
      obtain ⟨x, hx⟩ : ∃ x, l.getD k peD = x := ⟨_, rfl⟩
      rw [hx] at hc
      obtain ⟨q0, q1, q2⟩ := hc.below hb hB
      have c1 := pfind1_ok x n id F1 F2 wr ((hB.block _ (lt_of_block H1.out)).trans H1.out) ((hB.block _ (lt_of_block H2.out)).trans H2.out)
      have HX := Lib.hid hx
      obtain ⟨B, hBB⟩ : ∃ B, (fun x => x.par == n && x.id.toList == id.toList) x = B := ⟨_, rfl⟩
      have e2 : (fun x => x.par == n && x.id.toList == id.toList) x = B := hBB
      simp only [] at e2
      rw [e2] at c1
      have HBB := Lib.hid hBB
      clear hx hc hB hf hBB e2
      cases B
      · go_wp2_with fail
        with_reducible refine c1.mono ?_
        rintro e w1 ⟨rfl, hB1⟩
        have HB1 := Lib.hid (bthen HB.out hB1)
        clear hB1 c1
        go_wp2
        go_roundw
        case rel => exact ⟨k + 1, by go_num, by omega, fidx_no HF.out hkl HX.out HBB.out, HB1.out⟩
        case measure => simp [intOf]; omega
      · go_wp2_with fail
        with_reducible refine c1.mono ?_
        rintro e w1 ⟨rfl, hB1⟩
        have HB1 := Lib.hid (bthen HB.out hB1)
        clear hB1 c1
        go_wp2
        go_ret
        exact ⟨ret_int (fidx_yes HF.out hkl HX.out HBB.out).symm, HB1.out⟩
    · obtain rfl : k = l.length := by omega
      clear hf
      go_wp2
      go_ret
      exact ⟨ret_int (fidx_end HF.out).symm, HB.out⟩
set_option maxRecDepth 100000 in
set_option maxHeartbeats 400000 in
theorem cfblock_ok (a : Option Addr) (c : Nat) (l : List PE) (w : World) (hl : l.length ≤ 2 ^ 50) (hrow : RowP w a l) :
    Calls Try.prog 77 #[.slice a l.length c, .func (.func 78) #[] #[]] w fun e w' => e = .returned (.bool (l.any (fun x => !decide (BlockP x.lba)))) ∧ Below w.heap.size w w' := by
  have c1 := ifblock_ok a c l w hl hrow
  rw [← idxP_any]
  obtain ⟨v, hv⟩ : ∃ v, idxP (fun x => !decide (BlockP x.lba)) l = v := ⟨_, rfl⟩
  rw [hv] at c1 ⊢
  clear hv hrow
  go_enter Try.func77, Try.ntmps77
  go_wp2_with fail
  with_reducible refine c1.mono ?_
  rintro e w1 ⟨rfl, hB1⟩
  go_wp2
  go_ret
  exact ⟨rfl, hB1⟩
set_option maxRecDepth 100000 in
set_option maxHeartbeats 400000 in
theorem cflong_ok (a : Option Addr) (c : Nat) (l : List PE) (w : World) (hl : l.length ≤ 2 ^ 50) (hrow : RowP w a l) :
    Calls Try.prog 77 #[.slice a l.length c, .func (.func 83) #[] #[]] w fun e w' => e = .returned (.bool (l.any (fun x => decide ((255 : Int) < x.id.size)))) ∧ Below w.heap.size w w' := by
  have c1 := iflong_ok a c l w hl hrow
  rw [← idxP_any]
  obtain ⟨v, hv⟩ : ∃ v, idxP (fun x => decide ((255 : Int) < x.id.size)) l = v := ⟨_, rfl⟩
  rw [hv] at c1 ⊢
  clear hv hrow
  go_enter Try.func77, Try.ntmps77
  go_wp2_with fail
  with_reducible refine c1.mono ?_
  rintro e w1 ⟨rfl, hB1⟩
  go_wp2
  go_ret
  exact ⟨rfl, hB1⟩
set_option maxRecDepth 100000 in
set_option maxHeartbeats 400000 in
theorem cfempty_ok (a : Option Addr) (c : Nat) (l : List PE) (w : World) (hl : l.length ≤ 2 ^ 50) (hrow : RowP w a l) :
    Calls Try.prog 77 #[.slice a l.length c, .func (.func 84) #[] #[]] w fun e w' => e = .returned (.bool (l.any (fun x => x.id.toList.isEmpty))) ∧ Below w.heap.size w w' := by
  have c1 := ifempty_ok a c l w hl hrow
  rw [← idxP_any]
  obtain ⟨v, hv⟩ : ∃ v, idxP (fun x => x.id.toList.isEmpty) l = v := ⟨_, rfl⟩
  rw [hv] at c1 ⊢
  clear hv hrow
  go_enter Try.func77, Try.ntmps77
  go_wp2_with fail
  with_reducible refine c1.mono ?_
  rintro e w1 ⟨rfl, hB1⟩
  go_wp2
  go_ret
  exact ⟨rfl, hB1⟩
end Go.Proofs.Ytnmlephjhcmbhaa
