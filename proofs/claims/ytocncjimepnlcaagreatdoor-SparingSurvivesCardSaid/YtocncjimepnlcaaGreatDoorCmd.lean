/- udfstring.Entity of the sparing table's identifier, of both. -/
import Derived.Test.YtocncjimepnlcaaGreatDoorCmc
namespace Go.Proofs.YtocncjimepnlcaaGreatDoor
set_option linter.unusedSimpArgs false
set_option linter.unusedVariables false
open Go Go.RowKit
def prB (b : UInt8) : Bool := decide (32 ≤ b.toNat ∧ b.toNat ≤ 126)
set_option maxRecDepth 100000 in
set_option maxHeartbeats 400000 in
theorem uprint1_ok (b : Nat) (w : World) (h : 32 ≤ b ∧ b ≤ 126) : Calls Tryz.prog 52 #[.int .u8 (b : Int)] w fun e w' => e = .returned (.bool false) ∧ w = w' := by
  have g1 : ¬ (b : Int) < 32 := by omega
  have g2 : ¬ (126 : Int) < (b : Int) := by omega
  go_enter Tryz.func52, Tryz.ntmps52
  go_wp2
  go_ret
  exact ⟨rfl, rfl⟩
set_option maxRecDepth 100000 in
set_option maxHeartbeats 1000000 in
theorem ifbyte_ok (g cap : Nat) (l : List UInt8) (tl : List Value) (m : Nat × Nat) (w : World) (hl : l.length ≤ 100) (hg : w.heap[g]? = some (.cells (cb l ++ tl).toArray 5 m)) (hp : ∀ x ∈ l, prB x = true) :
    Calls Tryz.prog 96 #[.slice (some ⟨g, 0, none⟩) l.length cap, .func (.func 52) #[] #[]] w fun e w' => e = .returned (cN (-1)) ∧ w' = w := by
  have HG := Lib.hid hg
  have HP := Lib.hid hp
  clear hg hp
  go_enter Tryz.func96, Tryz.ntmps96
  go_wp2
  go_loopw [8, 5] (fun i _ wr => ∃ k : Nat, i = cN k ∧ k ≤ l.length ∧ wr = w) (fun i _ _ => l.length - (intOf i).toNat)
  case atStart => exact ⟨0, rfl, Nat.zero_le _, rfl⟩
  case round =>
    obtain ⟨k, rfl, hk, rfl⟩ := hrel
    by_cases hlt : (k : Int) < (l.length : Int)
    · have hkl : k < l.length := by omega
      have q0 := Lib.cell_of_heap HG.out k
      rw [List.getElem?_toArray, List.getElem?_append_left (by rw [cb_length]; exact hkl), cb_get l k hkl] at q0
      obtain ⟨b, hb⟩ : ∃ b, (l.getD k 0).toNat = b := ⟨_, rfl⟩
      have hpb : 32 ≤ b ∧ b ≤ 126 := by
        have := HP.out (l.getD k 0) (by rw [List.getD_eq_getElem?_getD, List.getElem?_eq_getElem hkl, Option.getD_some]; exact List.getElem_mem hkl)
        rw [← hb]
        simpa [prB] using this
      rw [hb] at q0
      have c1 := fun W => uprint1_ok b W hpb
      clear hb hpb
      go_wp2_with (go_at_call 52; (with_reducible refine (c1 _).mono ?_); rintro e w1 ⟨rfl, rfl⟩)
      go_roundw
      case rel => exact ⟨k + 1, by go_num, by omega, by trivial⟩
      case measure => simp [intOf]; omega
    · obtain rfl : k = l.length := by omega
      go_wp2
      go_ret
      exact ⟨rfl, by trivial⟩
set_option maxRecDepth 100000 in
set_option maxHeartbeats 400000 in
theorem cfbyte_ok (g cap : Nat) (l : List UInt8) (tl : List Value) (m : Nat × Nat) (w : World) (hl : l.length ≤ 100) (hg : w.heap[g]? = some (.cells (cb l ++ tl).toArray 5 m)) (hp : ∀ x ∈ l, prB x = true) :
    Calls Tryz.prog 51 #[.slice (some ⟨g, 0, none⟩) l.length cap, .func (.func 52) #[] #[]] w fun e w' => e = .returned (.bool false) ∧ w' = w := by
  have c1 := ifbyte_ok g cap l tl m w hl hg hp
  clear hg hp
  go_enter Tryz.func51, Tryz.ntmps51
  go_wp2_with (go_at_call 96; (with_reducible refine c1.mono ?_); rintro e w1 ⟨rfl, rfl⟩)
  go_ret
  exact ⟨rfl, by trivial⟩
def nameB : ByteArray := ⟨#[42, 85, 68, 70, 32, 83, 112, 97, 114, 105, 110, 103, 32, 84, 97, 98, 108, 101]⟩
set_option maxRecDepth 100000 in
set_option maxHeartbeats 400000 in
theorem uprint_ok (s : ByteArray) (w : World) (h1 : 1 ≤ s.size) (h2 : s.size ≤ 23) (hp : ∀ x ∈ s.data.toList, prB x = true) : Calls Tryz.prog 33 #[.string s] w fun e w' => e = .returned (.bool true) ∧ Below w.heap.size w w' := by
  obtain ⟨cap, tl, m, -, -, hcv⟩ := str_bytes (P := Tryz.prog) (src := 9) (dst := 103) (e := 5) Tryz.underlying9 Tryz.underlying103 Tryz.underlying5 s w
  have c1 := fun k => cfbyte_ok w.drew.heap.size cap s.data.toList tl (m, m + 1) (w.drew.alloc (.cells (cb s.data.toList ++ tl).toArray 5 (m, m + 1))) (by rw [list_size]; omega) (World.alloc_heap_new _ _) k
  have c2 := c1 hp
  rw [list_size, World.size_drew, show w.drew.alloc (.cells (cb s.data.toList ++ tl).toArray 5 (m, m + 1)) = (w.alloc (.cells (cb s.data.toList ++ tl).toArray 5 (m, m + 1))).drew from rfl] at c2
  have g1 : (1 : Int) ≤ (s.size : Int) := by omega
  have g2 : (s.size : Int) ≤ 23 := by omega
  clear h1 h2 hp c1
  go_enter Tryz.func33, Tryz.ntmps33
  go_wp2_with (go_at_call 51; (with_reducible refine c2.mono ?_); rintro e w1 ⟨rfl, rfl⟩)
  go_ret
  exact ⟨rfl, (bal (Below.refl _ w) _).drew⟩
set_option maxRecDepth 100000 in
set_option maxHeartbeats 400000 in
theorem entity1_ok (n : Nat) (w : World) (hn : n ≤ 2 ^ 20) : Calls Tryz.prog 34 #[cN (n : Int)] w fun e w' => e = .returned (.string (zerosB n)) ∧ Below w.heap.size w w' := by
  have c1 := fun W => rep0_ok n W (by omega)
  generalize zerosB n = z at c1 ⊢
  go_enter Tryz.func34, Tryz.ntmps34
  go_wp2_with (go_at_call 35; (with_reducible refine (c1 _).mono ?_); rintro e w1 ⟨rfl, hB1⟩)
  go_ret
  exact ⟨rfl, hB1⟩
set_option maxRecDepth 100000 in
set_option maxHeartbeats 1000000 in
theorem entity_ok (w : World) : Calls Tryz.prog 19 #[.string nameB, .string ⟨#[1, 2]⟩] w fun e w' => e = .returned (.tuple #[.string entB, cN 0]) ∧ Below w.heap.size w w' := by
  have c1 := fun W => uprint_ok nameB W (by decide) (by decide) (by decide)
  have c2 : ∀ W, Calls Tryz.prog 34 #[cN 5] W fun e w' => e = .returned (.string (zerosB 5)) ∧ Below W.heap.size W w' := fun W => entity1_ok 5 W (by decide)
  have c3 : ∀ W, Calls Tryz.prog 34 #[cN 6] W fun e w' => e = .returned (.string (zerosB 6)) ∧ Below W.heap.size W w' := fun W => entity1_ok 6 W (by decide)
  have e0 : entB = ⟨#[0]⟩ ++ nameB ++ zerosB 5 ++ ⟨#[1, 2]⟩ ++ zerosB 6 := rfl
  have hn : nameB.size = 18 := rfl
  rw [e0]
  generalize nameB = N at c1 hn ⊢
  have h5 := zerosB_size 5
  have h6 := zerosB_size 6
  generalize zerosB 5 = z5 at c2 h5 ⊢
  generalize zerosB 6 = z6 at c3 h6 ⊢
  have HB := Lib.hid (Below.refl w.heap.size w)
  clear e0
  go_enter Tryz.func19, Tryz.ntmps19
  go_wp2_with (first | (go_at_call 33; (with_reducible refine (c1 _).mono ?_); rintro e w1 ⟨rfl, hB1⟩; have HB := Lib.hid (bthen HB.out hB1); clear hB1) | (go_at_call 34; (first | (with_reducible refine (c2 _).mono ?_) | (with_reducible refine (c3 _).mono ?_)); rintro e w1 ⟨rfl, hB1⟩; have HB := Lib.hid (bthen HB.out hB1); clear hB1))
  go_ret2
  exact ⟨rfl, HB.out⟩
end Go.Proofs.YtocncjimepnlcaaGreatDoor
