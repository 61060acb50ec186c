/- directory.behind: bytes compared, the shorter string with bytes behind it. -/
import Derived.Test.YtnmlephjhcmbhaaGreatDka
import Derived.Test.YtnmlephjhcmbhaaGreatMf
import Derived.Test.YtnmlephjhcmbhaaGreatMb
namespace Go.Proofs.YtnmlephjhcmbhaaGreat
set_option linter.unusedSimpArgs false
set_option linter.unusedVariables false
open Go Go.RowKit
theorem bald {w W : World} (h : Below w.heap.size w W) (o : Obj) : Below w.heap.size w (W.alloc o) := bthen h ((Below.refl _ _).alloc (Nat.le_refl _) _)
def bL (l : List UInt8) : ByteArray := ⟨l.toArray⟩
theorem bL_list (l : List UInt8) : (bL l).data.toList = l := by simp [bL]
theorem bL_of (s : ByteArray) : bL s.data.toList = s := by simp [bL]
theorem bL_size (l : List UInt8) : (bL l).size = l.length := by simp [bL, ByteArray.size]
set_option maxRecDepth 100000 in
set_option maxHeartbeats 400000 in
theorem isnb_ok (x : Int) (w : World) : Calls Tryz.prog 84 #[.int .u8 x] w fun e w' => e = .returned (.bool false) ∧ w = w' := by
  go_enter Tryz.func84, Tryz.ntmps84
  go_wp2
  go_ret
  exact ⟨by simp, rfl⟩
set_option maxRecDepth 100000 in
set_option maxHeartbeats 400000 in
theorem cmpb_ok (x y : UInt8) (w : World) : Calls Tryz.prog 60 #[.int .u8 x.toNat, .int .u8 y.toNat] w fun e w' => e = .returned (.int .i64 (cmpB x y)) ∧ w = w' := by
  unfold cmpB
  by_cases h1 : x.toNat < y.toNat
  · rw [if_pos h1]
    have g1 : (x.toNat : Int) < y.toNat := by omega
    go_enter Tryz.func60, Tryz.ntmps60
    go_wp2_with (go_at_call 84; (with_reducible refine (isnb_ok _ _).mono ?_); rintro e w1 ⟨rfl, rfl⟩)
    go_ret
    exact ⟨rfl, rfl⟩
  · rw [if_neg h1]
    have g1 : ¬ (x.toNat : Int) < y.toNat := by omega
    by_cases h2 : y.toNat < x.toNat
    · rw [if_pos h2]
      have g2 : (y.toNat : Int) < x.toNat := by omega
      go_enter Tryz.func60, Tryz.ntmps60
      go_wp2_with (go_at_call 84; (with_reducible refine (isnb_ok _ _).mono ?_); rintro e w1 ⟨rfl, rfl⟩)
      go_ret
      exact ⟨rfl, rfl⟩
    · rw [if_neg h2]
      have g2 : ¬ (y.toNat : Int) < x.toNat := by omega
      go_enter Tryz.func60, Tryz.ntmps60
      go_wp2_with (go_at_call 84; (with_reducible refine (isnb_ok _ _).mono ?_); rintro e w1 ⟨rfl, rfl⟩)
      go_ret
      exact ⟨rfl, rfl⟩
set_option maxRecDepth 100000 in
set_option maxHeartbeats 400000 in
theorem at_ok (s : ByteArray) (k : Nat) (f : UInt8) (F : Nat) (w : World) (hF : w.heap[F]? = some (.cells #[.int .u8 f.toNat] 5 (0, 0))) :
    Calls Tryz.prog 59 #[.string s, .int .i64 k, .pointer (some ⟨F, 0, none⟩)] w fun e w' => e = .returned (.int .u8 ((s.data.toList.getD k f).toNat : Int)) ∧ w = w' := by
  by_cases h : k < s.size
  · have h' : k < s.data.toList.length := by rw [list_size]; exact h
    have e0 : s.data.toList.getD k f = s[k]'h := by
      rw [List.getD_eq_getElem?_getD, List.getElem?_eq_getElem h', Option.getD_some]; rfl
    rw [e0]
    have g1 : (k : Int) < s.size := by omega
    clear hF e0
    go_enter Tryz.func59, Tryz.ntmps59
    go_wp2
    go_ret
    exact ⟨rfl, rfl⟩
  · have h' : ¬ k < s.data.toList.length := by rw [list_size]; exact h
    have e0 : s.data.toList.getD k f = f := by
      rw [List.getD_eq_getElem?_getD, List.getElem?_eq_none (by omega), Option.getD_none]
    rw [e0]
    have g1 : ¬ (k : Int) < s.size := by omega
    have p0 := Lib.cell_of_heap hF 0
    clear hF e0
    go_enter Tryz.func59, Tryz.ntmps59
    go_wp2
    go_ret
    exact ⟨rfl, rfl⟩
set_option maxRecDepth 100000 in
set_option maxHeartbeats 1000000 in
theorem beh_ok (a b : ByteArray) (f : UInt8) (w : World) (ha : a.size < 2 ^ 62) (hb : b.size < 2 ^ 62) :
    Calls Tryz.prog 34 #[.string a, .string b, .int .u8 f.toNat] w fun e w' => e = .returned (.int .i64 (behM f a.data.toList b.data.toList)) ∧ Below w.heap.size w w' := by
  obtain ⟨la, hla⟩ : ∃ l, l = a.data.toList := ⟨_, rfl⟩
  obtain ⟨lb, hlb⟩ : ∃ l, l = b.data.toList := ⟨_, rfl⟩
  have sa : la.length = a.size := by rw [hla, list_size]
  have sb : lb.length = b.size := by rw [hlb, list_size]
  have hm0 : (0 : Int) ≤ max (a.size : Int) b.size := by omega
  have HA := Lib.hid hla
  have HB := Lib.hid hlb
  have SA := Lib.hid sa
  have SB := Lib.hid sb
  rw [← hla, ← hlb]
  clear hla hlb sa sb
  go_enter Tryz.func34, Tryz.ntmps34
  go_wp2
  go_loopw [16, 8, 9] (fun i _ _ wr => ∃ k : Nat, i = cN k ∧ (k : Int) ≤ max (a.size : Int) b.size ∧ behM f (la.drop k) (lb.drop k) = behM f la lb ∧ wr.heap[w.heap.size]? = some (.cells #[.int .u8 f.toNat] 5 (0, 0)) ∧ Below w.heap.size w wr) (fun i _ _ _ => (max (a.size : Int) b.size).toNat - (intOf i).toNat)
  case atStart => exact ⟨0, rfl, by omega, rfl, World.alloc_heap_new w _, bald (Below.refl _ w) _⟩
  case round =>
    obtain ⟨k, rfl, hk, hE, hF, hBl⟩ := hrel
    have HE := Lib.hid hE
    clear hE
    have hlt2 := lt_of_block hF
    by_cases hlt : (k : Int) < max (a.size : Int) b.size
    · have hs := behM_step f la lb k (by have := SA.out; have := SB.out; omega)
      obtain ⟨x, hx⟩ : ∃ x, la.getD k f = x := ⟨_, rfl⟩
      obtain ⟨y, hy⟩ : ∃ y, lb.getD k f = y := ⟨_, rfl⟩
      have c1 : ∀ W : World, W.heap[w.heap.size]? = some (.cells #[.int .u8 f.toNat] 5 (0, 0)) → Calls Tryz.prog 59 #[.string a, .int .i64 k, .pointer (some ⟨w.heap.size, 0, none⟩)] W fun e w' => e = .returned (.int .u8 (x.toNat : Int)) ∧ W = w' := fun W h => by
        rw [← hx, HA.out]; exact at_ok a k f _ W h
      have c2 : ∀ W : World, W.heap[w.heap.size]? = some (.cells #[.int .u8 f.toNat] 5 (0, 0)) → Calls Tryz.prog 59 #[.string b, .int .i64 k, .pointer (some ⟨w.heap.size, 0, none⟩)] W fun e w' => e = .returned (.int .u8 (y.toNat : Int)) ∧ W = w' := fun W h => by
        rw [← hy, HB.out]; exact at_ok b k f _ W h
      rw [hx, hy] at hs
      have HS := Lib.hid hs
      clear hs hx hy
      have c3 := cmpb_ok x y
      by_cases h0 : cmpB x y = 0
      · rw [h0] at c3
        have H0 := Lib.hid h0
        clear h0
        go_wp2_with fail
        with_reducible refine (c1 _ hF).mono ?_
        rintro e w1 ⟨rfl, rfl⟩
        go_wp2_with fail
        with_reducible refine (c2 _ hF).mono ?_
        rintro e w1 ⟨rfl, rfl⟩
        go_wp2_with (go_at_call 60; (with_reducible refine (c3 _).mono ?_); rintro e w1 ⟨rfl, rfl⟩)
        go_roundw
        case rel => exact ⟨k + 1, by go_num, by omega, by rw [← HE.out, HS.out, if_pos H0.out], hF, hBl⟩
        case measure => simp [intOf]; omega
      · have g1 : (cmpB x y != 0) = true := by simpa using h0
        obtain ⟨c, hc⟩ : ∃ c, cmpB x y = c := ⟨_, rfl⟩
        rw [hc] at c3 g1
        have H0 := Lib.hid h0
        have HC := Lib.hid hc
        clear h0 hc
        go_wp2_with fail
        with_reducible refine (c1 _ hF).mono ?_
        rintro e w1 ⟨rfl, rfl⟩
        go_wp2_with fail
        with_reducible refine (c2 _ hF).mono ?_
        rintro e w1 ⟨rfl, rfl⟩
        go_wp2_with (go_at_call 60; (with_reducible refine (c3 _).mono ?_); rintro e w1 ⟨rfl, rfl⟩)
        go_ret
        exact ⟨ret_int (by rw [← HE.out, HS.out, if_neg H0.out, HC.out]), hBl⟩
    · have he := behM_end f la lb k (by have := SA.out; omega) (by have := SB.out; omega)
      have H0 := Lib.hid he
      clear he
      go_wp2
      go_ret
      exact ⟨ret_int (by rw [← HE.out, H0.out]), hBl⟩
end Go.Proofs.YtnmlephjhcmbhaaGreat
