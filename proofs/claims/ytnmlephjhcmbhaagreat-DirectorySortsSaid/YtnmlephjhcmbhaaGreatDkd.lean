/- strings.IndexAny at ".;": at every string. -/
import Derived.Test.YtnmlephjhcmbhaaGreatDkc
import Derived.Test.YtnmlephjhcmbhaaGreatShelf
import Derived.Laws.RangeAny
import Derived.Lib.QuoteLoop
import Derived.Lib.OthersKept
namespace Go.Proofs.YtnmlephjhcmbhaaGreat
set_option linter.unusedSimpArgs false
set_option linter.unusedVariables false
open Go Go.RowKit
theorem indexAny_ixD (l : List UInt8) : Lib.indexAny l [46, 59] = if ixD l < l.length then (ixD l : Int) else -1 := by
  induction l with
  | nil => rfl
  | cons b l ih =>
    have hc : ([46, 59] : List UInt8).contains b = (b == 46 || b == 59) := by
      simp only [List.contains, List.elem]
      cases (b == 46) <;> cases (b == 59) <;> rfl
    unfold ixD at *
    rw [Lib.indexAny, hc, List.findIdx_cons]
    cases hb : (b == 46 || b == 59)
    · rw [ih, List.length_cons]
      simp only [Bool.false_eq_true, ↓reduceIte, cond_false]
      obtain ⟨q, hq⟩ : ∃ q, List.findIdx (fun c : UInt8 => c == 46 || c == 59) l = q := ⟨_, rfl⟩
      rw [hq]
      by_cases h : q < l.length
      · rw [if_pos h, if_pos (show q + 1 < l.length + 1 by omega), if_neg (by simp; try omega)]
        omega
      · rw [if_neg h, if_neg (show ¬ q + 1 < l.length + 1 by omega)]
        decide
    · simp
theorem enc_high (r : Int) (h : 128 ≤ r) : ∃ k c, (Utf8.encode r).size = k + 2 ∧ k ≤ 2 ∧ (∀ hk : k + 1 < (Utf8.encode r).size, (Utf8.encode r)[k + 1]'hk = c) ∧ 128 ≤ c.toNat := by
  obtain ⟨n, hn⟩ : ∃ n, n = (if Utf8.valid r then r.toNat else Utf8.runeError) := ⟨_, rfl⟩
  have hn1 : 128 ≤ n := by
    rw [hn]
    split
    · omega
    · decide

  have e : Utf8.encode r = (if n < 0x80 then ⟨#[UInt8.ofNat n]⟩
    else if n < 0x800 then ⟨#[UInt8.ofNat (0xC0 + n / 64), UInt8.ofNat (0x80 + n % 64)]⟩
    else if n < 0x10000 then ⟨#[UInt8.ofNat (0xE0 + n / 4096), UInt8.ofNat (0x80 + n / 64 % 64), UInt8.ofNat (0x80 + n % 64)]⟩
    else ⟨#[UInt8.ofNat (0xF0 + n / 262144), UInt8.ofNat (0x80 + n / 4096 % 64), UInt8.ofNat (0x80 + n / 64 % 64), UInt8.ofNat (0x80 + n % 64)]⟩) := by rw [hn]; rfl
  have hc : 128 ≤ (UInt8.ofNat (0x80 + n % 64)).toNat := by simp [UInt8.toNat_ofNat']; omega
  rw [e, if_neg (by omega)]
  split
  · exact ⟨0, _, rfl, by omega, fun _ => rfl, hc⟩
  · split
    · exact ⟨1, _, rfl, by omega, fun _ => rfl, hc⟩
    · exact ⟨2, _, rfl, by omega, fun _ => rfl, hc⟩
theorem dec_cont (s : ByteArray) (i : Nat) : ∀ j, 1 ≤ j → j < (Utf8.decode s i).2 → i + j < s.size ∧ 128 ≤ (s.get! (i + j)).toNat := by
  intro j h1 h2
  have key : ∀ k, (decide (i + k < s.size) && (s.get! (i + k)).toNat / 64 == 2) = true → i + k < s.size ∧ 128 ≤ (s.get! (i + k)).toNat := fun k hk => by
    simp only [Bool.and_eq_true, decide_eq_true_eq, beq_iff_eq] at hk
    omega
  simp only [Utf8.decode] at h2
  split at h2
  · simp at h2; omega
  · split at h2
    · rename_i hc
      simp only [Bool.and_eq_true] at hc
      have hj : j = 1 := by split at h2 <;> simp at h2 <;> omega
      subst hj
      exact key 1 (by simpa using hc.2)
    · split at h2
      · rename_i hc
        simp only [Bool.and_eq_true] at hc
        have hj : j = 1 ∨ j = 2 := by split at h2 <;> simp at h2 <;> omega
        rcases hj with rfl | rfl
        · exact key 1 (by simpa using hc.1.2)
        · exact key 2 (by simpa using hc.2)
      · split at h2
        · rename_i hc
          simp only [Bool.and_eq_true] at hc
          have hj : j = 1 ∨ j = 2 ∨ j = 3 := by split at h2 <;> simp at h2 <;> omega
          rcases hj with rfl | rfl | rfl
          · exact key 1 (by simpa using hc.1.1.2)
          · exact key 2 (by simpa using hc.1.2)
          · exact key 3 (by simpa using hc.2)
        · simp at h2; omega
theorem dec_valid (s : ByteArray) (i : Nat) : Lib.validRune ((Utf8.decode s i).1 : Int) = true := by
  have h := Lib.decodeN_valid (s.size - i) (s.get! i).toNat (s.get! (i + 1)).toNat (s.get! (i + 2)).toNat (s.get! (i + 3)).toNat (UInt8.toNat_lt _)
  rw [← Lib.decode_at] at h
  simp only [Lib.validRune, decide_eq_true_eq]
  omega
set_option maxRecDepth 100000 in
set_option maxHeartbeats 1000000 in
theorem rune_error (w : World) : Calls Tryz.prog 85 #[.string ⟨#[46, 59]⟩, .int .i32 65533] w fun e w' => e = .returned (cN (-1)) ∧ Below w.heap.size w w' := by
  have n0 := fun ty => run_next_ascii (P := Tryz.prog) w ⟨#[46, 59]⟩ 0 ty (by decide) (by decide)
  have n1 := fun ty => run_next_ascii (P := Tryz.prog) w ⟨#[46, 59]⟩ 1 ty (by decide) (by decide)
  have n2 := fun ty => run_next_end (P := Tryz.prog) w ⟨#[46, 59]⟩ 2 ty (by decide)
  go_enter Tryz.func85, Tryz.ntmps85
  go_wp2
  go_loopg [5, 6] 2 (fun g _ _ wx => (g = 2 ∧ wx = w.iter ⟨#[46, 59]⟩ 0) ∨ (g = 1 ∧ wx = w.iter ⟨#[46, 59]⟩ 1) ∨ (g = 0 ∧ wx = w.iter ⟨#[46, 59]⟩ 2))
  case atStart => exact .inl ⟨rfl, rfl⟩
  case round =>
    rcases hrel with ⟨rfl, rfl⟩ | ⟨rfl, rfl⟩ | ⟨rfl, rfl⟩
    · go_wp2
      go_roundg 1
      case measure => omega
      case rel => exact .inr (.inl ⟨rfl, rfl⟩)
    · go_wp2
      go_roundg 0
      case measure => omega
      case rel => exact .inr (.inr ⟨rfl, rfl⟩)
    · go_wp2
      go_ret
      exact ⟨rfl, (Below.refl _ _).alloc (Nat.le_refl _) _⟩
set_option maxRecDepth 100000 in
set_option maxHeartbeats 1000000 in
theorem rune_other (r : Int) (w : World) (h : 128 ≤ r) (hv : Lib.validRune r = true) (hne : r ≠ 65533) : Calls Tryz.prog 85 #[.string ⟨#[46, 59]⟩, .int .i32 r] w fun e w' => e = .returned (cN (-1)) ∧ Below w.heap.size w w' := by
  obtain ⟨k, c, hk, hk2, hc, hc8⟩ := enc_high r h
  obtain ⟨rs, hrs⟩ : ∃ rs, Utf8.encode r = rs := ⟨_, rfl⟩
  rw [hrs] at hk hc
  have c1 := fun W => Tryz.utf8_ValidRune r W
  rw [hv] at c1
  have g1 : ¬ r < 128 := by omega
  have g2 : (r == 65533) = false := by simpa using hne
  have g0 : (0 : Int) ≤ r := by omega
  have s2 : (2 : Nat) ≤ rs.size := by omega
  clear hv hne h
  rcases Nat.eq_zero_or_pos k with h0 | h0
  · subst h0
    have hs : (rs.size : Int) = 2 := by omega
    have hx : rs[1]'(by omega) = c := hc (by omega)
    have hb : ((((⟨#[46, 59]⟩ : ByteArray)[1]'(by decide)).toNat : Int) != (c.toNat : Int)) = true := by
      have e : (((⟨#[46, 59]⟩ : ByteArray)[1]'(by decide)).toNat : Int) = 59 := by decide
      rw [e]; simp; omega
    have c2 : ∀ W, Calls Tryz.prog 110 #[.string ((⟨#[46, 59]⟩ : ByteArray).extract 2 2), .int .u8 c.toNat] W fun e w' => e = .returned (cN (-1)) ∧ w' = W := fun W => Tryz.strings_IndexByte _ _ W
    go_enter Tryz.func85, Tryz.ntmps85
    go_wp2_with (go_at_call 111; (with_reducible refine (c1 _).mono ?_); rintro e w1 ⟨rfl, rfl⟩)
    go_step3
    go_wp2
    go_loopg [9, 10, 11, 12] 1 (fun g i _ _ _ wx => g = 1 ∧ i = cN 1 ∧ wx = w1)
    case atStart => exact ⟨rfl, by go_num, rfl⟩
    case round =>
      obtain ⟨rfl, rfl, rfl⟩ := hrel
      go_wp2
      go_step3
      go_wp2
      refine region_sch (fun w' => w' = wr.drew) [(true, 0), (true, 1), (true, 2), (true, 3), (true, 4), (true, 5)] [6] (by kernel_rfl) (by kernel_rfl) (by rintro ⟨_, _, h, _⟩; cases h) (fun _ _ d _ _ h => by cases d <;> exact h) rfl ?_
      simp only [pickM, pickT, List.filterMap_cons, List.filterMap_nil, List.getElem?_cons_zero, List.getElem?_cons_succ, Option.map_some]
      repeat (refine m_float ⟨?_, .inl ⟨?_, .inl ?_⟩, fun K' hK => ?_⟩; rotate_left; (first | rfl | (go_simp; done)); (intro w' hS; subst hS; go_simp; try rfl); (simp only [Act.put, List.setIfInBounds_toArray, List.set_cons_succ, List.set_cons_zero]; refine hK _ ?_; clear hK K'))
      refine m_nil ?_
      show wpList Tryz.prog _ _ (List.cons _ _) _ _
      go_wp2
      generalize hwd : wr.drew = wd
      refine region_sch (fun w' => w' = wd.drew) [(true, 0), (true, 1), (true, 2), (true, 3), (true, 4), (true, 5), (true, 6)] [7, 8] (by kernel_rfl) (by kernel_rfl) (by rintro ⟨_, _, h, _⟩; cases h) (fun _ _ d _ _ h => by cases d <;> exact h) rfl ?_
      simp only [pickM, pickT, List.filterMap_cons, List.filterMap_nil, List.getElem?_cons_zero, List.getElem?_cons_succ, Option.map_some]
      repeat (refine m_float ⟨?_, .inl ⟨?_, .inl ?_⟩, fun K' hK => ?_⟩; rotate_left; (first | rfl | (go_simp; done)); (intro w' hS; subst hS; go_simp; try rfl); (simp only [Act.put, List.setIfInBounds_toArray, List.set_cons_succ, List.set_cons_zero]; refine hK _ ?_; clear hK K'))
      refine m_nil ?_
      show wpList Tryz.prog _ _ (List.cons _ _) _ _
      go_wp2_with (go_at_call 110; (with_reducible refine (c2 _).mono ?_); rintro e w1 ⟨rfl, rfl⟩)
      rw [Exit.noGoto_ret]
      simp only [Exit.inBlock, Exit.then]
      rw [Exit.noGoto_ret]
      go_ret
      subst hwd
      exact ⟨rfl, (Below.refl _ _).drew.drew⟩
  · have hs : (2 : Int) < (rs.size : Int) := by omega
    go_enter Tryz.func85, Tryz.ntmps85
    go_wp2_with (go_at_call 111; (with_reducible refine (c1 _).mono ?_); rintro e w1 ⟨rfl, rfl⟩)
    have g3 : ¬ ((k : Int) + 2 - 1 < 2) := by omega
    go_step3
    go_wp2
    go_loopg [9, 10, 11, 12] 1 (fun g i _ _ _ wx => g = 1 ∧ i = .int .i64 ((k : Int) + 2 - 1) ∧ wx = w1)
    case atStart => exact ⟨rfl, by go_num, rfl⟩
    case round =>
      obtain ⟨rfl, rfl, rfl⟩ := hrel
      go_wp2
      rw [Exit.noGoto_ret]
      go_ret
      exact ⟨rfl, Below.refl _ _⟩
theorem rune_high (s : ByteArray) (i : Nat) (hi : i < s.size) (h : 128 ≤ (s[i]'hi).toNat) (W : World) : Calls Tryz.prog 85 #[.string ⟨#[46, 59]⟩, .int .i32 (Utf8.decode s i).1] W fun e w' => e = .returned (cN (-1)) ∧ Below W.heap.size W w' := by
  have h1 := (decode_high s i hi h).1
  by_cases he : ((Utf8.decode s i).1 : Int) = 65533
  · rw [he]; exact rune_error W
  · exact rune_other _ W (by omega) (dec_valid s i) he
theorem below_iterAt {B : Nat} {a w : World} (h : Below B a w) {k : Nat} (hk : B ≤ k) (s : ByteArray) (p : Nat) : Below B a (w.iterAt k s p) :=
  h.trans ⟨rfl, rfl, rfl, by simp [World.iterAt], fun j hj => by simp only [World.iterAt]; rw [Array.getElem?_setIfInBounds, if_neg (by omega)]⟩
def idxI (l : List UInt8) : Int := if ixD l < l.length then (ixD l : Int) else -1
set_option maxRecDepth 100000 in
set_option maxHeartbeats 2000000 in
theorem idx_short (s : ByteArray) (w : World) (h8 : s.size ≤ 8) : Calls Tryz.prog 61 #[.string s, .string ⟨#[46, 59]⟩] w fun e w' => e = .returned (cN (idxI s.data.toList)) ∧ Below w.heap.size w w' := by
  have h8z : decide ((8 : Int) < (s.size : Int)) = false := decide_eq_false (by omega)
  have c1 := fun W => Tryz.strings_shouldUseASCIISet (s.size : Int) W
  rw [h8z] at c1
  go_enter Tryz.func61, Tryz.ntmps61
  go_wp2_with (go_at_call 86; (with_reducible refine (c1 _).mono ?_); rintro e w1 ⟨rfl, rfl⟩)
  go_loopg [9, 10] s.size (fun g _ _ wx => ∃ i : Nat, s.size ≤ i + g ∧ wx.heap[w1.heap.size]? = some (.stringIter s i) ∧ Below w1.heap.size w1 wx ∧ Lib.NoAny s.data.toList [46, 59] i)
  case atStart => exact ⟨0, by omega, World.alloc_heap_new _ _, (Below.refl _ _).alloc (Nat.le_refl _) _, Lib.NoAny.zero _ _⟩
  case round =>
    obtain ⟨i, hig, hit, hB, hno⟩ := hrel
    have HN := Lib.hid hno
    clear hno
    have hlt := lt_of_block hit
    by_cases hi : i < s.size
    · obtain ⟨g, rfl⟩ : ∃ g, gk = g + 1 := ⟨gk - 1, by omega⟩
      obtain ⟨x, hx⟩ : ∃ x : UInt8, s[i]'hi = x := ⟨_, rfl⟩
      have hxl : s.data.toList[i]? = some x := by rw [← hx]; exact Lib.data_getElem? s i hi
      have HX := Lib.hid hxl
      have hB2 : ∀ p, Below w1.heap.size w1 (wr.iterAt w1.heap.size s p) := fun p => below_iterAt hB (Nat.le_refl _) s p
      have hI2 : ∀ p, (wr.iterAt w1.heap.size s p).heap[w1.heap.size]? = some (.stringIter s p) := fun p => Lib.iterAt_heap wr _ s i p hit
      have HB2 := Lib.hid hB2
      have HI2 := Lib.hid hI2
      by_cases hx128 : x.toNat < 128
      · have hnx := fun ty => Lib.run_next_ascii_at (P := Tryz.prog) wr w1.heap.size s i ty hit hi (by rw [hx]; exact hx128)
        rw [hx] at hnx
        have hcon := Lib.contains_iff_indexByte [46, 59] x
        have hback : ((x.toNat : Int)).toNat.toUInt8 = x := by simp
        have c2 : ∀ W, Calls Tryz.prog 85 #[.string ⟨#[46, 59]⟩, .int .i32 x.toNat] W fun e w' => e = .returned (cN (Lib.indexByte [46, 59] x)) ∧ w' = W := fun W => by
          have := Tryz.strings_IndexRune_ascii ⟨#[46, 59]⟩ (x.toNat : Int) W (by omega) (by omega)
          rw [hback] at this
          exact this
        obtain ⟨q, hq⟩ : ∃ q, Lib.indexByte [46, 59] x = q := ⟨_, rfl⟩
        rw [hq] at hcon c2
        clear hxl hx hB2 hI2 hit hq hback
        cases hin : ([46, 59] : List UInt8).contains x
        · rw [hin] at hcon
          have HIN := Lib.hid hin
          have hqn : ¬ ((0 : Int) ≤ q) := of_decide_eq_false hcon.symm
          clear hcon hin
          go_wp2_with (go_at_call 85; (with_reducible refine (c2 _).mono ?_); rintro e w3 ⟨rfl, rfl⟩)
          go_roundg g
          case measure => omega
          case rel => exact ⟨i + 1, by omega, HI2.out _, HB2.out _, HN.out.succ HX.out HIN.out⟩
        · rw [hin] at hcon
          have HIN := Lib.hid hin
          have hqn : (0 : Int) ≤ q := of_decide_eq_true hcon.symm
          clear hcon hin
          go_wp2_with (go_at_call 85; (with_reducible refine (c2 _).mono ?_); rintro e w3 ⟨rfl, rfl⟩)
          go_ret
          refine ⟨ret_int ?_, HB2.out _⟩
          have e := Lib.indexAny_hit HN.out HX.out HIN.out
          rw [indexAny_ixD] at e
          exact e.symm
      · have hnx := fun ty => Lib.run_next_any_at (P := Tryz.prog) wr w1.heap.size s i ty hit hi
        have c2 := rune_high s i hi (by rw [hx]; omega)
        have hw := (decode_high s i hi (by rw [hx]; omega)).2
        have hdc := dec_cont s i
        obtain ⟨r, n, hrn⟩ : ∃ r n, Utf8.decode s i = (r, n) := ⟨_, _, rfl⟩
        rw [hrn] at hnx c2 hw hdc
        simp only at hnx c2 hw hdc
        have HDC := Lib.hid hdc
        have hno2 : Lib.NoAny s.data.toList [46, 59] (i + n) := fun j b hj hb => by
          rcases Nat.lt_or_ge j i with h | h
          · exact HN.out j b h hb
          · have hb8 : 128 ≤ b.toNat := by
              by_cases e : j = i
              · subst e; rw [HX.out] at hb; cases hb; omega
              · obtain ⟨h1, h2⟩ := HDC.out (j - i) (by omega) (by omega)
                rw [show i + (j - i) = j by omega] at h1 h2
                have e2 := Lib.data_getElem? s j h1
                rw [hb] at e2
                have e3 : s.get! j = s[j]'h1 := get_at s j h1
                rw [e3] at h2
                cases e2
                exact h2
            have : b ≠ 46 ∧ b ≠ 59 := by
              constructor <;> (rintro rfl; simp at hb8)
            simp only [List.contains, List.elem]
            rw [beq_eq_false_iff_ne.2 this.1, beq_eq_false_iff_ne.2 this.2]
        have HN2 := Lib.hid hno2
        have hi2 := hI2 (i + n)
        have hb2 := hB2 (i + n)
        have HRN := Lib.hid hrn
        clear hxl hx hB2 hI2 hit hdc hno2 hrn
        generalize hwx : wr.iterAt w1.heap.size s (i + n) = wx at hnx hi2 hb2
        go_wp2_with (go_at_call 85; (with_reducible refine (c2 _).mono ?_); rintro e w3 ⟨rfl, hB3⟩)
        go_roundg g
        case measure => omega
        case rel => exact ⟨i + n, by omega, (hB3.block _ (lt_of_block hi2)).trans hi2, hb2.trans (hB3.mono hb2.size), HN2.out⟩
    · have hnx := fun ty => Lib.run_next_end_at (P := Tryz.prog) wr w1.heap.size s i ty hit hi
      go_wp2
      go_ret
      refine ⟨ret_int ?_, hB⟩
      have e := Lib.indexAny_none (s := s.data.toList) (chars := [46, 59]) (fun j b hj hb => HN.out j b (by rw [list_size] at hj; omega) hb)
      rw [indexAny_ixD] at e
      exact e.symm
theorem idx_ok (s : ByteArray) (w : World) (hs : s.size < 4294967281) : Calls Tryz.prog 61 #[.string s, .string ⟨#[46, 59]⟩] w fun e w' => e = .returned (cN (idxI s.data.toList)) ∧ Below w.heap.size w w' := by
  by_cases h8 : s.size ≤ 8
  · exact idx_short s w h8
  · refine (Tryz.strings_IndexAny_long (zero_of_info (P := Tryz.prog) (n := 256) (by kernel_rfl)).1 s ⟨#[46, 59]⟩ w (by decide) (by omega) hs (by decide) ?_).mono ?_
    · intro j b hj
      have : b = 46 ∨ b = 59 := by
        match j, hj with
        | 0, hj => left; simpa using hj.symm
        | 1, hj => right; simpa using hj.symm
        | n + 2, hj => simp at hj
      rcases this with rfl | rfl <;> decide
    · rintro e w' ⟨rfl, rfl⟩
      refine ⟨ret_int ?_, ((Below.refl _ _).alloc (Nat.le_refl _) _).alloc (by simp) _⟩
      exact indexAny_ixD _
end Go.Proofs.YtnmlephjhcmbhaaGreat
