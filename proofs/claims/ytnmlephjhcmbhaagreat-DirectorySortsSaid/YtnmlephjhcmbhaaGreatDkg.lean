/- directory.places, Offsets, Blocks. -/
import Derived.Test.YtnmlephjhcmbhaaGreatDkb
import Derived.Test.YtnmlephjhcmbhaaGreatDkc
import Derived.Test.YtnmlephjhcmbhaaGreatMi
namespace Go.Proofs.YtnmlephjhcmbhaaGreat
set_option linter.unusedSimpArgs false
set_option linter.unusedVariables false
open Go Go.RowKit
/-- A slice of numbers that can be read. -/
def RowI (W : World) (a : Option Addr) (l : List Int) : Prop := ∀ k, k < l.length → ∃ b off, a = some ⟨b, off, none⟩ ∧ b < W.heap.size ∧ W.cell? ⟨b, off + k, none⟩ = some (cN (l.getD k 0))
theorem RowI.below {W W' : World} {a : Option Addr} {l : List Int} (h : RowI W a l) (k : Below W.heap.size W W') : RowI W' a l := fun i hi => by
  obtain ⟨b, off, rfl, hb, hc⟩ := h i hi
  exact ⟨b, off, rfl, Nat.lt_of_lt_of_le hb k.size, (k.cell (p := ⟨b, off + i, none⟩) hb).trans hc⟩
theorem okL_snoc (l : List Int) (k : Nat) (h : k < l.length) : okL (l.take (k + 1)) = (okL (l.take k) && okS (l.getD k 0)) := by
  unfold okL
  rw [List.take_succ_eq_append_getElem h, List.all_append, List.all_cons, List.all_nil, Bool.and_true, List.getD_eq_getElem?_getD, List.getElem?_eq_getElem h, Option.getD_some]
theorem natS_snoc (l : List Int) (k : Nat) (h : k < l.length) : natS (l.take (k + 1)) = natS (l.take k) ++ [(l.getD k 0).toNat] := by
  unfold natS
  rw [List.take_succ_eq_append_getElem h, List.map_append, List.map_cons, List.map_nil, List.getD_eq_getElem?_getD, List.getElem?_eq_getElem h, Option.getD_some]
theorem okL_false (l : List Int) (k : Nat) (h : k < l.length) (hf : okS (l.getD k 0) = false) : okL l = false := by
  rw [← Bool.not_eq_true]
  intro ht
  have hm : l.getD k 0 ∈ l := by
    rw [List.getD_eq_getElem?_getD, List.getElem?_eq_getElem h, Option.getD_some]
    exact List.getElem_mem h
  rw [List.all_eq_true.1 ht _ hm] at hf
  cases hf
theorem num_eq {a b : Int} (h : a = b) : Value.int .i64 a = cN b := by rw [h]
/-- What places has found behind k sizes. -/
def PlS (w : World) (l : List Int) (k : Nat) (v : Value) (A : Nat) (W : World) : Prop :=
  okL (l.take k) = true ∧ A = plcE 0 (natS (l.take k)) ∧ IL w (plcs 0 (natS (l.take k))) v W
theorem PlS.le {w : World} {l : List Int} {k : Nat} {v : Value} {A : Nat} {W : World} (h : PlS w l k v A W) (hk : k ≤ l.length) : A ≤ 2302 * k := by
  have := plcE_le (natS (l.take k)) 0 (natS_le _ h.1)
  rw [← h.2.1] at this
  have e : (natS (l.take k)).length = k := by simp [natS]; omega
  rw [e] at this
  omega
theorem PlS.snoc {w : World} {l : List Int} {k : Nat} {v v' : Value} {A n : Nat} {W W' : World} (h : PlS w l k v A W) (hk : k < l.length) (hx : l.getD k 0 = (n : Int)) (ho : okS n = true)
    (hown : W'.ownsRow w.heap.size 3 1 v' (k + 1) (ints (plcs 0 (natS (l.take k))) ++ [cN ((plc A n : Nat) : Int)])) (hB : Below w.heap.size w W') : PlS w l (k + 1) v' (plc A n + n) W' := by
  obtain ⟨h1, h2, -⟩ := h
  have e : (natS (l.take k)).length = k := by simp [natS]; omega
  refine ⟨by rw [okL_snoc l k hk, h1, hx, ho]; rfl, ?_, ?_, hB⟩
  · rw [natS_snoc l k hk, plcE_snoc, ← h2, hx]; rfl
  · rw [natS_snoc l k hk, plcs_snoc, ← h2, hx, ints_snoc, List.length_append, plcs_len, e]
    exact hown
def PlEnd (w : World) (l : List Int) (e : Ending) (w' : World) : Prop := ∃ v, e = .returned (.tuple #[v, cN (endM l : Nat), .bool (okL l)]) ∧ IL w (offM l) v w'
theorem PlEnd.bad {w w' : World} {l : List Int} (h : okL l = false) (hB : Below w.heap.size w w') : PlEnd w l (.returned (.tuple #[.slice none 0 0, cN 0, .bool false])) w' := by
  refine ⟨.slice none 0 0, ?_, ?_⟩
  · rw [endM, h]; rfl
  · rw [offM, h]; exact ⟨⟨rfl, .inl ⟨rfl, rfl⟩⟩, hB⟩
theorem PlEnd.good {w w' : World} {l : List Int} {v : Value} {A : Nat} (h : PlS w l l.length v A w') : PlEnd w l (.returned (.tuple #[v, cN (A : Int), .bool true])) w' := by
  obtain ⟨h1, h2, h3⟩ := h
  rw [List.take_length] at h1 h2 h3
  refine ⟨v, ?_, ?_⟩
  · rw [endM, h1, h2]; rfl
  · rw [offM, h1]; exact h3
set_option maxRecDepth 100000 in
set_option maxHeartbeats 2000000 in
theorem places_ok (a : Option Addr) (c : Nat) (l : List Int) (w : World) (hl : l.length ≤ 2000) (hrow : RowI w a l) :
    Calls Tryz.prog 47 #[.slice a l.length c] w (PlEnd w l) := by
  obtain ⟨i0, hi, hz0, hz1, hz2⟩ := info_parts i64Info
  have HR := Lib.hid hrow
  clear hrow
  go_enter Tryz.func47, Tryz.ntmps47
  go_wp2
  go_loopw [12, 5, 6, 8, 9] (fun i v q _ _ wr => ∃ k A : Nat, i = cN k ∧ k ≤ l.length ∧ q = cN (A : Int) ∧ PlS w l k v A wr) (fun i _ _ _ _ _ => l.length - (intOf i).toNat)
  case atStart => exact ⟨0, 0, rfl, Nat.zero_le _, rfl, rfl, rfl, ⟨⟨rfl, .inl ⟨rfl, rfl⟩⟩, Below.refl _ _⟩⟩
  case round =>
    obtain ⟨k, A, rfl, hk, rfl, hS⟩ := hrel
    have hA := hS.le hk
    have HS := Lib.hid hS
    have hown0 := hS.2.2.1
    have hB := hS.2.2.2
    have hlen : (plcs 0 (natS (l.take k))).length = k := by rw [plcs_len]; simp [natS]; omega
    rw [hlen] at hown0
    clear hS hlen
    obtain ⟨xs, hxs⟩ : ∃ xs, xs = ints (plcs 0 (natS (l.take k))) := ⟨_, rfl⟩
    rw [← hxs] at hown0
    have hown := hown0
    clear hown0
    by_cases hlt : (k : Int) < (l.length : Int)
    · have hkl : k < l.length := by omega
      obtain ⟨b, off, rfl, hb, hc⟩ := HR.out k hkl
      have hc' := (hB.cell (p := ⟨b, off + k, none⟩) hb).trans hc
      obtain ⟨x, hx⟩ : ∃ x, l.getD k 0 = x := ⟨_, rfl⟩
      rw [hx] at hc'
      have HX0 := Lib.hid hx
      clear hc hx
      by_cases h34 : x < 34
      · have hbad : okL l = false := okL_false l k hkl (by rw [HX0.out]; unfold okS; exact decide_eq_false (by omega))
        have HBAD := Lib.hid hbad
        clear hbad hown
        go_wp2
        go_ret3
        exact PlEnd.bad HBAD.out hB
      · by_cases h254 : 254 < x
        · have hbad : okL l = false := okL_false l k hkl (by rw [HX0.out]; unfold okS; exact decide_eq_false (by omega))
          have HBAD := Lib.hid hbad
          clear hbad hown
          go_wp2
          go_ret3
          exact PlEnd.bad HBAD.out hB
        · obtain ⟨n, rfl⟩ : ∃ n : Nat, x = n := ⟨x.toNat, by omega⟩
          have g0 : (0 : Int) ≤ (n : Int) := by omega
          by_cases hpar : n % 2 = 0
          · have hok : okS (n : Int) = true := by unfold okS; exact decide_eq_true (by omega)
            have ht : Int.tmod (n : Int) 2 = 0 := by rw [Int.tmod_eq_emod_of_nonneg (by omega)]; omega
            obtain ⟨m, hm⟩ : ∃ m : Nat, A % 2048 = m := ⟨_, rfl⟩
            have hm2 : Int.tmod (A : Int) 2048 = (m : Int) := by rw [Int.tmod_eq_emod_of_nonneg (by omega)]; omega
            have hm3 : m < 2048 := by omega
            have hA0 : (0 : Int) ≤ (A : Int) := by omega
            have HX := Lib.hid (show l.getD k 0 = (n : Int) from HX0.out)
            have HO := Lib.hid hok
            have HXS := Lib.hid hxs
            by_cases hroom : 2048 - m < n
            · have hp : plc A n = A + (2048 - m) := by rw [plc, hm, if_pos hroom]
              have g1 : (2048 : Int) - m < n := by omega
              have HP : Hid (((plc A n : Nat) : Int) = (A : Int) + (2048 - (m : Int))) := Lib.hid (by rw [hp]; omega)
              clear hm hok hxs hp hpar hroom
              go_wp2_with (at_builtin; refine wpList_append_own _ rfl _ _ 33 rfl w.heap.size 3 i0 (.int .i64 0) 1 8 Tryz.underlying33 hi hz0 hz1 hz2 rfl (by decide) _ _ _ rfl (own_keep hown ((Below.refl _ wr).alloc (Nat.le_refl _) _)) ⟨wr.heap.size, 0, none⟩ 1 1 [cN ((A : Int) + (2048 - (m : Int)))] rfl rfl ?c1a ?c2a ?c3a ?c4a ?c5a ?_)
              try case c1a => intro j u h; exact cell_one_new _ _ _ j u h
              case c2a => first | rfl | (intro u h; rw [List.mem_singleton.1 h]; rfl)
              case c3a => unfold maxLen; omega
              case c4a => omega
              case c5a => have := hB.size; first | omega | (simp; omega)
              intro v' w1 hown1 hgrow hnn
              have hB1 : Below w.heap.size w w1 := (hB.alloc hB.size _).grown hgrow (by simp; have := hB.size; omega) (fun k e => (hown.lt k e).1)
              have H2 := Lib.hid (HS.out.snoc (v' := v') (W' := w1) hkl HX.out HO.out (by rw [HP.out, ← HXS.out]; exact hown1) hB1)
              clear hown1 hgrow hnn hB1 hown hB
              go_wp2
              go_roundw
              case rel => exact ⟨k + 1, plc A n + n, by go_num, by omega, num_eq (by have := HP.out; omega), H2.out⟩
              case measure => simp [intOf]; omega
            · have hp : plc A n = A := by rw [plc, hm, if_neg hroom]
              have g1 : ¬ (2048 : Int) - m < n := by omega
              have g1' : (n : Int) ≤ 2048 - m := by omega
              have g1'' : (m : Int) + n ≤ 2048 := by omega
              have HP : Hid (((plc A n : Nat) : Int) = (A : Int)) := Lib.hid (by rw [hp])
              clear hm hok hxs hp hpar hroom
              go_wp2_with (at_builtin; refine wpList_append_own _ rfl _ _ 33 rfl w.heap.size 3 i0 (.int .i64 0) 1 8 Tryz.underlying33 hi hz0 hz1 hz2 rfl (by decide) _ _ _ rfl (own_keep hown ((Below.refl _ wr).alloc (Nat.le_refl _) _)) ⟨wr.heap.size, 0, none⟩ 1 1 [cN ((A : Int))] rfl rfl ?c1b ?c2b ?c3b ?c4b ?c5b ?_)
              try case c1b => intro j u h; exact cell_one_new _ _ _ j u h
              case c2b => first | rfl | (intro u h; rw [List.mem_singleton.1 h]; rfl)
              case c3b => unfold maxLen; omega
              case c4b => omega
              case c5b => have := hB.size; first | omega | (simp; omega)
              intro v' w1 hown1 hgrow hnn
              have hB1 : Below w.heap.size w w1 := (hB.alloc hB.size _).grown hgrow (by simp; have := hB.size; omega) (fun k e => (hown.lt k e).1)
              have H2 := Lib.hid (HS.out.snoc (v' := v') (W' := w1) hkl HX.out HO.out (by rw [HP.out, ← HXS.out]; exact hown1) hB1)
              clear hown1 hgrow hnn hB1 hown hB
              go_wp2
              go_roundw
              case rel => exact ⟨k + 1, plc A n + n, by go_num, by omega, num_eq (by have := HP.out; omega), H2.out⟩
              case measure => simp [intOf]; omega
          · have ht : Int.tmod (n : Int) 2 = 1 := by rw [Int.tmod_eq_emod_of_nonneg (by omega)]; omega
            have hbad : okL l = false := okL_false l k hkl (by rw [HX0.out]; unfold okS; exact decide_eq_false (by omega))
            have HBAD := Lib.hid hbad
            clear hbad hown hpar
            go_wp2
            go_ret3
            exact PlEnd.bad HBAD.out hB
    · obtain rfl : k = l.length := by omega
      clear hown
      go_wp2
      go_ret3
      exact PlEnd.good HS.out
def OfEnd (w : World) (m : List Nat) (e : Ending) (w' : World) : Prop := ∃ v, e = .returned v ∧ IL w m v w'
set_option maxRecDepth 100000 in
set_option maxHeartbeats 400000 in
theorem offs_ok (a : Option Addr) (c : Nat) (l : List Int) (w : World) (hl : l.length ≤ 2000) (hrow : RowI w a l) :
    Calls Tryz.prog 22 #[.slice a l.length c] w (OfEnd w (offM l)) := by
  have c1 := places_ok a c l w hl hrow
  clear hrow
  go_enter Tryz.func22, Tryz.ntmps22
  go_wp2_with (go_at_call 47; (with_reducible refine c1.mono ?_); rintro e w1 ⟨v, rfl, hI⟩)
  go_ret
  exact ⟨_, rfl, hI⟩
theorem endM_le (l : List Int) : endM l ≤ 2302 * l.length := by
  unfold endM
  split
  · rename_i h
    have := plcE_le (natS l) 0 (natS_le l h)
    simpa [natS] using this
  · omega
set_option maxRecDepth 100000 in
set_option maxHeartbeats 400000 in
theorem blks_ok (a : Option Addr) (c : Nat) (l : List Int) (w : World) (hl : l.length ≤ 2000) (hrow : RowI w a l) :
    Calls Tryz.prog 19 #[.slice a l.length c] w fun e w' => e = .returned (cN (blkM l : Nat)) ∧ Below w.heap.size w w' := by
  have c1 := places_ok a c l w hl hrow
  have h1 := endM_le l
  unfold PlEnd at c1
  obtain ⟨E, hE⟩ : ∃ E, endM l = E := ⟨_, rfl⟩
  have hb : blkM l = (E + 2047) / 2048 := by rw [blkM, hE]
  rw [hE] at c1 h1
  rw [hb]
  have g0 : (0 : Int) ≤ (E : Int) := by omega
  have g1 : (E : Int) ≤ 100000000 := by omega
  clear hrow hE hb
  go_enter Tryz.func19, Tryz.ntmps19
  go_wp2_with (go_at_call 47; (with_reducible refine c1.mono ?_); rintro e w1 ⟨v, rfl, hI⟩)
  go_ret
  exact ⟨ret_int (by omega), hI.2⟩
end Go.Proofs.YtnmlephjhcmbhaaGreat
