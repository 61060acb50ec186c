/- strings.Cut and Trim, udfstring.ParseEntity at the sparing table's entity. -/
import Derived.Test.YtocncjimepnlcaaGreatDoorDzb
import Derived.Test.YtocncjimepnlcaaGreatDoorCmd
import Derived.Test.YtocncjimepnlcaaGreatDoorRgn
namespace Go.Proofs.YtocncjimepnlcaaGreatDoor
set_option linter.unusedSimpArgs false
set_option linter.unusedVariables false
open Go Go.RowKit
set_option maxRecDepth 100000 in
set_option maxHeartbeats 1000000 in
theorem lcut_ok (s : ByteArray) (q : Nat) (w : World) (hs : s.size < 2 ^ 40) (hq : Lib.indexByte s.data.toList 0 = (q : Int)) (hlt : q < s.size) : Calls Tryz.prog 69 #[.string s, .string ⟨#[0]⟩] w fun e w' =>
    e = .returned (.tuple #[.string (s.extract 0 q), .string (s.extract (q + 1) s.size), .bool true]) ∧ Below w.heap.size w w' := by
  have c1 : ∀ W, Calls Tryz.prog 105 #[.string s, .string ⟨#[0]⟩] W fun e w' => e = .returned (cN (q : Int)) ∧ w' = W := fun W => by
    have := Tryz.stringslite_Index_one s 0 W
    rw [hq] at this
    exact this
  have k0 : (0 : Int) ≤ (q : Int) := by omega
  have k1 : IntKind.i64.wrap ((q : Int) + 1) = (q : Int) + 1 := by rw [IntKind.wrap_i64]; omega
  have k2 : ((q : Int) + 1).toNat = q + 1 := by omega
  have k3 : (q : Int) + 1 ≤ s.size := by omega
  have k4 : (q : Int) ≤ s.size := by omega
  clear hq hlt
  go_enter Tryz.func69, Tryz.ntmps69
  go_wp2_with (go_at_call 105; (with_reducible refine (c1 _).mono ?_); rintro e w1 ⟨rfl, rfl⟩)
  refine region_sch (fun w' => w' = w1.drew) [(true, 0), (true, 1), (true, 2), (true, 3), (true, 4), (true, 5), (true, 6), (true, 7), (true, 8), (true, 9)] [10, 11] (by kernel_rfl) (by kernel_rfl) (by rintro ⟨_, _, h, _⟩; cases h) (fun _ _ d _ _ h => by cases d <;> exact h) rfl ?_
  simp only [pickM, pickT, List.filterMap_cons, List.filterMap_nil, List.getElem?_cons_zero, List.getElem?_cons_succ, Option.map_some]
  repeat (refine m_float ⟨?_, .inl ⟨?_, .inl ?_⟩, fun K' hK => ?_⟩; rotate_left; (first | rfl | (go_simp; done)); (intro w' hS; subst hS; go_simp; try rfl); (simp only [Act.put, List.setIfInBounds_toArray, List.set_cons_succ, List.set_cons_zero]; refine hK _ ?_; clear hK K'))
  refine m_nil ?_
  show wpList Tryz.prog _ _ (List.cons _ _) _ _
  go_wp2
  go_ret3
  exact ⟨rfl, (Below.refl _ _).drew⟩
set_option maxRecDepth 100000 in
set_option maxHeartbeats 400000 in
theorem scut_ok (s : ByteArray) (q : Nat) (w : World) (hs : s.size < 2 ^ 40) (hq : Lib.indexByte s.data.toList 0 = (q : Int)) (hlt : q < s.size) : Calls Tryz.prog 43 #[.string s, .string ⟨#[0]⟩] w fun e w' =>
    e = .returned (.tuple #[.string (s.extract 0 q), .string (s.extract (q + 1) s.size), .bool true]) ∧ Below w.heap.size w w' := by
  have c1 := fun W => lcut_ok s q W hs hq hlt
  clear hq hlt hs
  go_enter Tryz.func43, Tryz.ntmps43
  go_wp2_with (go_at_call 69; (with_reducible refine (c1 _).mono ?_); rintro e w1 ⟨rfl, hB1⟩)
  go_ret3
  exact ⟨rfl, hB1⟩
theorem zeros_toL (n : Nat) : (zerosB n).data.toList = List.replicate n 0 := rfl
theorem zeros_get (n i : Nat) (h : i < (zerosB n).size) : ((zerosB n)[i]'h).toNat = 0 := by
  rw [sB_get]
  unfold sB
  rw [zeros_toL, List.getD_eq_getElem?_getD, List.getElem?_replicate]
  split <;> rfl
theorem zeros_ext (n : Nat) : (zerosB (n + 1)).extract 0 n = zerosB n := by
  refine ba_ext ?_
  rw [toL_ext, zeros_toL, zeros_toL]
  simp
set_option maxRecDepth 100000 in
set_option maxHeartbeats 1000000 in
theorem strimr_ok (n : Nat) (w : World) (hn : n ≤ 100) : Calls Tryz.prog 71 #[.string (zerosB n), .int .u8 0] w fun e w' => e = .returned (.string (zerosB 0)) ∧ w' = w := by
  go_enter Tryz.func71, Tryz.ntmps71
  go_wp2
  go_loopw [0] (fun s wr => ∃ k : Nat, s = .string (zerosB k) ∧ k ≤ n ∧ wr = w) (fun s _ => match s with | .string x => x.size | _ => 0)
  case atStart => exact ⟨n, rfl, Nat.le_refl _, rfl⟩
  case round =>
    obtain ⟨k, rfl, hk, rfl⟩ := hrel
    cases k with
    | zero =>
      have hz := zerosB_size 0
      obtain ⟨z, hzz⟩ : ∃ z, zerosB 0 = z := ⟨_, rfl⟩
      have HZ := Lib.hid hzz
      rw [hzz] at hz ⊢
      clear hzz
      go_wp2
      go_ret
      exact ⟨by rw [HZ.out]; rfl, by trivial⟩
    | succ k =>
      have hz := zerosB_size (k + 1)
      have hlt : k < (zerosB (k + 1)).size := by omega
      have hb := zeros_get (k + 1) k hlt
      have he := zeros_ext k
      have HZ := Lib.hid (zerosB_size k)
      generalize zerosB (k + 1) = z at hz hlt hb he ⊢
      have g1 : IntKind.i64.wrap (((k : Int) + 1) - 1) = (k : Int) := by rw [IntKind.wrap_i64]; omega
      have g2 : (z.size : Int) = (k : Int) + 1 := by omega
      go_wp2
      go_roundw
      case rel => exact ⟨k, by first | rfl | (rw [← he]; rfl), by omega, by trivial⟩
      case measure => first | (have := HZ.out; omega) | (simp; have := HZ.out; omega) | (have := HZ.out; simp_all)
set_option maxRecDepth 100000 in
set_option maxHeartbeats 1000000 in
theorem striml_ok (w : World) : Calls Tryz.prog 70 #[.string (zerosB 0), .int .u8 0] w fun e w' => e = .returned (.string (zerosB 0)) ∧ w' = w := by
  go_enter Tryz.func70, Tryz.ntmps70
  go_wp2
  go_loopw [0] (fun s wr => s = .string (zerosB 0) ∧ wr = w) (fun s _ => 0)
  case atStart => exact ⟨rfl, rfl⟩
  case round =>
    obtain ⟨rfl, rfl⟩ := hrel
    have hz := zerosB_size 0
    obtain ⟨z, hzz⟩ : ∃ z, zerosB 0 = z := ⟨_, rfl⟩
    have HZ := Lib.hid hzz
    rw [hzz] at hz ⊢
    clear hzz
    go_wp2
    go_ret
    exact ⟨by rw [HZ.out]; rfl, by trivial⟩
set_option maxRecDepth 100000 in
set_option maxHeartbeats 1000000 in
theorem strim_ok (w : World) : Calls Tryz.prog 44 #[.string (zerosB 5), .string ⟨#[0]⟩] w fun e w' => e = .returned (.string (zerosB 0)) ∧ Below w.heap.size w w' := by
  have k1 := fun W => strimr_ok 5 W (by decide)
  have k2 := fun W => striml_ok W
  have hz := zerosB_size 5
  have hne : ((zerosB 5).toList == []) = false := by decide +kernel
  have hc : ∀ h, ((⟨#[0]⟩ : ByteArray)[0]'h).toNat = 0 := fun _ => rfl
  generalize zerosB 5 = z at k1 hz hne ⊢
  generalize zerosB 0 = z0 at k1 k2 ⊢
  go_enter Tryz.func44, Tryz.ntmps44
  go_wp2
  refine region_sch (fun w' => w' = w.drew) [(true, 0), (true, 1), (true, 2), (true, 4), (true, 5), (false, 3)] [6, 7] (by kernel_rfl) (by kernel_rfl) (by rintro ⟨_, _, h, _⟩; cases h) (fun _ _ d _ _ h => by cases d <;> exact h) rfl ?_
  simp only [pickM, pickT, List.filterMap_cons, List.filterMap_nil, List.getElem?_cons_zero, List.getElem?_cons_succ, Option.map_some]
  repeat (refine m_float ⟨?_, .inl ⟨?_, .inl ?_⟩, fun K' hK => ?_⟩; rotate_left; (first | rfl | (go_simp; done)); (intro w' hS; subst hS; go_simp; try rfl); (simp only [Act.put, List.setIfInBounds_toArray, List.set_cons_succ, List.set_cons_zero]; refine hK _ ?_; clear hK K'))
  refine m_loud ?_ (fun K' hK => ?_)
  · rintro ⟨_, _, h, _⟩; cases h
  go_wp2_with (go_at_call 71; (with_reducible refine (k1 _).mono ?_); rintro e w1 ⟨rfl, rfl⟩)
  refine hK _ _ rfl ?_
  clear hK K'
  repeat (refine m_float ⟨?_, .inl ⟨?_, .inl ?_⟩, fun K' hK => ?_⟩; rotate_left; (first | rfl | (go_simp; done)); (intro w' hS; subst hS; go_simp; try rfl); (simp only [Act.put, List.setIfInBounds_toArray, List.set_cons_succ, List.set_cons_zero]; refine hK _ ?_; clear hK K'))
  refine m_nil ?_
  show wpList Tryz.prog _ _ (List.cons _ _) _ _
  go_wp2_with (go_at_call 70; (with_reducible refine (k2 _).mono ?_); rintro e w2 ⟨rfl, rfl⟩)
  go_ret
  exact ⟨rfl, (Below.refl _ w).drew⟩
theorem ent_field : entB.extract 1 24 = nameB ++ zerosB 5 := by decide
theorem ent_idx : Lib.indexByte (nameB ++ zerosB 5).data.toList 0 = (18 : Int) := by decide
theorem ent_name : (nameB ++ zerosB 5).extract 0 18 = nameB := by decide
theorem ent_zero : entB.extract 19 24 = zerosB 5 := by decide
theorem zero0 : (zerosB 0).toList = [] := by decide +kernel
set_option maxRecDepth 100000 in
set_option maxHeartbeats 4000000 in
theorem parsee_ok (w : World) : Calls Tryz.prog 26 #[.string entB] w fun e w' => (∃ suf, e = .returned (.tuple #[.string nameB, .string suf, cN 0])) ∧ Below w.heap.size w w' := by
  have hes := entB_size
  have k1 : ∀ W, Calls Tryz.prog 43 #[.string (entB.extract 1 24), .string ⟨#[0]⟩] W fun e w' => (∃ z, e = .returned (.tuple #[.string nameB, .string z, .bool true])) ∧ Below W.heap.size W w' := fun W => by
    rw [ent_field]
    have := scut_ok (nameB ++ zerosB 5) 18 W (by decide) ent_idx (by decide)
    rw [ent_name] at this
    exact this.mono fun e w' ⟨he, hb⟩ => ⟨⟨_, he⟩, hb⟩
  have k2 := fun W => uprint_ok nameB W (by decide) (by decide) (by decide)
  have k3 : ∀ W, Calls Tryz.prog 44 #[.string (entB.extract 19 24), .string ⟨#[0]⟩] W fun e w' => e = .returned (.string (zerosB 0)) ∧ Below W.heap.size W w' := fun W => by
    rw [ent_zero]
    exact strim_ok W
  have hn : nameB.size = 18 := by decide
  have h0 := zero0
  generalize nameB = N at k1 k2 hn ⊢
  generalize zerosB 0 = z0 at k3 h0
  generalize entB = E at hes k1 k3 ⊢
  have HB := Lib.hid (Below.refl w.heap.size w)
  go_enter Tryz.func26, Tryz.ntmps26
  go_wp2_with (first | (go_at_call 43; (with_reducible refine (k1 _).mono ?_); rintro e w1 ⟨⟨z, rfl⟩, hB1⟩; have HB := Lib.hid (bthen HB.out hB1); clear hB1) | (go_at_call 33; (with_reducible refine (k2 _).mono ?_); rintro e w1 ⟨rfl, hB1⟩; have HB := Lib.hid (bthen HB.out hB1); clear hB1) | (go_at_call 44; (with_reducible refine (k3 _).mono ?_); rintro e w1 ⟨rfl, hB1⟩; have HB := Lib.hid (bthen HB.out hB1); clear hB1))
  refine region_sch (fun w' => Below w.heap.size w w') [(true, 0), (true, 1), (true, 2), (true, 3)] [4, 5] (by kernel_rfl) (by kernel_rfl) (by rintro ⟨_, _, ⟨_, h⟩, -⟩; cases h) (fun _ _ d _ _ h => by cases d <;> exact h) HB.out.drew ?_
  simp only [pickM, pickT, List.filterMap_cons, List.filterMap_nil, List.getElem?_cons_zero, List.getElem?_cons_succ, Option.map_some]
  repeat (first | (refine m_float ⟨?_, .inl ⟨?_, .inl ?_⟩, fun K' hK => ?_⟩; rotate_left; (first | rfl | (go_simp; done)); (intro w' hS; skip; go_simp; try rfl); (simp only [Act.put, List.setIfInBounds_toArray, List.set_cons_succ, List.set_cons_zero]; refine hK _ ?_; clear hK K')) | (refine m_float ⟨undef, .inr ⟨?_, rfl⟩, fun K' hK => ?_⟩; (first | rfl | (go_simp; done)); (simp only [Act.put, List.setIfInBounds_toArray, List.set_cons_succ, List.set_cons_zero]; refine hK _ ?_; clear hK K')))
  refine m_nil ?_
  show wpList Tryz.prog _ _ (List.cons _ _) _ _
  go_wp2
  go_ret3
  exact ⟨⟨_, rfl⟩, HB.out.drew⟩
end Go.Proofs.YtocncjimepnlcaaGreatDoor
