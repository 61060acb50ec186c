/- DirectoryFits: for every input the law returns true and leaves its argument as it was. No condition. -/
import Derived.Test.YtnmlephjhcmbhaaGreatRows
import Derived.Test.YtnmlephjhcmbhaaGreatCl8
import Derived.Test.YtnmlephjhcmbhaaGreatDku
import Derived.Test.YtnmlephjhcmbhaaGreatDle
import Derived.ChangeSlices
import Derived.WalkKit
import Derived.ProofKit
import Derived.OpenShut
import Derived.ShutString
import Derived.ChangeOld
import Derived.Below
namespace Go.Proofs.YtnmlephjhcmbhaaGreat.directoryFits
set_option linter.unusedSimpArgs false
set_option linter.unusedVariables false
open Go Go.ChangeShapes Go.WideShapes Go.ChangeAt Go.RowKit
theorem cells3 : Tryz.prog.cellsOf 3 = 1 := by kernel_rfl
theorem open_ints {H : Type} {enc : TypeId × Value → H} {w : World} {base : Nat} {spare : Nat → Bool} {held : Bool} {a0 : Option Addr} {n0 c0 : Nat} {d : DataW H} {p : List MemPlace} (hd : DataW.Trod enc Tryz.prog w base spare held 33 (.slice a0 n0 c0) d p) :
    ∃ zs : List Int, n0 = zs.length ∧ RowI w a0 zs := by
  obtain ⟨fuel, hf⟩ := hd
  rcases Go.ChangeShapes.open_ints Tryz.underlying33 Tryz.underlying3 cells3 hf with ⟨e, -⟩ | ⟨a, len, cap, zs, e, hb, hl, hcm, hlen, -, hx, hwf⟩
  · have e' : Value.slice a0 n0 c0 = .slice none 0 0 := by simpa [Value.cells] using e
    injection e' with e1 e2 e3
    subst e2
    exact ⟨[], rfl, fun k hk => absurd hk (Nat.not_lt_zero _)⟩
  · have e' : Value.slice a0 n0 c0 = .slice (some a) len cap := by simpa [Value.cells] using e
    injection e' with e1 e2 e3
    subst e1 e2 e3
    have hlz : n0 ≤ zs.length := by rw [hlen]; split <;> omega
    refine ⟨zs.take n0, by rw [List.length_take, Nat.min_eq_left hlz], fun k hk => ?_⟩
    rw [List.length_take, Nat.min_eq_left hlz] at hk
    obtain ⟨b, off, spot⟩ := a
    have hs : spot = none := by
      have := World.cell?_spot (hx 0 (by omega))
      simpa [Addr.add] using this
    subst hs
    have hbl := World.block_lt_of_cell? w _ (hx 0 (by omega))
    refine ⟨b, off, rfl, by first | exact hbl | simpa [Addr.add] using hbl, ?_⟩
    have := hx k (by omega)
    have e0 : (⟨b, off, none⟩ : Addr).add k = ⟨b, off + k, none⟩ := by unfold Addr.add; split <;> simp_all
    rw [e0] at this
    rw [this, List.getD_eq_getElem?_getD, List.getD_eq_getElem?_getD, List.getElem?_take_of_lt hk]
theorem okL_take {l : List Int} (k : Nat) (h : okL l = true) : okL (l.take k) = true := List.all_eq_true.2 fun x hx => List.all_eq_true.1 h x (List.mem_of_mem_take hx)
theorem okS_at (l : List Int) (k : Nat) (hk : k < l.length) (h : okL l = true) : ∃ n : Nat, l.getD k 0 = (n : Int) ∧ 34 ≤ n ∧ n ≤ 254 := by
  have hm : l.getD k 0 ∈ l := by
    rw [List.getD_eq_getElem?_getD, List.getElem?_eq_getElem hk, Option.getD_some]
    exact List.getElem_mem hk
  have := List.all_eq_true.1 h _ hm
  unfold okS at this
  have := of_decide_eq_true this
  exact ⟨(l.getD k 0).toNat, by omega, by omega, by omega⟩
theorem plcs_at : ∀ (l : List Nat) (a k : Nat), k < l.length → (plcs a l).getD k 0 = plc (plcE a (l.take k)) (l.getD k 0)
  | [], _, k, h => absurd h (Nat.not_lt_zero _)
  | n :: l, a, 0, _ => by rw [plcs, List.take_zero, plcE]; rfl
  | n :: l, a, k + 1, h => by
    have := plcs_at l (plc a n + n) k (by simpa using h)
    rw [plcs, List.take_succ_cons, plcE, List.getD_cons_succ, List.getD_cons_succ]
    exact this
theorem natS_getD (l : List Int) (k : Nat) (hk : k < l.length) : (natS l).getD k 0 = (l.getD k 0).toNat := by
  unfold natS
  simp [List.getD_eq_getElem?_getD, hk]
theorem offs_at (l : List Int) (k : Nat) (hk : k < l.length) (h : okL l = true) : (offM l).getD k 0 = plc (plcE 0 (natS (l.take k))) (l.getD k 0).toNat := by
  unfold offM
  rw [if_pos h, plcs_at _ _ _ (by simpa [natS] using hk), natS_getD l k hk]
  unfold natS
  rw [List.map_take]
set_option maxRecDepth 100000 in
set_option maxHeartbeats 400000 in
theorem walk_big (a : Option Addr) (n c : Nat) (w : World) (h : (300 : Int) < n) : Calls Tryz.prog 8 #[.slice a n c] w fun e w' => e = .returned (.bool true) ∧ Below w.heap.size w w' := by
  go_enter Tryz.func8, Tryz.ntmps8
  go_wp2_with (go_at_call 9; (with_reducible refine (awake21_ok _).mono ?_); rintro e w1 ⟨rfl, hB1⟩)
  go_ret
  exact ⟨rfl, hB1⟩
set_option maxRecDepth 100000 in
set_option maxHeartbeats 1000000 in
theorem walk_bad (a : Option Addr) (c : Nat) (l : List Int) (w : World) (hrow : RowI w a l) (h : ¬ (300 : Int) < (l.length : Int)) (hok : okL l = false) : Calls Tryz.prog 8 #[.slice a l.length c] w fun e w' => e = .returned (.bool true) ∧ Below w.heap.size w w' := by
  have c1 := fun (W : World) (hW : Below w.heap.size w W) => offs_ok a c l W (by omega) (hrow.below hW)
  have c2 := fun (W : World) (hW : Below w.heap.size w W) => cfint_ok a c l W (by omega) (hrow.below hW)
  have c3 := fun (W : World) (hW : Below w.heap.size w W) => blks_ok a c l W (by omega) (hrow.below hW)
  have hO : offM l = [] := by unfold offM; rw [hok]; rfl
  have hB : blkM l = 0 := by unfold blkM endM; rw [hok]; simp
  rw [hO] at c1
  rw [hok] at c2
  rw [hB] at c3
  clear hrow hO hB hok
  go_enter Tryz.func8, Tryz.ntmps8
  go_wp2_with fail
  with_reducible refine (awake21_ok _).mono ?_
  rintro e w1 ⟨rfl, hB1⟩
  go_wp2_with fail
  with_reducible refine (c1 _ hB1).mono ?_
  rintro e w2 ⟨v2, rfl, ho2, hB2⟩
  obtain ⟨a2, d2, rfl⟩ := own_form ho2
  have hb2 := bthen hB1 hB2
  go_wp2_with fail
  with_reducible refine (c2 _ hb2).mono ?_
  rintro e w3 ⟨rfl, rfl⟩
  go_wp2_with fail
  with_reducible refine (c3 _ hb2).mono ?_
  rintro e w4 ⟨rfl, hB4⟩
  go_wp2
  go_ret
  exact ⟨by simp, bthen hb2 hB4⟩
set_option maxRecDepth 100000 in
set_option maxHeartbeats 2000000 in
theorem walk_good (a : Option Addr) (c : Nat) (l : List Int) (w : World) (hrow : RowI w a l) (h : ¬ (300 : Int) < (l.length : Int)) (hok : okL l = true) : Calls Tryz.prog 8 #[.slice a l.length c] w fun e w' => e = .returned (.bool true) ∧ Below w.heap.size w w' := by
  have c1 := fun (W : World) (hW : Below w.heap.size w W) => offs_ok a c l W (by omega) (hrow.below hW)
  have c2 := fun (W : World) (hW : Below w.heap.size w W) => cfint_ok a c l W (by omega) (hrow.below hW)
  have c3 := fun (W : World) (hW : Below w.heap.size w W) => blks_ok a c l W (by omega) (hrow.below hW)
  have hO : offM l = plcs 0 (natS l) := by unfold offM; rw [hok]; rfl
  have hB : blkM l = (plcE 0 (natS l) + 2047) / 2048 := by unfold blkM endM; rw [hok]; rfl
  have hlen : (offM l).length = l.length := by rw [hO, plcs_len]; simp [natS]
  rw [hok] at c2
  rw [hB] at c3
  have HL := Lib.hid hlen
  have HO := Lib.hid hO
  have HROW := Lib.hid hrow
  have HOK := Lib.hid hok
  have hne : ((l.length : Int) != (l.length : Int)) = false := by simp
  clear hrow hO hB hok hlen
  go_enter Tryz.func8, Tryz.ntmps8
  go_wp2_with fail
  with_reducible refine (awake21_ok _).mono ?_
  rintro e w1 ⟨rfl, hB1⟩
  go_wp2_with fail
  with_reducible refine (c1 _ hB1).mono ?_
  rintro e w2 ⟨v2, rfl, ho2, hB2⟩
  obtain ⟨a2, d2, rfl⟩ := own_form ho2
  rw [HL.out]
  have hb2 := bthen hB1 hB2
  have HB := Lib.hid hb2
  go_wp2_with fail
  with_reducible refine (c2 _ hb2).mono ?_
  rintro e w3 ⟨rfl, rfl⟩
  have HW := Lib.hid ho2
  clear hb2 hB2 hB1 ho2 c1 c2
  go_wp2
  go_loopw [4, 5, 6, 7, 32] (fun en _ _ _ i wr => ∃ k : Nat, i = cN k ∧ k ≤ l.length ∧ en = cN (plcE 0 (natS (l.take k)) : Nat) ∧ wr = w3) (fun _ _ _ _ i _ => l.length - (intOf i).toNat)
  case atStart => exact ⟨0, rfl, Nat.zero_le _, rfl, rfl⟩
  case round =>
    obtain ⟨k, rfl, hk, rfl, rfl⟩ := hrel
    have hle := plcE_le (natS (l.take k)) 0 (natS_le _ (okL_take k HOK.out))
    obtain ⟨E, hE⟩ : ∃ E, plcE 0 (natS (l.take k)) = E := ⟨_, rfl⟩
    rw [hE] at hle ⊢
    have hEl : E ≤ 2302 * 300 := by have e : (natS (l.take k)).length ≤ 300 := by simp [natS]; omega
                                    omega
    have HE := Lib.hid hE
    clear hE hle
    by_cases hlt : (k : Int) < (l.length : Int)
    · have hkl : k < l.length := by omega
      obtain ⟨b, off, rfl, hb, hc⟩ := HROW.out k hkl
      obtain ⟨g, d, hs, -, hc2⟩ := own_ints HW.out k (by rw [HL.out]; exact hkl)
      injection hs with hs1 hs2 hs3
      subst hs1 hs3
      have hc' := (HB.out.cell (p := ⟨b, off + k, none⟩) hb).trans hc
      have hat := offs_at l k hkl HOK.out
      rw [HE.out] at hat
      rw [hat] at hc2
      have hx := okS_at l k hkl HOK.out
      obtain ⟨n, hn, hn1, hn2⟩ := hx
      have hnext : plcE 0 (natS (l.take (k + 1))) = plc E n + n := by
        rw [natS_snoc l k hkl, plcE_snoc, HE.out, hn]; rfl
      have HN := Lib.hid hnext
      rw [hn] at hc2 hc'
      rw [show ((n : Int)).toNat = n from rfl] at hc2
      clear hc hat hb hs2 hn hnext hlt
      by_cases hroom : 2048 - E % 2048 < n
      · have hp : plc E n = E + (2048 - E % 2048) := by rw [plc, if_pos hroom]
        obtain ⟨P, hP⟩ : ∃ P, plc E n = P := ⟨_, rfl⟩
        rw [hP] at hp hc2
        have d1 : Int.tdiv ((E : Int) + 2047) 2048 = (((E + 2047) / 2048 : Nat) : Int) := by rw [Int.tdiv_eq_ediv_of_nonneg (by omega)]; omega
        obtain ⟨D, hD⟩ : ∃ D, (E + 2047) / 2048 = D := ⟨_, rfl⟩
        have hDb : 2048 * D = P := by omega
        rw [hD] at d1
        have HP := Lib.hid hP
        have b1 : ((P : Int) == (E : Int)) = false := by simp; omega
        have b2 : ((P : Int) != (E : Int) + (2048 * (D : Int) - (E : Int))) = false := by simp; omega
        have b3 : ((2048 : Int) * (D : Int) - (E : Int) == 0) = false := by simp; omega
        have b4 : ¬ (n : Int) ≤ 2048 * (D : Int) - (E : Int) := by omega
        have b5 : P ≤ 700000 := by omega
        have b6 : D ≤ 700000 := by omega
        clear hD hP hroom
        go_wp2
        go_roundw
        case rel => exact ⟨k + 1, by go_num, by omega, by rw [HN.out, HP.out]; exact num_eq (by omega), by trivial⟩
        case measure => simp [intOf]; omega
      · have hp : plc E n = E := by rw [plc, if_neg hroom]
        rw [hp] at hc2
        have HP := Lib.hid hp
        have d1 : Int.tdiv ((E : Int) + 2047) 2048 = (((E + 2047) / 2048 : Nat) : Int) := by rw [Int.tdiv_eq_ediv_of_nonneg (by omega)]; omega
        obtain ⟨D, hD⟩ : ∃ D, (E + 2047) / 2048 = D := ⟨_, rfl⟩
        rw [hD] at d1
        have d2 : Int.tdiv (E : Int) 2048 = ((E / 2048 : Nat) : Int) := by rw [Int.tdiv_eq_ediv_of_nonneg (by omega)]; omega
        have d3 : Int.tdiv ((E : Int) + (n : Int) - 1) 2048 = ((E / 2048 : Nat) : Int) := by rw [Int.tdiv_eq_ediv_of_nonneg (by omega)]; omega
        obtain ⟨Q, hQ⟩ : ∃ Q, E / 2048 = Q := ⟨_, rfl⟩
        rw [hQ] at d2 d3
        have b6 : D ≤ 700000 := by omega
        clear hD hQ hroom hp
        go_wp2
        go_roundw
        case rel => exact ⟨k + 1, by go_num, by omega, by rw [HN.out, HP.out]; exact num_eq (by omega), by trivial⟩
        case measure => simp [intOf]; omega
    · obtain rfl : k = l.length := by omega
      have d1 : Int.tdiv ((E : Int) + 2047) 2048 = (((E + 2047) / 2048 : Nat) : Int) := by rw [Int.tdiv_eq_ediv_of_nonneg (by omega)]; omega
      have hE2 := HE.out
      rw [List.take_length] at hE2
      rw [hE2] at c3
      obtain ⟨D, hD⟩ : ∃ D, (E + 2047) / 2048 = D := ⟨_, rfl⟩
      rw [hD] at d1 c3
      have b6 : D ≤ 700000 := by omega
      have b7 : wrap64 (D : Int) = D := by unfold wrap64; omega
      clear hD hE2
      go_wp2_with fail
      with_reducible refine (c3 _ HB.out).mono ?_
      rintro e w4 ⟨rfl, hB4⟩
      go_wp2
      go_ret
      exact ⟨by first | (simp; done) | (simp [b7]; done), bthen HB.out hB4⟩
theorem walk (a : Option Addr) (c : Nat) (l : List Int) (w : World) (h : RowI w a l) : Calls Tryz.prog 8 #[.slice a l.length c] w fun e w' => e = .returned (.bool true) ∧ Below w.heap.size w w' := by
  by_cases h0 : (300 : Int) < (l.length : Int)
  · exact walk_big a _ c w h0
  · cases hok : okL l
    · exact walk_bad a c l w h h0 hok
    · exact walk_good a c l w h h0 hok
theorem own : ownKnob Tryz.prog.godebug = none := by kernel_rfl
theorem laidOut : laidOutB Tryz.prog = true := by kernel_rfl
set_option maxRecDepth 100000 in
theorem lifted (os : Os) (started : os.Started) (H : Type) (enc : TypeId × Value → H) :
    ReturnsInHanded {} Tryz.checked os 8 .any (Rows.directoryFitsSpec.pre6 enc Tryz.prog Tryz.f8 Rows.directoryFitsRow.domain false) (Rows.directoryFitsSpec.post enc Tryz.prog Tryz.f8 false true false false) := by
  refine returnsInHanded_of_change (C := Tryz.checked) own started (by kernel_rfl) Tryz.func8
    (ChangeSpec.witness6 (enc := enc) (C := Tryz.checked) false ⟨#[], #[.slice none 0 0], []⟩ 8 (by kernel_rfl) (by kernel_rfl) (by kernel_rfl) (by kernel_rfl)) ?_
  intro W base args ds gs before hval0 hW hcnd _
  have hval : ∀ (j : Nat) t v, Tryz.f8.params[j]? = some t → args[j]? = some v → Value.okWide Tryz.prog W .any base t v := hval0
  have hW' := hW
  obtain ⟨p, q, hA0, hV, rfl, hfz, hnd⟩ := hW
  have hA : DataW.TrodAll enc Tryz.prog W 0 (fun _ => true) true Tryz.f8.params.toList args.toList ds p := hA0
  rw [Tryz.params8] at hA hval
  obtain ⟨v0, vs0, d0, ds0, p0, q0, hargs, rfl, rfl, h0, r0⟩ := trodAll_cons hA
  obtain ⟨rfl, rfl, rfl⟩ := trodAll_nil r0
  obtain rfl : args = #[v0] := by cases args; simp_all
  obtain ⟨rfl, rfl⟩ := trodVars_none hV
  have k0 := h0
  have lt0 : ∀ x ∈ p0, x.block < W.heap.size := by obtain ⟨m, hm⟩ := k0; exact DataW.trod_lt m _ _ _ hm
  obtain ⟨a0, n0, c0, rfl⟩ := okWide_slice Tryz.underlying33 (hval 0 33 v0 rfl rfl)
  obtain ⟨l0, rfl, w0⟩ := open_ints h0
  clear hA0 hval0
  refine (walk a0 c0 l0 W w0).mono fun e W' ⟨he, bel⟩ => ?_
  subst he
  exact ⟨_, rfl, _, _, _, [], _, [], hW', trodAll_mk1 (shut_bool Tryz.underlying4 _), (trodAll_cons_mk (Below.trod laidOut (by kernel_rfl) (of_decide_eq_true (by kernel_rfl)) k0 bel lt0) trodAll_mk0), rfl, bel.frame _, fun h => by cases h⟩
theorem over : Rows.directoryFitsRow.holds Tryz.pinned (OpenSpec.ofChange Rows.directoryFitsSpec) :=
  OpenClaim.holds_of_wide 8 Tryz.f8 rfl rfl rfl rfl rfl rfl rfl ⟨rfl, rfl, rfl, rfl, rfl⟩ rfl rfl rfl rfl rfl (by as_aux_lemma => kernel_rfl) Tryz.func8 closed
    (of_decide_eq_true (by as_aux_lemma => kernel_rfl)) (by as_aux_lemma => (unfold Func.isWrapper; first | (rw [if_pos (by decide +kernel)]; kernel_rfl) | (rw [if_neg (by decide +kernel)]; exact ⟨rfl, rfl⟩)))
    (fun os started H enc _ => lifted os started H enc)
theorem proved : Rows.DirectoryFitsSaid := over
#print axioms proved
end Go.Proofs.YtnmlephjhcmbhaaGreat.directoryFits
