/- ScramblerAdds: for every input the law returns true and leaves its arguments as they were. No condition. -/
import Derived.Test.YtmpojdjknahoiaaRows
import Derived.Test.YtmpojdjknahoiaaFin
import Derived.Test.YtmpojdjknahoiaaRgn
import Derived.Test.YtmpojdjknahoiaaXor
import Derived.WalkKit
import Derived.ProofKit
import Derived.OpenShut
import Derived.HandedShaped
namespace Go.Proofs.Ytmpojdjknahoiaa.scramblerAdds
open Go Go.ChangeShapes Go.WideShapes Go.ChangeAt Go.RowKit
attribute [local irreducible] seqL
theorem own : ownKnob Try.prog.godebug = none := by kernel_rfl
theorem bthen {w w1 w2 : World} (h : Below w.heap.size w w1) (k : Below w1.heap.size w1 w2) : Below w.heap.size w w2 := h.trans (k.mono h.size)
theorem drew_left {w w' : World} (h : Below w.drew.heap.size w.drew w') : Below w.heap.size w w' := ⟨h.os, h.tape, h.output, h.size, h.block⟩
set_option maxRecDepth 100000 in
set_option maxHeartbeats 800000 in
theorem walk_core (X Y : ByteArray) (a0 a1 a2 m r : Int) (a d k : Nat) (w : World) (h0 : a0 % 4000 = a) (h1 : 1 + a1 % 4000 = d) (h2 : 2 + a2 % 20 = k) (p0 : 0 ≤ a0) (p0' : a0 ≤ 65535) (p1 : 0 ≤ a1) (p1' : a1 ≤ 65535) (p2 : 0 ≤ a2) (p2' : a2 ≤ 255)
    (hX : X.size = a + d + k)
    (hw0 : 0 < w.heap.size) (hm : w.cell? ⟨0, 0, none⟩ = some (.int .i64 m))
    (c1 : ∀ W : World, Calls Try.prog 11 #[.int .i64 ((a : Int) + d + k)] W fun e w' => e = .returned (.tuple #[.string X, .int .i64 0]) ∧ Below W.heap.size W w')
    (c2 : ∀ W : World, Calls Try.prog 18 #[.string (X.extract a (a + k)), .string (X.extract (a + d) (a + d + k))] W fun e w' => e = .returned (.string Y) ∧ Below W.heap.size W w')
    (c3 : ∀ W : World, W.cell? ⟨0, 0, none⟩ = some (.int .i64 m) → Calls Try.prog 19 #[.string Y] W fun e w' => e = .returned (.tuple #[.int .i64 r, .bool true]) ∧ Below W.heap.size W w') :
    Calls Try.prog 9 #[.int .u16 a0, .int .u16 a1, .int .u8 a2] w fun e w' => e = .returned (.bool true) ∧ Below w.heap.size w w' := by
  have la : (a : Int) < 4000 := by omega
  have ld : (d : Int) < 4001 := by omega
  have lk : (k : Int) < 22 := by omega
  have hXi : (X.size : Int) = (a : Int) + d + k := by omega
  have n0 : (0 : Int) ≤ (a : Int) := Int.natCast_nonneg a
  have n1 : (0 : Int) ≤ (d : Int) := Int.natCast_nonneg d
  have n2 : (0 : Int) ≤ (k : Int) := Int.natCast_nonneg k
  have f1 : (a : Int) + k ≤ (X.size : Int) := by omega
  have f2 : (a : Int).toNat = a := Int.toNat_natCast a
  have f3 : ((a : Int) + k).toNat = a + k := by omega
  have f4 : ((a : Int) + d).toNat = a + d := by omega
  have f5 : ((a : Int) + d + k).toNat = a + d + k := by omega
  have f6 : (a : Int) ≤ (a : Int) + k := by omega
  have f7 : (a : Int) + d ≤ (a : Int) + d + k := by omega
  have f8 : (a : Int) + d + k ≤ (X.size : Int) := by omega
  have f9 : (0 : Int) ≤ (a : Int) + d := by omega
  have f10 : (0 : Int) ≤ (a : Int) + k := by omega
  have f11 : (0 : Int) ≤ (a : Int) + d + k := by omega
  have f12 : (a : Int) ≤ (a : Int) + d := by omega
  have f13 : a ≤ a + k := by omega
  have f14 : a + d ≤ a + d + k := by omega
  have g1 : IntKind.i64.wrap ((a : Int) + k) = (a : Int) + k := by rw [IntKind.wrap_i64]; omega
  have g2 : IntKind.i64.wrap ((a : Int) + d) = (a : Int) + d := by rw [IntKind.wrap_i64]; omega
  have g3 : IntKind.i64.wrap ((a : Int) + d + k) = (a : Int) + d + k := by rw [IntKind.wrap_i64]; omega
  go_enter Try.func9, Try.ntmps9
  go_wp2_with (first | (go_at_call 10; refine (awake_ok _).mono ?_; rintro e w1 ⟨rfl, hB1⟩) | (go_at_call 11; (with_reducible refine (c1 _).mono ?_); rintro e w2 ⟨rfl, hB2⟩; clear c1; have hB12 := bthen hB1 hB2))
  refine region_sch (fun _ => True) [(true, 0), (true, 1), (true, 2), (true, 3), (true, 4), (true, 5), (true, 6), (true, 7), (true, 8), (true, 9), (true, 10), (true, 11), (true, 12), (true, 13), (true, 14), (true, 15), (false, 16), (false, 17), (true, 18), (true, 19), (true, 20), (true, 21)] [22] (by kernel_rfl) (by kernel_rfl) (by rintro ⟨_, _, h, _⟩; cases h) (fun _ _ d _ _ h => by cases d <;> exact h) trivial ?_
  simp only [pickM, pickT, List.filterMap_cons, List.filterMap_nil, List.getElem?_cons_zero, List.getElem?_cons_succ, Option.map_some]
  repeat (refine m_float ⟨?_, .inl ⟨?_, .inl ?_⟩, fun K' hK => ?_⟩; rotate_left; (first | rfl | (go_simp; done)); (intro w' _; go_simp; try rfl); (simp only [Act.put, List.setIfInBounds_toArray, List.set_cons_succ, List.set_cons_zero]; refine hK _ ?_; clear hK K'))
  refine m_loud ?_ (fun K' hK => ?_)
  · rintro ⟨_, _, h, _⟩; cases h
  go_wp2_with (go_at_call 18; (with_reducible refine (c2 _).mono ?_); rintro e w5 ⟨rfl, hB5⟩)
  refine hK _ _ trivial ?_
  clear hK K' c2
  have hB5' := bthen hB12 (drew_left hB5)
  refine m_loud ?_ (fun K' hK => ?_)
  · rintro ⟨_, _, h, _⟩; cases h
  go_wp2_with (go_at_call 19; (with_reducible refine (c3 _ ((hB5'.cell (p := ⟨0, 0, none⟩) hw0).trans hm)).mono ?_); rintro e w6 ⟨rfl, hB6⟩)
  refine hK _ _ trivial ?_
  clear hK K'
  repeat (refine m_float ⟨?_, .inl ⟨?_, .inl ?_⟩, fun K' hK => ?_⟩; rotate_left; (first | rfl | (go_simp; done)); (intro w' _; go_simp; try rfl); (simp only [Act.put, List.setIfInBounds_toArray, List.set_cons_succ, List.set_cons_zero]; refine hK _ ?_; clear hK K'))
  refine m_nil ?_
  show wpList Try.prog _ _ (List.cons _ _) _ _
  go_wp2
  go_ret
  exact ⟨rfl, bthen hB5' hB6⟩
theorem part_at (n i l j : Nat) (h : i + l ≤ n) (hj : j < l) : ((⟨(seqL n).toArray⟩ : ByteArray).extract i (i + l)).data.toList[j]? = some (seqB (i + j)) := by
  have hl : ((⟨(seqL n).toArray⟩ : ByteArray).extract i (i + l)).data.toList = ((seqL n).drop i).take l := by
    rw [ByteArray.data_extract, List.extract_toArray, List.extract_eq_take_drop, Nat.add_sub_cancel_left]
  rw [hl, List.getElem?_take_of_lt hj, List.getElem?_drop, seqL_at n _ (by omega)]
theorem walk (a0 a1 a2 : Int) (w0 : (Lit.int .u16 a0).wf = true) (w1 : (Lit.int .u16 a1).wf = true) (w2 : (Lit.int .u8 a2).wf = true) (w : World) (m : Int) (hm : w.cell? ⟨0, 0, none⟩ = some (.int .i64 m)) :
    Calls Try.prog 9 #[.int .u16 a0, .int .u16 a1, .int .u8 a2] w fun e w' => e = .returned (.bool true) ∧ Below w.heap.size w w' := by
  have b0 := bounds_u16 w0
  have b1 := bounds_u16 w1
  have b2 := bounds_u8 w2
  have hw0 := World.block_lt_of_cell? w _ hm
  simp only at hw0
  obtain ⟨a, ha⟩ : ∃ f : Nat, a0 % 4000 = f := ⟨(a0 % 4000).toNat, by omega⟩
  obtain ⟨d, hd⟩ : ∃ f : Nat, 1 + a1 % 4000 = f := ⟨(1 + a1 % 4000).toNat, by omega⟩
  obtain ⟨k, hk⟩ : ∃ l : Nat, 2 + a2 % 20 = l := ⟨(2 + a2 % 20).toNat, by omega⟩
  have la : a < 4000 := by omega
  have ld : 1 ≤ d ∧ d ≤ 4000 := by omega
  have lk : 2 ≤ k ∧ k < 22 := by omega
  have hsz : (⟨(seqL (a + d + k)).toArray⟩ : ByteArray).size = a + d + k := by
    show (seqL (a + d + k)).toArray.size = _
    rw [List.size_toArray, seqL_length]
  have q1 := fun j (hj : j < k) => part_at (a + d + k) a k j (by omega) hj
  have q2 := fun j (hj : j < k) => part_at (a + d + k) (a + d) k j (by omega) hj
  have s1 : ((⟨(seqL (a + d + k)).toArray⟩ : ByteArray).extract a (a + k)).size = k := by rw [ByteArray.size_extract, hsz]; omega
  have s2 : ((⟨(seqL (a + d + k)).toArray⟩ : ByteArray).extract (a + d) (a + d + k)).size = k := by rw [ByteArray.size_extract, hsz]; omega
  have c2 := fun W => xor_ok ((⟨(seqL (a + d + k)).toArray⟩ : ByteArray).extract a (a + k)) ((⟨(seqL (a + d + k)).toArray⟩ : ByteArray).extract (a + d) (a + d + k)) W (by omega)
  have c1 := fun W => seq_ok (a + d + k) W (by omega)
  rw [show ((a + d + k : Nat) : Int) = (a : Int) + d + k by omega] at c1
  obtain ⟨p, hp, hadd⟩ := adds (a := a) (k := k) ld.1 (show d < 32767 by omega)
  have hYl : (xorL ((⟨(seqL (a + d + k)).toArray⟩ : ByteArray).extract a (a + k)).data.toList ((⟨(seqL (a + d + k)).toArray⟩ : ByteArray).extract (a + d) (a + d + k)).data.toList).length = k := by
    rw [xorL_length, list_size, list_size, s1, s2]; omega
  have hYs : (⟨(xorL ((⟨(seqL (a + d + k)).toArray⟩ : ByteArray).extract a (a + k)).data.toList ((⟨(seqL (a + d + k)).toArray⟩ : ByteArray).extract (a + d) (a + d + k)).data.toList).toArray⟩ : ByteArray).size = k := by
    show Array.size (List.toArray _) = _
    rw [List.size_toArray, hYl]
  have hat : At (xorL ((⟨(seqL (a + d + k)).toArray⟩ : ByteArray).extract a (a + k)).data.toList ((⟨(seqL (a + d + k)).toArray⟩ : ByteArray).extract (a + d) (a + d + k)).data.toList) p := by
    intro j hj
    rw [hYl] at hj
    rw [xorL, List.getElem?_zipWith, q1 j hj, q2 j hj, ← hadd j hj]
  generalize xorL ((⟨(seqL (a + d + k)).toArray⟩ : ByteArray).extract a (a + k)).data.toList ((⟨(seqL (a + d + k)).toArray⟩ : ByteArray).extract (a + d) (a + d + k)).data.toList = Yl at c2 hYl hYs hat
  obtain ⟨r, hr, _⟩ := Place.exists Yl (by omega)
  obtain ⟨r0, _, _⟩ := hr.found hp hat
  have c4 : ∀ W : World, W.cell? ⟨0, 0, none⟩ = some (.int .i64 m) → _ := fun W hW => find_ok ⟨Yl.toArray⟩ m r W (by omega) (by omega) hW hr
  have e1 : max r 0 = r := by omega
  have e2 : decide (0 ≤ r) = true := by simpa using r0
  rw [e1, e2] at c4
  exact walk_core _ _ a0 a1 a2 m r a d k w ha hd hk b0.1 b0.2 b1.1 b1.2 b2.1 b2.2 hsz hw0 hm c1 c2 c4
set_option maxRecDepth 100000 in
theorem lifted (os : Os) (started : os.Started) (H : Type) (enc : TypeId × Value → H) :
    ReturnsInHanded {} Try.checked os 9 .any (Rows.scramblerAddsSpec.pre6 enc Try.prog Try.f9 Rows.scramblerAddsRow.domain false) (Rows.scramblerAddsSpec.post enc Try.prog Try.f9 false true false false) := by
  refine returnsInHanded_of_change_shaped (C := Try.checked) own started (by kernel_rfl) Try.func9
    (ChangeSpec.witness6 (enc := enc) (C := Try.checked) false ⟨#[], #[.int .u16 0, .int .u16 0, .int .u8 0], []⟩ 8 (by kernel_rfl) (by kernel_rfl) (by kernel_rfl) (by kernel_rfl)) ?_
  intro W base args ds gs before hval0 hW hcnd _ hsh _
  obtain ⟨m, hm⟩ := cell_of_shapedOpen_int (P := Try.prog) (g := 0) (t := 3) (zero := #[.int .i64 0]) hsh (of_decide_eq_true (by kernel_rfl)) (by kernel_rfl) rfl (by kernel_rfl) (by kernel_rfl) Try.underlying3
  have hval : ∀ (j : Nat) t v, Try.f9.params[j]? = some t → args[j]? = some v → Value.okWide Try.prog W .any base t v := hval0
  have hW' := hW
  obtain ⟨p, q, hA0, hV, rfl, hfz, hnd⟩ := hW
  have hA : DataW.TrodAll enc Try.prog W 0 (fun _ => true) true Try.f9.params.toList args.toList ds p := hA0
  rw [Try.params9] at hA hval
  obtain ⟨v0, vs0, d0, ds0, p0, q0, hargs, rfl, rfl, h0, r0⟩ := trodAll_cons hA
  obtain ⟨v1, vs1, d1, ds1, p1, q1, rfl, rfl, rfl, h1, r1⟩ := trodAll_cons r0
  obtain ⟨v2, vs2, d2, ds2, p2, q2, rfl, rfl, rfl, h2, r2⟩ := trodAll_cons r1
  obtain ⟨rfl, rfl, rfl⟩ := trodAll_nil r2
  obtain rfl : args = #[v0, v1, v2] := by cases args; simp_all
  obtain ⟨rfl, rfl⟩ := trodVars_none hV
  obtain ⟨a0, rfl, rfl, rfl, w0⟩ := open_int Try.underlying29 (hval 0 29 v0 rfl rfl) h0
  obtain ⟨a1, rfl, rfl, rfl, w1⟩ := open_int Try.underlying29 (hval 1 29 v1 rfl rfl) h1
  obtain ⟨a2, rfl, rfl, rfl, w2⟩ := open_int Try.underlying5 (hval 2 5 v2 rfl rfl) h2
  clear hA0 hval0
  simp only [List.append_nil] at hW'
  refine (walk a0 a1 a2 w0 w1 w2 W m hm).mono fun e W' ⟨he, bel⟩ => ?_
  subst he
  exact ⟨_, rfl, _, _, _, [], _, [], hW', trodAll_mk1 (shut_bool Try.underlying4 _), (trodAll_cons_mk (shut_int Try.underlying29 w0) (trodAll_cons_mk (shut_int Try.underlying29 w1) (trodAll_cons_mk (shut_int Try.underlying5 w2) trodAll_mk0))), rfl, bel.frame _, fun h => by cases h⟩
theorem over : Rows.scramblerAddsRow.holds Try.pinned (OpenSpec.ofChange Rows.scramblerAddsSpec) :=
  OpenClaim.holds_of_wide 9 Try.f9 rfl rfl rfl rfl rfl rfl rfl ⟨rfl, rfl, rfl, rfl, rfl⟩ rfl rfl rfl rfl rfl (by kernel_rfl) Try.func9 (by kernel_rfl)
    (of_decide_eq_true (by kernel_rfl)) (by unfold Func.isWrapper; first | (rw [if_pos (by decide +kernel)]; kernel_rfl) | (rw [if_neg (by decide +kernel)]; exact ⟨rfl, rfl⟩))
    (fun os started H enc _ => lifted os started H enc)
theorem proved : Rows.ScramblerAddsSaid := over
#print axioms proved
end Go.Proofs.Ytmpojdjknahoiaa.scramblerAdds
