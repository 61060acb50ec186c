/- pathtable.Order: the comparison; the map of those below. -/
import Derived.Test.YtnmlephjhcmbhaaPpo
import Derived.Maps.OwnSet
namespace Go.Proofs.Ytnmlephjhcmbhaa
set_option linter.unusedSimpArgs false
set_option linter.unusedVariables false
open Go Go.RowKit
set_option maxRecDepth 100000 in
set_option maxHeartbeats 1000000 in
theorem pord1_ok (b off c : Nat) (l : List PE) (wide : Bool) (F1 F2 x y : Nat) (w : World) (hx : x < l.length) (hy : y < l.length) (hl : l.length ≤ 2000) (hsz : ∀ e ∈ l, e.id.size < 2 ^ 31) (hrow : RowP w (some ⟨b, off, none⟩) l)
    (h1 : w.heap[F1]? = some (.cells #[.slice (some ⟨b, off, none⟩) l.length c] 44 (0, 0))) (h2 : w.heap[F2]? = some (.cells #[.bool wide] 4 (0, 0))) :
    Calls Try.prog 75 #[cN (x : Int), cN (y : Int), .pointer (some ⟨F1, 0, none⟩), .pointer (some ⟨F2, 0, none⟩)] w fun e w' => e = .returned (cN (cfP l wide x y)) ∧ Below w.heap.size w w' := by
  have p1 := Lib.cell_of_heap h1 0
  have p2 := Lib.cell_of_heap h2 0
  obtain ⟨b1, o1, e1, hb1, hc1⟩ := hrow x hx
  obtain ⟨b2, o2, e2, hb2, hc2⟩ := hrow y hy
  simp only [Option.some.injEq, Addr.mk.injEq] at e1 e2
  obtain ⟨rfl, rfl, -⟩ := e1
  obtain ⟨rfl, rfl, -⟩ := e2
  have hm : ∀ i, i < l.length → (l.getD i peD).id.size < 2 ^ 31 := fun i hi => hsz _ (by rw [List.getD_eq_getElem?_getD, List.getElem?_eq_getElem hi, Option.getD_some]; exact List.getElem_mem hi)
  have c1 := fun W => cmp_ok (l.getD x peD).id (l.getD y peD).id wide W (hm x hx) (hm y hy)
  unfold cfP
  obtain ⟨q0, q1, q2⟩ := hc1
  obtain ⟨r0, r1, r2⟩ := hc2
  obtain ⟨X, hX⟩ : ∃ X, l.getD x peD = X := ⟨_, rfl⟩
  obtain ⟨Y, hY⟩ : ∃ Y, l.getD y peD = Y := ⟨_, rfl⟩
  rw [hX] at q0 q1 q2 c1 ⊢
  rw [hY] at r0 r1 r2 c1 ⊢
  obtain ⟨v, hv⟩ : ∃ v, cmpM X.id.data.toList Y.id.data.toList wide = v := ⟨_, rfl⟩
  rw [hv] at c1 ⊢
  have k1 : (x : Int) < (l.length : Int) := by omega
  have k2 : (y : Int) < (l.length : Int) := by omega
  clear h1 h2 hX hY hv hm hrow hsz hb1 hb2 hx hy
  go_enter Try.func75, Try.ntmps75
  go_wp2
  refine region_sch (fun w' => w' = w.drew) [(true, 0), (true, 1), (true, 2), (true, 3), (true, 4), (true, 5), (true, 6), (true, 7), (true, 8), (true, 9), (true, 10)] [11, 12] (by kernel_rfl) (by kernel_rfl) (by rintro ⟨_, _, h⟩; cases h.1) (fun _ _ d _ _ h => by cases d <;> exact h) rfl ?_
  simp only [pickM, pickT, List.filterMap_cons, List.filterMap_nil, List.getElem?_cons_zero, List.getElem?_cons_succ, Option.map_some]
  repeat (first | (refine m_float ⟨?_, .inl ⟨?_, .inl ?_⟩, fun K' hK => ?_⟩; rotate_left; (first | rfl | (go_simp; done)); (intro w' hS; subst hS; go_simp; try rfl); (simp only [Act.put, List.setIfInBounds_toArray, List.set_cons_succ, List.set_cons_zero]; refine hK _ ?_; clear hK K')) | (refine m_float ⟨undef, .inr ⟨?_, rfl⟩, fun K' hK => ?_⟩; (first | rfl | (go_simp; done)); (simp only [Act.put, List.setIfInBounds_toArray, List.set_cons_succ, List.set_cons_zero]; refine hK _ ?_; clear hK K')))
  refine m_nil ?_
  show wpList Try.prog _ _ (List.cons _ _) _ _
  go_wp2_with fail
  with_reducible refine (c1 _).mono ?_
  rintro e w1 ⟨rfl, hB⟩
  go_wp2
  go_ret
  exact ⟨rfl, drew_left hB⟩
theorem cmpI_pe {w : World} {g F1 F2 b off c : Nat} {tl : List Value} {l : List PE} {wide : Bool} (hl : l.length ≤ 2000) (hsz : ∀ e ∈ l, e.id.size < 2 ^ 31) (hrow : RowP w (some ⟨b, off, none⟩) l) (hbg : b ≠ g) (hn1 : F1 ≠ g) (hn2 : F2 ≠ g)
    (h1 : w.heap[F1]? = some (.cells #[.slice (some ⟨b, off, none⟩) l.length c] 44 (0, 0))) (h2 : w.heap[F2]? = some (.cells #[.bool wide] 4 (0, 0))) : CmpI (cfP l wide) (· < l.length) w g tl F1 F2 := fun W d x y hS hx hy => by
  refine pord1_ok b off c l wide F1 F2 x y W hx hy hl hsz ?_ ((hS.block F1 (lt_of_block h1) hn1).trans h1) ((hS.block F2 (lt_of_block h2) hn2).trans h2)
  intro k hk
  obtain ⟨b', off', e, hb, hc⟩ := hrow k hk
  simp only [Option.some.injEq, Addr.mk.injEq] at e
  obtain ⟨rfl, rfl, -⟩ := e
  have hcell : ∀ o, W.cell? ⟨b, o, none⟩ = w.cell? ⟨b, o, none⟩ := fun o => World.cell?_of_block (hS.block b hb hbg)
  exact ⟨b, off, rfl, Nat.lt_of_lt_of_le hb hS.size, (hcell _).trans hc.1, (hcell _).trans hc.2.1, (hcell _).trans hc.2.2⟩
/-- How a map of slices reads: by the values themselves. -/
def RVm (v : Value) : Option (DataW Value × List MemPlace) := some (.held v, [])
theorem keyLaw : Maps.Keyed Try.prog 3 := Maps.int_keyed Try.underlying3
theorem zeroInts (w : World) : (zeroValue 33).run Try.prog w = .ok (.slice none 0 0) w := by kernel_rfl
theorem keyI (j : Nat) (h : j ≤ 5000) : keyOf Try.prog 3 (.int .i64 (j : Int)) = some (.int .i64 (j : Int)) := Maps.keyOf_int_mk Try.underlying3 (WalkArith.wf_i64 (by omega))
/-- The map, where the first k entries are in it. -/
structure KS (w : World) (l : List PE) (b : Nat) (D : DataW Value) (vs : Nat → Value) (n k : Nat) (W : World) : Prop where
  own : W.ownsMap Try.prog 3 RVm b n D
  at_ : ∀ j, j ≤ l.length → D.atKey (.int .i64 (j : Int)) (.held (.slice none 0 0)) = .held (vs j)
  row : ∀ j, j ≤ l.length → W.ownsRow (b + 1) 3 1 (vs j) (kidsM l (k + 1) j).length (ints (kidsM l (k + 1) j))
  apart : ∀ i j, i ≤ l.length → j ≤ l.length → i ≠ j → (vs i).ownBlock = none ∨ (vs i).ownBlock ≠ (vs j).ownBlock
  bel : Below w.heap.size w W
  ge : w.heap.size ≤ b
theorem KS.other {w : World} {l : List PE} {b n k : Nat} {D : DataW Value} {vs : Nat → Value} {W W' : World} (h : KS w l b D vs n k W) (B : Below W.heap.size W W') : KS w l b D vs n k W' :=
  ⟨by
    obtain ⟨es, clock, hb, rest⟩ := h.own
    exact ⟨es, clock, (B.block _ (lt_of_block hb)).trans hb, rest⟩, h.at_, fun j hj => own_keep (h.row j hj) B, h.apart, bthen h.bel B, h.ge⟩
theorem KS.look {w : World} {l : List PE} {b n k : Nat} {D : DataW Value} {vs : Nat → Value} {W : World} (h : KS w l b D vs n k W) (j : Nat) (hj : j ≤ l.length) (hl : l.length ≤ 2000) : (Instr.lookup 93 (.map (some b)) (.int .i64 (j : Int)) false).run Try.prog W = .ok (vs j) W := by
  obtain ⟨v, ps, hrun, hv⟩ := h.own.lookup keyLaw Try.underlying93 (zeroInts W) (zd := .held (.slice none 0 0)) (zp := []) rfl (keyI j (by omega))
  rw [h.at_ j hj] at hv
  simp only [RVm, Option.some.injEq, Prod.mk.injEq, DataW.held.injEq] at hv
  rw [hrun, hv.1]
end Go.Proofs.Ytnmlephjhcmbhaa
