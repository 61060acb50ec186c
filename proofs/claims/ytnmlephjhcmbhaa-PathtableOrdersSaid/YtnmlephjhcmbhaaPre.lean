/- The reference's level; an append that cannot stay in its row. -/
import Derived.Test.YtnmlephjhcmbhaaPra
import Derived.Test.YtnmlephjhcmbhaaNd
import Derived.Maps.AppendAt
namespace Go.Proofs.Ytnmlephjhcmbhaa
set_option linter.unusedSimpArgs false
set_option linter.unusedVariables false
open Go Go.RowKit
theorem run_append_cut {P : Program} (w : World) (base : Nat) (t ty e : TypeId) (i : TypeInfo) (z : Value) (size bytes : Nat) (ht : P.underlying t = some (.slice e)) (hi : P.info? e = some i) (hz : i.zero = some z)
    (hsize : i.size = size) (hby : i.bytes = bytes) (hzs : z.cells.size = size) (hsz : 0 < size)
    (s : Addr) (n cap : Nat) (xs : List Value) (hxl : xs.length = n * size) (hxs : ∀ j u, xs[j]? = some u → w.cell? (s.add j) = some u)
    (a : Addr) (m c : Nat) (news : List Value) (hl : news.length = m * size) (hnews : ∀ j u, news[j]? = some u → w.cell? (a.add j) = some u)
    (hgrow : cap < n + m) (h63 : n + m ≤ maxLen) (hbytes : (n + m) * bytes ≤ 140737488355328) (hbase : base ≤ w.heap.size) :
    ∃ cap' w', (Builtin.append_ #[t, t] ty #[.slice (some s) n cap, .slice (some a) m c]).run P w = .ok (.slice (some ⟨w.heap.size, 0, none⟩) (n + m) cap') w' ∧ w'.ownsRow base e size (.slice (some ⟨w.heap.size, 0, none⟩) (n + m) cap') (n + m) (xs ++ news) ∧ Below w.heap.size w w' := by
  subst hsize
  subst hby
  have hsmall : n + m ≤ 9223372036854775807 := by simp only [maxLen] at h63; omega
  have hlen : (xs ++ news).length = (n + m) * i.size := by rw [List.length_append, hxl, hl, Nat.add_mul]
  have hge := grownCap_ge w (n + m) cap e
  have hcm : grownCap w (n + m) cap e ≤ maxLen := grownCap_le_maxLen w (n + m) cap e h63
  have hr := run_append_grow (P := P) w t ty e i z ht hi hz s n cap xs hxl hxs a m c news hl hnews (by omega) (by omega) (growslice_fits (by omega) hbytes)
  refine ⟨_, _, hr, ⟨hlen, .inr ⟨w.heap.size, _, _, rfl, hbase, heap_alloc_new w.drew _, hge, hcm, ?_, ?_⟩⟩, (Below.refl _ w).drew.alloc (Nat.le_refl _) _⟩
  · simp only [Array.size_append, List.size_toArray, size_zeroCells, hzs, hxl, hl, ← Nat.add_mul]
    congr 1
    omega
  · simp only [Array.toList_append, List.append_assoc]
    rw [← List.append_assoc, ← hlen]
    exact List.take_left
theorem wpList_append_cut {P : Program} {w : World} {ops : Array Oper} {rest : List Oper} {o : Oper} {a : Act} {Q : Exit → Act → World → Prop} (hgd : o.guard = none) (s x : Operand) (t : TypeId)
    (ho : o.op = .call { callee := .builtin .append, args := #[s, x], argTypes := #[t, t] })
    (base : Nat) (e : TypeId) (i : TypeInfo) (z : Value) (size bytes : Nat) (ht : P.underlying t = some (.slice e)) (hi : P.info? e = some i) (hz : i.zero = some z)
    (hsize : i.size = size) (hby : i.bytes = bytes) (hzs : z.cells.size = size) (hsz : 0 < size)
    (sd : Addr) (n cap : Nat) (xs : List Value) (hs : a.eval s = .slice (some sd) n cap) (hxl : xs.length = n * size) (hxs : ∀ j u, xs[j]? = some u → w.cell? (sd.add j) = some u)
    (ad : Addr) (m c : Nat) (news : List Value) (hx : a.eval x = .slice (some ad) m c) (hl : news.length = m * size) (hnews : ∀ j u, news[j]? = some u → w.cell? (ad.add j) = some u)
    (hgrow : cap < n + m) (h63 : n + m ≤ maxLen) (hbytes : (n + m) * bytes ≤ 140737488355328) (hbase : base ≤ w.heap.size)
    (h : ∀ cap' w', w'.ownsRow base e size (.slice (some ⟨w.heap.size, 0, none⟩) (n + m) cap') (n + m) (xs ++ news) → Below w.heap.size w w' → wpList P ops Q rest (a.put o.dst (.slice (some ⟨w.heap.size, 0, none⟩) (n + m) cap')) w') :
    wpList P ops Q (o :: rest) a w := by
  refine wpList_plain hgd fun K hK => ?_
  obtain ⟨cap', w', hr, h2, h3⟩ := run_append_cut (P := P) w base t o.type e i z size bytes ht hi hz hsize hby hzs hsz sd n cap xs hxl hxs ad m c news hl hnews hgrow h63 hbytes hbase
  unfold Oper.wp execOp
  simp only [ho, resolve, invoke, builtin, Sem.run_bind, Sem.run_pure, Result.andThen_ok, List.map_toArray, List.map_cons, List.map_nil, hs, hx, hr]
  exact hK _ _ (h cap' w' h2 h3)
set_option maxRecDepth 100000 in
set_option maxHeartbeats 1000000 in
theorem level_ok (b off c : Nat) (l : List PE) (i : Nat) (w : World) (hl : l.length ≤ 2000) (hrow : RowP w (some ⟨b, off, none⟩) l) (hi : i < l.length) (hg : OGd l) :
    Calls Try.prog 79 #[.slice (some ⟨b, off, none⟩) l.length c, cN (i : Int)] w fun e w' => ∃ v : Int, e = .returned (cN v) ∧ reachB l l.length i = decide (0 ≤ v) ∧ w = w' := by
  have HR := Lib.hid hrow
  have HG := Lib.hid hg
  clear hrow hg
  go_enter Try.func79, Try.ntmps79
  go_wp2
  go_loopw [5, 1] (fun n iv wr => ∃ k j : Nat, n = cN k ∧ iv = cN j ∧ k ≤ l.length + 1 ∧ j < l.length ∧ reachB l l.length i = (if k ≤ l.length then reachB l (l.length - k) j else false) ∧ wr = w) (fun n _ _ => l.length + 1 - (intOf n).toNat)
  case atStart => exact ⟨0, i, rfl, rfl, Nat.zero_le _, hi, by simp, rfl⟩
  case round =>
    obtain ⟨k, j, rfl, rfl, hk, hj, hE, rfl⟩ := hrel
    have HE := Lib.hid hE
    clear hE
    by_cases hlt : (k : Int) ≤ (l.length : Int)
    · have hkl : k ≤ l.length := by omega
      by_cases hj0 : j = 0
      · subst hj0
        have g1 : (((0 : Nat) : Int) == 0) = true := rfl
        have HN : Hid (reachB l l.length i = true) := Lib.hid (by rw [HE.out, if_pos hkl, reach_zero])
        go_wp2
        go_ret
        exact ⟨_, rfl, by rw [HN.out, decide_eq_true (by omega)], by trivial⟩
      · have g1 : ((j : Int) == 0) = false := beq_eq_false_iff_ne.2 (by omega)
        obtain ⟨b', off', e', hb, hc⟩ := HR.out j hj
        simp only [Option.some.injEq, Addr.mk.injEq] at e'
        obtain ⟨rfl, rfl, -⟩ := e'
        have hp := HG.out.par hj
        obtain ⟨x, hx⟩ : ∃ x, l.getD j peD = x := ⟨_, rfl⟩
        rw [hx] at hc hp
        obtain ⟨q0, q1, q2⟩ := hc
        obtain ⟨p, hpp⟩ : ∃ p : Nat, x.par = ((p + 1 : Nat) : Int) := ⟨x.par.toNat - 1, by omega⟩
        rw [hpp] at q2 hp
        have hpl : p < l.length := by omega
        have HN : Hid (reachB l l.length i = (if k + 1 ≤ l.length then reachB l (l.length - (k + 1)) p else false)) := Lib.hid (by
          rw [HE.out, if_pos hkl]
          by_cases hk1 : k + 1 ≤ l.length
          · rw [if_pos hk1, show l.length - k = l.length - (k + 1) + 1 by omega, reachB, hx, hpp, Int.toNat_natCast, Nat.add_sub_cancel]
            simp [hj0]
          · rw [if_neg hk1, show l.length - k = 0 by omega, reachB]
            simp [hj0])
        have e1 : (((p + 1 : Nat) : Int) - 1) = (p : Int) := by omega
        have hwp : IntKind.i64.wrap (p : Int) = (p : Int) := by rw [IntKind.wrap_i64]; omega
        have hji : (j : Int) < (l.length : Int) := by omega
        clear hx hpp hp
        go_wp2
        go_roundw
        case rel => exact ⟨k + 1, p, by go_num, by go_num, by omega, hpl, HN.out, by trivial⟩
        case measure => simp [intOf]; omega
    · have HN : Hid (reachB l l.length i = false) := Lib.hid (by rw [HE.out, if_neg (by omega)])
      go_wp2
      go_ret
      exact ⟨-1, rfl, by rw [HN.out]; rfl, by trivial⟩
end Go.Proofs.Ytnmlephjhcmbhaa
