/- The reference's Sort. -/
import Derived.Test.YtnmlephjhcmbhaaGreatGkl
import Derived.Test.YtnmlephjhcmbhaaGreatDlc
import Derived.Test.YtnmlephjhcmbhaaGreatDkt
import Derived.Maps.AppendAt
namespace Go.Proofs.YtnmlephjhcmbhaaGreat
set_option linter.unusedSimpArgs false
set_option linter.unusedVariables false
open Go Go.RowKit
theorem run_append_cut {P : Program} (w : World) (base : Nat) (t ty e : TypeId) (i : TypeInfo) (z : Value) (size bytes : Nat) (ht : P.underlying t = some (.slice e)) (hi : P.info? e = some i) (hz : i.zero = some z)
    (hsize : i.size = size) (hby : i.bytes = bytes) (hzs : z.cells.size = size) (hsz : 0 < size)
    (s : Addr) (n cap : Nat) (xs : List Value) (hxl : xs.length = n * size) (hxs : ∀ j u, xs[j]? = some u → w.cell? (s.add j) = some u)
    (a : Addr) (m c : Nat) (news : List Value) (hl : news.length = m * size) (hnews : ∀ j u, news[j]? = some u → w.cell? (a.add j) = some u)
    (hgrow : cap < n + m) (h63 : n + m ≤ maxLen) (hbytes : (n + m) * bytes ≤ 140737488355328) (hbase : base ≤ w.heap.size) :
    ∃ cap' w', (Builtin.append_ #[t, t] ty #[.slice (some s) n cap, .slice (some a) m c]).run P w = .ok (.slice (some ⟨w.heap.size, 0, none⟩) (n + m) cap') w' ∧ w'.ownsRow base e size (.slice (some ⟨w.heap.size, 0, none⟩) (n + m) cap') (n + m) (xs ++ news) ∧ Below w.heap.size w w' := by
  subst hsize
  subst hby
  have hsmall : n + m ≤ 9223372036854775807 := by simp only [maxLen] at h63; omega
  have hlen : (xs ++ news).length = (n + m) * i.size := by rw [List.length_append, hxl, hl, Nat.add_mul]
  have hge := grownCap_ge w (n + m) cap e
  have hcm : grownCap w (n + m) cap e ≤ maxLen := grownCap_le_maxLen w (n + m) cap e h63
  have hr := run_append_grow (P := P) w t ty e i z ht hi hz s n cap xs hxl hxs a m c news hl hnews (by omega) (by omega) (growslice_fits (by omega) hbytes)
  refine ⟨_, _, hr, ⟨hlen, .inr ⟨w.heap.size, _, _, rfl, hbase, heap_alloc_new w.drew _, hge, hcm, ?_, ?_⟩⟩, (Below.refl _ w).drew.alloc (Nat.le_refl _) _⟩
  · simp only [Array.size_append, List.size_toArray, size_zeroCells, hzs, hxl, hl, ← Nat.add_mul]
    congr 1
    omega
  · simp only [Array.toList_append, List.append_assoc]
    rw [← List.append_assoc, ← hlen]
    exact List.take_left
theorem wpList_append_cut {P : Program} {w : World} {ops : Array Oper} {rest : List Oper} {o : Oper} {a : Act} {Q : Exit → Act → World → Prop} (hgd : o.guard = none) (s x : Operand) (t : TypeId)
    (ho : o.op = .call { callee := .builtin .append, args := #[s, x], argTypes := #[t, t] })
    (base : Nat) (e : TypeId) (i : TypeInfo) (z : Value) (size bytes : Nat) (ht : P.underlying t = some (.slice e)) (hi : P.info? e = some i) (hz : i.zero = some z)
    (hsize : i.size = size) (hby : i.bytes = bytes) (hzs : z.cells.size = size) (hsz : 0 < size)
    (sd : Addr) (n cap : Nat) (xs : List Value) (hs : a.eval s = .slice (some sd) n cap) (hxl : xs.length = n * size) (hxs : ∀ j u, xs[j]? = some u → w.cell? (sd.add j) = some u)
    (ad : Addr) (m c : Nat) (news : List Value) (hx : a.eval x = .slice (some ad) m c) (hl : news.length = m * size) (hnews : ∀ j u, news[j]? = some u → w.cell? (ad.add j) = some u)
    (hgrow : cap < n + m) (h63 : n + m ≤ maxLen) (hbytes : (n + m) * bytes ≤ 140737488355328) (hbase : base ≤ w.heap.size)
    (h : ∀ cap' w', w'.ownsRow base e size (.slice (some ⟨w.heap.size, 0, none⟩) (n + m) cap') (n + m) (xs ++ news) → Below w.heap.size w w' → wpList P ops Q rest (a.put o.dst (.slice (some ⟨w.heap.size, 0, none⟩) (n + m) cap')) w') :
    wpList P ops Q (o :: rest) a w := by
  refine wpList_plain hgd fun K hK => ?_
  obtain ⟨cap', w', hr, h2, h3⟩ := run_append_cut (P := P) w base t o.type e i z size bytes ht hi hz hsize hby hzs hsz sd n cap xs hxl hxs ad m c news hl hnews hgrow h63 hbytes hbase
  unfold Oper.wp execOp
  simp only [ho, resolve, invoke, builtin, Sem.run_bind, Sem.run_pure, Result.andThen_ok, List.map_toArray, List.map_cons, List.map_nil, hs, hx, hr]
  exact hK _ _ (h cap' w' h2 h3)
theorem rcmp_gt (a b : List UInt8) (wide : Bool) : 0 < rcmpM a b wide ↔ 0 < cmpM a b wide := by
  have h := rcmp_sgn a b wide
  unfold sgn at h
  split at h <;> split at h <;> omega
theorem tagL_snoc : ∀ (l : List Rec) (j : Nat) (r : Rec), tagL j (l ++ [r]) = tagL j l ++ [(r, j + l.length)]
  | [], j, r => rfl
  | x :: l, j, r => by
    rw [List.cons_append, tagL, tagL, tagL_snoc l (j + 1) r, List.cons_append, List.length_cons, show j + 1 + l.length = j + (l.length + 1) by omega]
theorem tagL_lt : ∀ (l : List Rec) (j : Nat), ∀ t ∈ tagL j l, t.2 < j + l.length
  | [], _, t, h => by cases h
  | r :: l, j, t, h => by
    rcases List.mem_cons.1 h with rfl | h
    · simp
    · have := tagL_lt l (j + 1) t h
      simp
      omega
theorem take_snoc {l : List Rec} {k : Nat} (h : k < l.length) : l.take (k + 1) = l.take k ++ [l.getD k recD] := by
  rw [List.take_add_one, List.getElem?_eq_getElem h, List.getD_eq_getElem?_getD, List.getElem?_eq_getElem h]
  rfl
theorem grd {l : List Rec} {k : Nat} (h : k < l.length) : l.getD k recD ∈ l := by
  rw [List.getD_eq_getElem?_getD, List.getElem?_eq_getElem h, Option.getD_some]
  exact List.getElem_mem h
/-- A record more, put where it belongs. -/
theorem ins_atT {cf : Rec → Rec → Int} (h : CmpOk cf) {m : List TR} {x : TR} {t : Nat} (hs : m.Pairwise (ltT cf)) (hlt : ∀ y ∈ m, y.2 < x.2) (hb : t = 0 ∨ ∃ y, m[t - 1]? = some y ∧ cf y.1 x.1 ≤ 0) (ha : ∀ s y, t ≤ s → m[s]? = some y → 0 < cf y.1 x.1) :
    (m.take t ++ x :: m.drop t).Pairwise (ltT cf) := by
  have hsp : m = m.take t ++ m.drop t := (List.take_append_drop t m).symm
  have hs0 := hs
  rw [hsp, List.pairwise_append] at hs
  have hlow : ∀ y ∈ m.take t, ltT cf y x := fun y hy => by
    obtain ⟨s, hsl, e⟩ := List.getElem_of_mem hy
    rw [List.length_take] at hsl
    rw [List.getElem_take] at e
    rcases hb with h0 | ⟨z, hz, hb⟩
    · omega
    · obtain ⟨hzl, ez⟩ := List.getElem?_eq_some_iff.1 hz
      have hlast : ltT cf z x := by
        rcases Int.lt_or_eq_of_le hb with q | q
        · exact .inl q
        · exact .inr ⟨q, hlt _ (List.mem_of_getElem? hz)⟩
      by_cases hst : s = t - 1
      · subst hst
        rw [← e, ez]
        exact hlast
      · have h9 := List.pairwise_iff_getElem.1 hs0 s (t - 1) (by omega) hzl (by omega)
        rw [e, ez] at h9
        exact ltT_trans h h9 hlast
  have hhigh : ∀ y ∈ m.drop t, ltT cf x y := fun y hy => by
    obtain ⟨s, hsl, e⟩ := List.getElem_of_mem hy
    rw [List.length_drop] at hsl
    rw [List.getElem_drop] at e
    have := ha (t + s) y (by omega) (by rw [List.getElem?_eq_getElem (by omega), e])
    have sw := h.swap x.1 y.1
    exact .inl (by omega)
  rw [List.pairwise_append, List.pairwise_cons]
  refine ⟨hs.1, ⟨hhigh, hs.2.1⟩, fun a hx b hy => ?_⟩
  rcases List.mem_cons.1 hy with rfl | hy
  · exact hlow a hx
  · exact hs.2.2 a hx b hy
theorem flat_split (m : List TR) (t : Nat) : flatR (recsT m) = flatR (recsT (m.take t)) ++ flatR (recsT (m.drop t)) := by
  rw [← flatR_append, ← recsT_app, List.take_append_drop]
set_option maxRecDepth 100000 in
set_option maxHeartbeats 8000000 in
theorem rsort_ok (a : Option Addr) (c : Nat) (l : List Rec) (wide : Bool) (w : World) (hn : l.length ≤ 40) (hP : ∀ r ∈ l, r.id.size < 2 ^ 30) (hrow : RowR w a l) :
    Calls Tryz.prog 18 #[.slice a l.length c, .bool wide] w (SoEnd (cfW wide) w l) := by
  obtain ⟨j0, hj, ky0, ky1, ky2⟩ := info_parts recInfo
  have HP := Lib.hid hP
  have HROW := Lib.hid hrow
  have HCF := Lib.hid (cfW_ok wide)
  clear hP hrow
  go_enter Tryz.func18, Tryz.ntmps18
  go_wp2
  go_loopw [6, 5, 7] (fun i v _ wr => ∃ (k : Nat) (m : List TR) (g cap : Nat), i = cN k ∧ k ≤ l.length ∧ m.Perm (tagL 0 (l.take k)) ∧ m.Pairwise (ltT (cfW wide)) ∧ v = .slice (some ⟨g, 0, none⟩) m.length cap ∧ wr.ownsRow w.heap.size 45 8 v m.length (flatR (recsT m)) ∧ Below w.heap.size w wr) (fun i _ _ _ => l.length - (intOf i).toNat)
  case atStart => exact ⟨0, [], w.heap.size, 0, rfl, Nat.zero_le _, List.Perm.refl _, List.Pairwise.nil, rfl, ⟨rfl, .inr ⟨w.heap.size, 0, _, rfl, Nat.le_refl _, World.alloc_heap_new w _, Nat.le_refl _, by unfold maxLen; omega, rfl, rfl⟩⟩, bald (Below.refl _ w) _⟩
  case round =>
    obtain ⟨k, m, g, cap, rfl, hk, hpm, hpw, rfl, ho, hB⟩ := hrel
    have HKM := Lib.hid ho
    have HB := Lib.hid hB
    have HPM := Lib.hid hpm
    have HPW := Lib.hid hpw
    have hml : m.length = k := by rw [hpm.length_eq, tagL_len, List.length_take]; omega
    have hcapm : m.length ≤ cap ∧ cap ≤ maxLen := by
      rcases ho.2 with ⟨e, -⟩ | ⟨g', cap', cur', e, -, -, h1, h2, -, -⟩
      · simp at e
      · simp at e
        rw [e.2]
        exact ⟨h1, h2⟩
    have hgl := (ho.lt g rfl).2
    have hws := hB.size
    have hm40 : m.length ≤ 40 := by omega
    by_cases hlt : (k : Int) < (l.length : Int)
    · have hkl : k < l.length := by omega
      obtain ⟨b, off, rfl, hb, hc⟩ := HROW.out k hkl
      obtain ⟨x, hx⟩ : ∃ x, l.getD k recD = x := ⟨_, rfl⟩
      rw [hx] at hc
      have HX := Lib.hid hx
      have hzx : x.id.size < 2 ^ 30 := by rw [← hx]; exact HP.out _ (grd hkl)
      have hcl : ∀ W, Below wr.heap.size wr W → CellsR W b (off + k * 8) x := fun W hW => hc.below hb (bthen HB.out hW)
      have CL := Lib.hid hcl
      have HNP : Hid (∀ t, (m.take t ++ (x, k) :: m.drop t).Perm (tagL 0 (l.take (k + 1)))) := Lib.hid fun t => by
        rw [take_snoc hkl, tagL_snoc, hx, List.length_take, show 0 + min k l.length = k by omega]
        have e := List.perm_middle (a := (x, k)) (l₁ := m.take t) (l₂ := m.drop t)
        rw [List.take_append_drop] at e
        exact (e.trans (HPM.out.cons _)).trans (List.perm_append_singleton _ _).symm
      have HTAG : Hid (∀ y ∈ m, y.2 < k) := Lib.hid fun y hy => by
        have := tagL_lt (l.take k) 0 y (HPM.out.mem_iff.1 hy)
        rw [List.length_take] at this
        omega
      have HMEM : Hid (∀ y ∈ m, y.1 ∈ l) := Lib.hid fun y hy => List.mem_of_mem_take (tagL_mem (HPM.out.mem_iff.1 hy))
      have HML := Lib.hid hml
      clear ho hB hpm hpw hc hx hcl hml
      generalize hwg : wr = wg at *
      clear hwg
      go_wp2
      go_loopw [7] (fun i wq => ∃ t, i = cN (t : Nat) ∧ t ≤ m.length ∧ (∀ s y, t ≤ s → m[s]? = some y → 0 < cfW wide y.1 x) ∧ Below wg.heap.size wg wq) (fun i _ => (intOf i).toNat)
      case atStart => exact ⟨m.length, rfl, Nat.le_refl _, fun s y h1 h2 => by have := (List.getElem?_eq_some_iff.1 h2).1; omega, Below.refl _ wg⟩
      case round =>
        obtain ⟨t, rfl, htm, hall, hB8⟩ := hrel
        have HT8 := Lib.hid hall
        have HB8 := Lib.hid hB8
        clear hall hB8
        rcases Nat.eq_zero_or_pos t with ht0 | ht0
        · have HINS : Hid ((m.take t ++ (x, k) :: m.drop t).Pairwise (ltT (cfW wide))) := Lib.hid (ins_atT HCF.out HPW.out HTAG.out (.inl ht0) HT8.out)
          have g4 : ¬ (0 : Int) < (t : Int) := by omega
          have g4n : ¬ 0 < t := by omega
          have g4d : decide ((0 : Int) < (t : Int)) = false := decide_eq_false g4
          have g4m : decide (0 < t) = false := decide_eq_false g4n
          clear ht0
          go_wp2
          refine region_sch (fun W => Below wg.heap.size wg W) [(true, 0), (true, 1), (true, 2), (true, 3), (true, 4), (true, 5), (true, 6), (true, 7), (true, 8), (true, 9), (true, 10), (true, 11), (true, 12), (true, 13), (true, 14)] [15, 16, 17] (by kernel_rfl) (by kernel_rfl) (by rintro ⟨_, _, h⟩; obtain ⟨v, d, h, -⟩ := h; cases h) (fun _ _ d _ _ h => by cases d <;> exact h) HB8.out.drew ?_
          simp only [pickM, pickT, List.filterMap_cons, List.filterMap_nil, List.getElem?_cons_zero, List.getElem?_cons_succ, Option.map_some]
          repeat (first | (refine m_float ⟨?_, .inl ⟨?_, .inl ?_⟩, fun K' hK => ?_⟩; rotate_left; (first | rfl | (go_simp; done)); (intro w' hS; clear hS; go_simp; try rfl); (simp only [Act.put, List.setIfInBounds_toArray, List.set_cons_succ, List.set_cons_zero]; refine hK _ ?_; clear hK K')) | (refine m_float ⟨undef, .inr ⟨?_, rfl⟩, fun K' hK => ?_⟩; (first | rfl | (go_simp; done)); (simp only [Act.put, List.setIfInBounds_toArray, List.set_cons_succ, List.set_cons_zero]; refine hK _ ?_; clear hK K')))
          refine m_nil ?_
          show wpList Tryz.prog _ _ (List.cons _ _) _ _
          go_wp2
          clear g4 g4n g4d g4m
          have HBW : Hid (Below wg.heap.size wg (World.drew wr)) := Lib.hid HB8.out.drew
          have HKW : Hid (World.ownsRow (World.drew wr) w.heap.size 45 8 (.slice (some ⟨g, 0, none⟩) m.length cap) m.length (flatR (recsT m))) := Lib.hid (own_keepS HKM.out HBW.out)
          have hgW : g < ((World.drew wr)).heap.size := (HKW.out.lt g rfl).2
          have hwW : w.heap.size ≤ ((World.drew wr)).heap.size := by
            have h1 := HBW.out.size
            omega
          generalize hW0 : (World.drew wr) = W0 at *
          clear hW0
          have hMi : (m.length : Int) ≤ (cap : Int) := by omega
          have hti : (t : Int) ≤ (m.length : Int) := by omega
          have htc : (t : Int) ≤ (cap : Int) := by omega
          have htc2 : t ≤ cap := by omega
          by_cases hct : cap = t
          · have hMt : m.length = t := by omega
            have hdr : m.drop t = [] := List.drop_eq_nil_of_le (by omega)
            have hcell : ∀ W, Below W0.heap.size W0 W → ∀ j u, (flatR (recsT (m.drop t)))[j]? = some u → W.cell? ((⟨g, 0, none⟩ : Addr).add j) = some u := fun W hW j u h => by
              rw [hdr] at h
              simp [flatR, recsT] at h
            have HCELL := Lib.hid hcell
            have hnlt : ¬ t < cap := by omega
            have hnlti : ¬ (t : Int) < (cap : Int) := by omega
            have HMT := Lib.hid hMt
            clear hdr hcell hMt
            have htake : ∀ W, Below W0.heap.size W0 W → ∀ j u, (flatR (recsT (m.take t)))[j]? = some u → W.cell? ((⟨g, 0, none⟩ : Addr).add j) = some u := fun W hW j u h => by
              rw [add_none, Nat.zero_add]
              have hj := (List.getElem?_eq_some_iff.1 h).1
              have := HKW.out.cells (g := g) rfl j u (by rw [flat_split m t, List.getElem?_append_left hj]; exact h)
              rw [add_none, Nat.zero_add] at this
              exact (hW.cell (p := ⟨g, j, none⟩) hgW).trans this
            have HTAKE := Lib.hid htake
            have hnw : (W0.alloc (.cells (recA x) 45)).drew.ownsRow w.heap.size 45 8 (.slice (some ⟨W0.heap.size, 0, none⟩) 1 1) 1 (recA x).toList := ⟨rfl, .inr ⟨W0.heap.size, 1, _, rfl, hwW, World.alloc_heap_new W0 _, Nat.le_refl _, by unfold maxLen; omega, rfl, rfl⟩⟩
            have HNW := Lib.hid hnw
            have hb8 : Below W0.heap.size W0 (W0.alloc (.cells (recA x) 45)).drew := bald (Below.refl _ W0).drew _
            have HB8b := Lib.hid hb8
            clear htake hnw hb8
            refine region_sch (fun W' => Below W0.heap.size W0 W') [(true, 0), (true, 1), (true, 2), (true, 3), (true, 4), (true, 5), (true, 6), (true, 7), (true, 9), (true, 10), (true, 11), (false, 8), (false, 12)] [13, 14] (by kernel_rfl) (by kernel_rfl) (by rintro ⟨_, _, h⟩; obtain ⟨v, d, h, -⟩ := h; cases h) (fun _ _ d _ _ h => by cases d <;> exact h) (Below.refl _ W0).drew ?_
            simp only [pickM, pickT, List.filterMap_cons, List.filterMap_nil, List.getElem?_cons_zero, List.getElem?_cons_succ, Option.map_some]
            repeat (first | (refine m_float ⟨?_, .inl ⟨?_, .inl ?_⟩, fun K' hK => ?_⟩; rotate_left; (first | rfl | (go_simp; done)); (intro w' hS; (obtain ⟨q0, q1, q2, q3, q4, q5, q6, q7⟩ := CL.out _ (bthen HBW.out hS); clear hS); go_simp; try rfl); (simp only [Act.put, List.setIfInBounds_toArray, List.set_cons_succ, List.set_cons_zero]; refine hK _ ?_; clear hK K')) | (refine m_float ⟨undef, .inr ⟨?_, rfl⟩, fun K' hK => ?_⟩; (first | rfl | (go_simp; done)); (simp only [Act.put, List.setIfInBounds_toArray, List.set_cons_succ, List.set_cons_zero]; refine hK _ ?_; clear hK K')))
            refine m_loud ?_ (fun K' hK => ?_)
            · rintro ⟨_, _, h⟩; obtain ⟨v, d, h, -⟩ := h; cases h
            go_wp2
            refine hK _ _ HB8b.out ?_
            clear hK K'
            repeat (first | (refine m_float ⟨?_, .inl ⟨?_, .inl ?_⟩, fun K' hK => ?_⟩; rotate_left; (first | rfl | (go_simp; done)); (intro w' hS; skip; go_simp; try rfl); (simp only [Act.put, List.setIfInBounds_toArray, List.set_cons_succ, List.set_cons_zero]; refine hK _ ?_; clear hK K')) | (refine m_float ⟨undef, .inr ⟨?_, rfl⟩, fun K' hK => ?_⟩; (first | rfl | (go_simp; done)); (simp only [Act.put, List.setIfInBounds_toArray, List.set_cons_succ, List.set_cons_zero]; refine hK _ ?_; clear hK K')))
            refine m_loud ?_ (fun K' hK => ?_)
            · rintro ⟨_, _, h⟩; obtain ⟨v, d, h, -⟩ := h; cases h
            go_wp2_with (at_builtin; refine wpList_append_own_at _ rfl _ _ 26 rfl w.heap.size 45 j0 (.agg #[.string ByteArray.empty, .int .i64 0, .int .i64 0, .int .i64 0, .int .i64 0, .int .i64 0, .int .i64 0, .string ByteArray.empty]) 8 80 Tryz.underlying26 hj ky0 ky1 ky2 rfl (by decide) _ _ _ rfl HNW.out ⟨g, 0, none⟩ (m.length - t) _ (flatR (recsT (m.drop t))) rfl (by rw [flatR_len, recsT_len, List.length_drop]) ?c1 ?c2 ?c3 ?c4 ?c5 ?_)
            case c1 => first | exact HCELL.out _ HB8b.out | (intro j u h; have hh := HCELL.out _ HB8b.out j u h; rw [add_none] at hh; first | exact hh | (rw [add_none]; exact hh) | (rw [Nat.zero_add] at hh; exact hh))
            case c2 => exact flatR_cell _
            case c3 => unfold maxLen; omega
            case c4 => omega
            case c5 => first | omega | (simp; omega)
            intro v11 w11 ho11 hg11 hnn11 _
            have hb11 : Below W0.heap.size W0 w11 := HB8b.out.grown hg11 HB8b.out.size (fun k e => by simp [Value.ownBlock] at e; omega)
            rcases ho11.2 with ⟨-, h0⟩ | ⟨g11, cap11, cur11, hv11, -⟩
            · omega
            have hc11 := ho11.cells (g := g11) (by rw [hv11]; rfl)
            subst hv11
            have HC11 := Lib.hid hc11
            have HB11 := Lib.hid hb11
            clear ho11 hg11 hnn11 hb11 hc11
            go_wp2
            refine hK _ _ HB11.out ?_
            clear hK K'
            repeat (first | (refine m_float ⟨?_, .inl ⟨?_, .inl ?_⟩, fun K' hK => ?_⟩; rotate_left; (first | rfl | (go_simp; done)); (intro w' hS; skip; go_simp; try rfl); (simp only [Act.put, List.setIfInBounds_toArray, List.set_cons_succ, List.set_cons_zero]; refine hK _ ?_; clear hK K')) | (refine m_float ⟨undef, .inr ⟨?_, rfl⟩, fun K' hK => ?_⟩; (first | rfl | (go_simp; done)); (simp only [Act.put, List.setIfInBounds_toArray, List.set_cons_succ, List.set_cons_zero]; refine hK _ ?_; clear hK K')))
            refine m_nil ?_
            show wpList Tryz.prog _ _ (List.cons _ _) _ _
            go_wp2_with (at_builtin; refine wpList_append_cut rfl _ _ 26 rfl w.heap.size 45 j0 (.agg #[.string ByteArray.empty, .int .i64 0, .int .i64 0, .int .i64 0, .int .i64 0, .int .i64 0, .int .i64 0, .string ByteArray.empty]) 8 80 Tryz.underlying26 hj ky0 ky1 ky2 rfl (by decide) ⟨g, 0, none⟩ t t (flatR (recsT (m.take t))) rfl (by rw [flatR_len, recsT_len, List.length_take]; congr 1; omega) (HTAKE.out _ HB11.out) ⟨g11, 0, none⟩ (1 + (m.length - t)) cap11 ((recA x).toList ++ flatR (recsT (m.drop t))) rfl (by rw [List.length_append, flatR_len, recsT_len, List.length_drop, Nat.add_mul]; rfl) HC11.out (by omega) (by unfold maxLen; omega) (by omega) (by have := HB11.out.size; omega) ?_)
            intro cap12 w12 ho12 hB12
            have HLEN : Hid (t + (1 + (m.length - t)) = (m.take t ++ (x, k) :: m.drop t).length) := Lib.hid (by simp; omega)
            have HFLAT : Hid (flatR (recsT (m.take t)) ++ ((recA x).toList ++ flatR (recsT (m.drop t))) = flatR (recsT (m.take t ++ (x, k) :: m.drop t))) := Lib.hid (by rw [recsT_app, flatR_append]; rfl)
            have HO12 := Lib.hid ho12
            have HB12 : Hid (Below w.heap.size w w12) := Lib.hid (bthen HB.out (bthen HBW.out (bthen HB11.out hB12)))
            clear ho12 hB12
            go_wp2
            go_roundw
            case rel => exact ⟨k + 1, m.take t ++ (x, k) :: m.drop t, w11.heap.size, cap12, by go_num, by omega, HNP.out t, HINS.out, by rw [← HLEN.out], by rw [← HLEN.out, ← HFLAT.out]; exact HO12.out, HB12.out⟩
            case measure => simp [intOf] <;> omega
          · have hlt9 : t < cap := by omega
            have hlt9i : (t : Int) < (cap : Int) := by omega
            have hcell : ∀ W, Below W0.heap.size W0 W → ∀ j u, (flatR (recsT (m.drop t)))[j]? = some u → W.cell? ((⟨g, t * 8, none⟩ : Addr).add j) = some u := fun W hW j u h => by
              rw [add_none]
              have hl : (flatR (recsT (m.take t))).length = t * 8 := by rw [flatR_len, recsT_len, List.length_take]; congr 1; omega
              have := HKW.out.cells (g := g) rfl (t * 8 + j) u (by rw [flat_split m t, List.getElem?_append_right (by omega), hl, Nat.add_sub_cancel_left]; exact h)
              rw [add_none, Nat.zero_add] at this
              exact (hW.cell (p := ⟨g, t * 8 + j, none⟩) hgW).trans this
            have HCELL := Lib.hid hcell
            clear hcell
            have htake : ∀ W, Below W0.heap.size W0 W → ∀ j u, (flatR (recsT (m.take t)))[j]? = some u → W.cell? ((⟨g, 0, none⟩ : Addr).add j) = some u := fun W hW j u h => by
              rw [add_none, Nat.zero_add]
              have hj := (List.getElem?_eq_some_iff.1 h).1
              have := HKW.out.cells (g := g) rfl j u (by rw [flat_split m t, List.getElem?_append_left hj]; exact h)
              rw [add_none, Nat.zero_add] at this
              exact (hW.cell (p := ⟨g, j, none⟩) hgW).trans this
            have HTAKE := Lib.hid htake
            have hnw : (W0.alloc (.cells (recA x) 45)).drew.ownsRow w.heap.size 45 8 (.slice (some ⟨W0.heap.size, 0, none⟩) 1 1) 1 (recA x).toList := ⟨rfl, .inr ⟨W0.heap.size, 1, _, rfl, hwW, World.alloc_heap_new W0 _, Nat.le_refl _, by unfold maxLen; omega, rfl, rfl⟩⟩
            have HNW := Lib.hid hnw
            have hb8 : Below W0.heap.size W0 (W0.alloc (.cells (recA x) 45)).drew := bald (Below.refl _ W0).drew _
            have HB8b := Lib.hid hb8
            clear htake hnw hb8
            refine region_sch (fun W' => Below W0.heap.size W0 W') [(true, 0), (true, 1), (true, 2), (true, 3), (true, 4), (true, 5), (true, 6), (true, 7), (true, 9), (true, 10), (true, 11), (false, 8), (false, 12)] [13, 14] (by kernel_rfl) (by kernel_rfl) (by rintro ⟨_, _, h⟩; obtain ⟨v, d, h, -⟩ := h; cases h) (fun _ _ d _ _ h => by cases d <;> exact h) (Below.refl _ W0).drew ?_
            simp only [pickM, pickT, List.filterMap_cons, List.filterMap_nil, List.getElem?_cons_zero, List.getElem?_cons_succ, Option.map_some]
            repeat (first | (refine m_float ⟨?_, .inl ⟨?_, .inl ?_⟩, fun K' hK => ?_⟩; rotate_left; (first | rfl | (go_simp; done)); (intro w' hS; (obtain ⟨q0, q1, q2, q3, q4, q5, q6, q7⟩ := CL.out _ (bthen HBW.out hS); clear hS); go_simp; try rfl); (simp only [Act.put, List.setIfInBounds_toArray, List.set_cons_succ, List.set_cons_zero]; refine hK _ ?_; clear hK K')) | (refine m_float ⟨undef, .inr ⟨?_, rfl⟩, fun K' hK => ?_⟩; (first | rfl | (go_simp; done)); (simp only [Act.put, List.setIfInBounds_toArray, List.set_cons_succ, List.set_cons_zero]; refine hK _ ?_; clear hK K')))
            refine m_loud ?_ (fun K' hK => ?_)
            · rintro ⟨_, _, h⟩; obtain ⟨v, d, h, -⟩ := h; cases h
            go_wp2
            refine hK _ _ HB8b.out ?_
            clear hK K'
            repeat (first | (refine m_float ⟨?_, .inl ⟨?_, .inl ?_⟩, fun K' hK => ?_⟩; rotate_left; (first | rfl | (go_simp; done)); (intro w' hS; skip; go_simp; try rfl); (simp only [Act.put, List.setIfInBounds_toArray, List.set_cons_succ, List.set_cons_zero]; refine hK _ ?_; clear hK K')) | (refine m_float ⟨undef, .inr ⟨?_, rfl⟩, fun K' hK => ?_⟩; (first | rfl | (go_simp; done)); (simp only [Act.put, List.setIfInBounds_toArray, List.set_cons_succ, List.set_cons_zero]; refine hK _ ?_; clear hK K')))
            refine m_loud ?_ (fun K' hK => ?_)
            · rintro ⟨_, _, h⟩; obtain ⟨v, d, h, -⟩ := h; cases h
            go_wp2_with (at_builtin; refine wpList_append_own_at _ rfl _ _ 26 rfl w.heap.size 45 j0 (.agg #[.string ByteArray.empty, .int .i64 0, .int .i64 0, .int .i64 0, .int .i64 0, .int .i64 0, .int .i64 0, .string ByteArray.empty]) 8 80 Tryz.underlying26 hj ky0 ky1 ky2 rfl (by decide) _ _ _ rfl HNW.out ⟨g, (t * 8), none⟩ (m.length - t) _ (flatR (recsT (m.drop t))) rfl (by rw [flatR_len, recsT_len, List.length_drop]) ?c1 ?c2 ?c3 ?c4 ?c5 ?_)
            case c1 => first | exact HCELL.out _ HB8b.out | (intro j u h; have hh := HCELL.out _ HB8b.out j u h; rw [add_none] at hh; first | exact hh | (rw [add_none]; exact hh) | (rw [Nat.zero_add] at hh; exact hh))
            case c2 => exact flatR_cell _
            case c3 => unfold maxLen; omega
            case c4 => omega
            case c5 => first | omega | (simp; omega)
            intro v11 w11 ho11 hg11 hnn11 _
            have hb11 : Below W0.heap.size W0 w11 := HB8b.out.grown hg11 HB8b.out.size (fun k e => by simp [Value.ownBlock] at e; omega)
            rcases ho11.2 with ⟨-, h0⟩ | ⟨g11, cap11, cur11, hv11, -⟩
            · omega
            have hc11 := ho11.cells (g := g11) (by rw [hv11]; rfl)
            subst hv11
            have HC11 := Lib.hid hc11
            have HB11 := Lib.hid hb11
            clear ho11 hg11 hnn11 hb11 hc11
            go_wp2
            refine hK _ _ HB11.out ?_
            clear hK K'
            repeat (first | (refine m_float ⟨?_, .inl ⟨?_, .inl ?_⟩, fun K' hK => ?_⟩; rotate_left; (first | rfl | (go_simp; done)); (intro w' hS; skip; go_simp; try rfl); (simp only [Act.put, List.setIfInBounds_toArray, List.set_cons_succ, List.set_cons_zero]; refine hK _ ?_; clear hK K')) | (refine m_float ⟨undef, .inr ⟨?_, rfl⟩, fun K' hK => ?_⟩; (first | rfl | (go_simp; done)); (simp only [Act.put, List.setIfInBounds_toArray, List.set_cons_succ, List.set_cons_zero]; refine hK _ ?_; clear hK K')))
            refine m_nil ?_
            show wpList Tryz.prog _ _ (List.cons _ _) _ _
            go_wp2_with (at_builtin; refine wpList_append_cut rfl _ _ 26 rfl w.heap.size 45 j0 (.agg #[.string ByteArray.empty, .int .i64 0, .int .i64 0, .int .i64 0, .int .i64 0, .int .i64 0, .int .i64 0, .string ByteArray.empty]) 8 80 Tryz.underlying26 hj ky0 ky1 ky2 rfl (by decide) ⟨g, 0, none⟩ t t (flatR (recsT (m.take t))) rfl (by rw [flatR_len, recsT_len, List.length_take]; congr 1; omega) (HTAKE.out _ HB11.out) ⟨g11, 0, none⟩ (1 + (m.length - t)) cap11 ((recA x).toList ++ flatR (recsT (m.drop t))) rfl (by rw [List.length_append, flatR_len, recsT_len, List.length_drop, Nat.add_mul]; rfl) HC11.out (by omega) (by unfold maxLen; omega) (by omega) (by have := HB11.out.size; omega) ?_)
            intro cap12 w12 ho12 hB12
            have HLEN : Hid (t + (1 + (m.length - t)) = (m.take t ++ (x, k) :: m.drop t).length) := Lib.hid (by simp; omega)
            have HFLAT : Hid (flatR (recsT (m.take t)) ++ ((recA x).toList ++ flatR (recsT (m.drop t))) = flatR (recsT (m.take t ++ (x, k) :: m.drop t))) := Lib.hid (by rw [recsT_app, flatR_append]; rfl)
            have HO12 := Lib.hid ho12
            have HB12 : Hid (Below w.heap.size w w12) := Lib.hid (bthen HB.out (bthen HBW.out (bthen HB11.out hB12)))
            clear ho12 hB12
            go_wp2
            go_roundw
            case rel => exact ⟨k + 1, m.take t ++ (x, k) :: m.drop t, w11.heap.size, cap12, by go_num, by omega, HNP.out t, HINS.out, by rw [← HLEN.out], by rw [← HLEN.out, ← HFLAT.out]; exact HO12.out, HB12.out⟩
            case measure => simp [intOf] <;> omega
        · obtain ⟨s, hs⟩ : ∃ s, t = s + 1 := ⟨t - 1, by omega⟩
          have g4 : (0 : Int) < (t : Int) := by omega
          have g4d : decide ((0 : Int) < (t : Int)) = true := decide_eq_true g4
          have g4m : decide (0 < t) = true := decide_eq_true ht0
          obtain ⟨u, hmu⟩ : ∃ u, m[s]? = some u := ⟨_, List.getElem?_eq_getElem (by omega)⟩
          have huL := HMEM.out u (List.mem_of_getElem? hmu)
          have hzu : u.1.id.size < 2 ^ 30 := HP.out _ huL
          have CY8 : Hid (∀ W, Below wg.heap.size wg W → W.cell? ⟨g, s * 8, none⟩ = some (.string u.1.id) ∧ W.cell? ⟨b, off + k * 8, none⟩ = some (.string x.id)) := Lib.hid fun W hW => by
            obtain ⟨a', c', e', hrr⟩ := RowR_own (recsT m) (by rw [recsT_len]; exact HKM.out)
            rw [recsT_len] at e'
            injection e' with e1 e2 e3
            subst e1
            obtain ⟨b', off', e4, h1, h2⟩ := hrr s (by rw [recsT_len]; omega)
            simp only [Option.some.injEq, Addr.mk.injEq, and_true] at e4
            obtain ⟨rfl, rfl⟩ := e4
            have e5 : (recsT m).getD s recD = u.1 := by
              rw [List.getD_eq_getElem?_getD, recsT, List.getElem?_map, hmu]
              rfl
            rw [e5, Nat.zero_add] at h2
            exact ⟨(h2.below h1 hW).1, (CL.out W hW).1⟩
          have c5 := fun W => rcmp_ok u.1.id x.id wide W hzu hzx
          have hgt := rcmp_gt u.1.id.data.toList x.id.data.toList wide
          obtain ⟨v, hv⟩ : ∃ v, rcmpM u.1.id.data.toList x.id.data.toList wide = v := ⟨_, rfl⟩
          rw [hv] at c5 hgt
          have hcf : cfW wide u.1 x = cmpM u.1.id.data.toList x.id.data.toList wide := rfl
          rw [← hcf] at hgt
          have hsM : (s : Int) < (m.length : Int) := by omega
          have hki : (k : Int) < (l.length : Int) := by omega
          have e2 : ((t : Int) - 1) = (s : Int) := by omega
          have hwp2 : IntKind.i64.wrap (s : Int) = (s : Int) := by rw [IntKind.wrap_i64]; omega
          have HU := Lib.hid hmu
          have HGT := Lib.hid hgt
          have HTS := Lib.hid hs
          clear hmu huL hv hcf hgt hs
          by_cases hvp : 0 < v
          · have g5 : decide (0 < v) = true := decide_eq_true hvp
            have HTN : Hid (∀ s' y, s ≤ s' → m[s']? = some y → 0 < cfW wide y.1 x) := Lib.hid fun s' y h1 h2 => by
              have := HTS.out
              rcases Nat.lt_or_ge s s' with h3 | h3
              · exact HT8.out s' y (by omega) h2
              · obtain rfl : s' = s := by omega
                rw [HU.out] at h2
                cases h2
                exact HGT.out.1 hvp
            go_wp2
            refine region_sch (fun W => Below wg.heap.size wg W) [(true, 0), (true, 1), (true, 2), (true, 3), (true, 4), (true, 5), (true, 6), (true, 7), (true, 8), (true, 9), (true, 10), (true, 11), (true, 12), (true, 13), (true, 14)] [15, 16, 17] (by kernel_rfl) (by kernel_rfl) (by rintro ⟨_, _, h⟩; obtain ⟨v, d, h, -⟩ := h; cases h) (fun _ _ d _ _ h => by cases d <;> exact h) HB8.out.drew ?_
            simp only [pickM, pickT, List.filterMap_cons, List.filterMap_nil, List.getElem?_cons_zero, List.getElem?_cons_succ, Option.map_some]
            repeat (first | (refine m_float ⟨?_, .inl ⟨?_, .inl ?_⟩, fun K' hK => ?_⟩; rotate_left; (first | rfl | (go_simp; done)); (intro w' hS; (obtain ⟨r0, r1⟩ := CY8.out _ hS; clear hS); go_simp; try rfl); (simp only [Act.put, List.setIfInBounds_toArray, List.set_cons_succ, List.set_cons_zero]; refine hK _ ?_; clear hK K')) | (refine m_float ⟨undef, .inr ⟨?_, rfl⟩, fun K' hK => ?_⟩; (first | rfl | (go_simp; done)); (simp only [Act.put, List.setIfInBounds_toArray, List.set_cons_succ, List.set_cons_zero]; refine hK _ ?_; clear hK K')))
            refine m_nil ?_
            show wpList Tryz.prog _ _ (List.cons _ _) _ _
            go_wp2_with fail
            with_reducible refine (c5 _).mono ?_
            rintro e w9 ⟨rfl, hB9⟩
            have HB9 := Lib.hid (bthen HB8.out.drew hB9)
            clear hB9
            go_wp2
            go_roundw
            case rel => exact ⟨s, by go_num, by omega, HTN.out, HB9.out⟩
            case measure =>
              have := HTS.out
              simp [intOf] <;> omega
          · have g5 : decide (0 < v) = false := decide_eq_false hvp
            have HINS : Hid ((m.take t ++ (x, k) :: m.drop t).Pairwise (ltT (cfW wide))) := Lib.hid (ins_atT HCF.out HPW.out HTAG.out (.inr ⟨u, by rw [HTS.out, Nat.add_sub_cancel]; exact HU.out, by show cfW wide u.1 x ≤ 0; have := HGT.out; omega⟩) HT8.out)
            go_wp2
            refine region_sch (fun W => Below wg.heap.size wg W) [(true, 0), (true, 1), (true, 2), (true, 3), (true, 4), (true, 5), (true, 6), (true, 7), (true, 8), (true, 9), (true, 10), (true, 11), (true, 12), (true, 13), (true, 14)] [15, 16, 17] (by kernel_rfl) (by kernel_rfl) (by rintro ⟨_, _, h⟩; obtain ⟨v, d, h, -⟩ := h; cases h) (fun _ _ d _ _ h => by cases d <;> exact h) HB8.out.drew ?_
            simp only [pickM, pickT, List.filterMap_cons, List.filterMap_nil, List.getElem?_cons_zero, List.getElem?_cons_succ, Option.map_some]
            repeat (first | (refine m_float ⟨?_, .inl ⟨?_, .inl ?_⟩, fun K' hK => ?_⟩; rotate_left; (first | rfl | (go_simp; done)); (intro w' hS; (obtain ⟨r0, r1⟩ := CY8.out _ hS; clear hS); go_simp; try rfl); (simp only [Act.put, List.setIfInBounds_toArray, List.set_cons_succ, List.set_cons_zero]; refine hK _ ?_; clear hK K')) | (refine m_float ⟨undef, .inr ⟨?_, rfl⟩, fun K' hK => ?_⟩; (first | rfl | (go_simp; done)); (simp only [Act.put, List.setIfInBounds_toArray, List.set_cons_succ, List.set_cons_zero]; refine hK _ ?_; clear hK K')))
            refine m_nil ?_
            show wpList Tryz.prog _ _ (List.cons _ _) _ _
            go_wp2_with fail
            with_reducible refine (c5 _).mono ?_
            rintro e w9 ⟨rfl, hB9⟩
            have HB9 := Lib.hid (bthen HB8.out.drew hB9)
            clear hB9 c5 g4 g4d g4m g5 e2 hwp2
            go_wp2
            have HBW : Hid (Below wg.heap.size wg w9) := Lib.hid HB9.out
            have HKW : Hid (World.ownsRow w9 w.heap.size 45 8 (.slice (some ⟨g, 0, none⟩) m.length cap) m.length (flatR (recsT m))) := Lib.hid (own_keepS HKM.out HBW.out)
            have hgW : g < (w9).heap.size := (HKW.out.lt g rfl).2
            have hwW : w.heap.size ≤ (w9).heap.size := by
              have h1 := HBW.out.size
              omega
            generalize hW0 : w9 = W0 at *
            clear hW0
            have hMi : (m.length : Int) ≤ (cap : Int) := by omega
            have hti : (t : Int) ≤ (m.length : Int) := by omega
            have htc : (t : Int) ≤ (cap : Int) := by omega
            have htc2 : t ≤ cap := by omega
            by_cases hct : cap = t
            · have hMt : m.length = t := by omega
              have hdr : m.drop t = [] := List.drop_eq_nil_of_le (by omega)
              have hcell : ∀ W, Below W0.heap.size W0 W → ∀ j u, (flatR (recsT (m.drop t)))[j]? = some u → W.cell? ((⟨g, 0, none⟩ : Addr).add j) = some u := fun W hW j u h => by
                rw [hdr] at h
                simp [flatR, recsT] at h
              have HCELL := Lib.hid hcell
              have hnlt : ¬ t < cap := by omega
              have hnlti : ¬ (t : Int) < (cap : Int) := by omega
              have HMT := Lib.hid hMt
              clear hdr hcell hMt
              have htake : ∀ W, Below W0.heap.size W0 W → ∀ j u, (flatR (recsT (m.take t)))[j]? = some u → W.cell? ((⟨g, 0, none⟩ : Addr).add j) = some u := fun W hW j u h => by
                rw [add_none, Nat.zero_add]
                have hj := (List.getElem?_eq_some_iff.1 h).1
                have := HKW.out.cells (g := g) rfl j u (by rw [flat_split m t, List.getElem?_append_left hj]; exact h)
                rw [add_none, Nat.zero_add] at this
                exact (hW.cell (p := ⟨g, j, none⟩) hgW).trans this
              have HTAKE := Lib.hid htake
              have hnw : (W0.alloc (.cells (recA x) 45)).drew.ownsRow w.heap.size 45 8 (.slice (some ⟨W0.heap.size, 0, none⟩) 1 1) 1 (recA x).toList := ⟨rfl, .inr ⟨W0.heap.size, 1, _, rfl, hwW, World.alloc_heap_new W0 _, Nat.le_refl _, by unfold maxLen; omega, rfl, rfl⟩⟩
              have HNW := Lib.hid hnw
              have hb8 : Below W0.heap.size W0 (W0.alloc (.cells (recA x) 45)).drew := bald (Below.refl _ W0).drew _
              have HB8b := Lib.hid hb8
              clear htake hnw hb8
              refine region_sch (fun W' => Below W0.heap.size W0 W') [(true, 0), (true, 1), (true, 2), (true, 3), (true, 4), (true, 5), (true, 6), (true, 7), (true, 9), (true, 10), (true, 11), (false, 8), (false, 12)] [13, 14] (by kernel_rfl) (by kernel_rfl) (by rintro ⟨_, _, h⟩; obtain ⟨v, d, h, -⟩ := h; cases h) (fun _ _ d _ _ h => by cases d <;> exact h) (Below.refl _ W0).drew ?_
              simp only [pickM, pickT, List.filterMap_cons, List.filterMap_nil, List.getElem?_cons_zero, List.getElem?_cons_succ, Option.map_some]
              repeat (first | (refine m_float ⟨?_, .inl ⟨?_, .inl ?_⟩, fun K' hK => ?_⟩; rotate_left; (first | rfl | (go_simp; done)); (intro w' hS; (obtain ⟨q0, q1, q2, q3, q4, q5, q6, q7⟩ := CL.out _ (bthen HBW.out hS); clear hS); go_simp; try rfl); (simp only [Act.put, List.setIfInBounds_toArray, List.set_cons_succ, List.set_cons_zero]; refine hK _ ?_; clear hK K')) | (refine m_float ⟨undef, .inr ⟨?_, rfl⟩, fun K' hK => ?_⟩; (first | rfl | (go_simp; done)); (simp only [Act.put, List.setIfInBounds_toArray, List.set_cons_succ, List.set_cons_zero]; refine hK _ ?_; clear hK K')))
              refine m_loud ?_ (fun K' hK => ?_)
              · rintro ⟨_, _, h⟩; obtain ⟨v, d, h, -⟩ := h; cases h
              go_wp2
              refine hK _ _ HB8b.out ?_
              clear hK K'
              repeat (first | (refine m_float ⟨?_, .inl ⟨?_, .inl ?_⟩, fun K' hK => ?_⟩; rotate_left; (first | rfl | (go_simp; done)); (intro w' hS; skip; go_simp; try rfl); (simp only [Act.put, List.setIfInBounds_toArray, List.set_cons_succ, List.set_cons_zero]; refine hK _ ?_; clear hK K')) | (refine m_float ⟨undef, .inr ⟨?_, rfl⟩, fun K' hK => ?_⟩; (first | rfl | (go_simp; done)); (simp only [Act.put, List.setIfInBounds_toArray, List.set_cons_succ, List.set_cons_zero]; refine hK _ ?_; clear hK K')))
              refine m_loud ?_ (fun K' hK => ?_)
              · rintro ⟨_, _, h⟩; obtain ⟨v, d, h, -⟩ := h; cases h
              go_wp2_with (at_builtin; refine wpList_append_own_at _ rfl _ _ 26 rfl w.heap.size 45 j0 (.agg #[.string ByteArray.empty, .int .i64 0, .int .i64 0, .int .i64 0, .int .i64 0, .int .i64 0, .int .i64 0, .string ByteArray.empty]) 8 80 Tryz.underlying26 hj ky0 ky1 ky2 rfl (by decide) _ _ _ rfl HNW.out ⟨g, 0, none⟩ (m.length - t) _ (flatR (recsT (m.drop t))) rfl (by rw [flatR_len, recsT_len, List.length_drop]) ?c1 ?c2 ?c3 ?c4 ?c5 ?_)
              case c1 => first | exact HCELL.out _ HB8b.out | (intro j u h; have hh := HCELL.out _ HB8b.out j u h; rw [add_none] at hh; first | exact hh | (rw [add_none]; exact hh) | (rw [Nat.zero_add] at hh; exact hh))
              case c2 => exact flatR_cell _
              case c3 => unfold maxLen; omega
              case c4 => omega
              case c5 => first | omega | (simp; omega)
              intro v11 w11 ho11 hg11 hnn11 _
              have hb11 : Below W0.heap.size W0 w11 := HB8b.out.grown hg11 HB8b.out.size (fun k e => by simp [Value.ownBlock] at e; omega)
              rcases ho11.2 with ⟨-, h0⟩ | ⟨g11, cap11, cur11, hv11, -⟩
              · omega
              have hc11 := ho11.cells (g := g11) (by rw [hv11]; rfl)
              subst hv11
              have HC11 := Lib.hid hc11
              have HB11 := Lib.hid hb11
              clear ho11 hg11 hnn11 hb11 hc11
              go_wp2
              refine hK _ _ HB11.out ?_
              clear hK K'
              repeat (first | (refine m_float ⟨?_, .inl ⟨?_, .inl ?_⟩, fun K' hK => ?_⟩; rotate_left; (first | rfl | (go_simp; done)); (intro w' hS; skip; go_simp; try rfl); (simp only [Act.put, List.setIfInBounds_toArray, List.set_cons_succ, List.set_cons_zero]; refine hK _ ?_; clear hK K')) | (refine m_float ⟨undef, .inr ⟨?_, rfl⟩, fun K' hK => ?_⟩; (first | rfl | (go_simp; done)); (simp only [Act.put, List.setIfInBounds_toArray, List.set_cons_succ, List.set_cons_zero]; refine hK _ ?_; clear hK K')))
              refine m_nil ?_
              show wpList Tryz.prog _ _ (List.cons _ _) _ _
              go_wp2_with (at_builtin; refine wpList_append_cut rfl _ _ 26 rfl w.heap.size 45 j0 (.agg #[.string ByteArray.empty, .int .i64 0, .int .i64 0, .int .i64 0, .int .i64 0, .int .i64 0, .int .i64 0, .string ByteArray.empty]) 8 80 Tryz.underlying26 hj ky0 ky1 ky2 rfl (by decide) ⟨g, 0, none⟩ t t (flatR (recsT (m.take t))) rfl (by rw [flatR_len, recsT_len, List.length_take]; congr 1; omega) (HTAKE.out _ HB11.out) ⟨g11, 0, none⟩ (1 + (m.length - t)) cap11 ((recA x).toList ++ flatR (recsT (m.drop t))) rfl (by rw [List.length_append, flatR_len, recsT_len, List.length_drop, Nat.add_mul]; rfl) HC11.out (by omega) (by unfold maxLen; omega) (by omega) (by have := HB11.out.size; omega) ?_)
              intro cap12 w12 ho12 hB12
              have HLEN : Hid (t + (1 + (m.length - t)) = (m.take t ++ (x, k) :: m.drop t).length) := Lib.hid (by simp; omega)
              have HFLAT : Hid (flatR (recsT (m.take t)) ++ ((recA x).toList ++ flatR (recsT (m.drop t))) = flatR (recsT (m.take t ++ (x, k) :: m.drop t))) := Lib.hid (by rw [recsT_app, flatR_append]; rfl)
              have HO12 := Lib.hid ho12
              have HB12 : Hid (Below w.heap.size w w12) := Lib.hid (bthen HB.out (bthen HBW.out (bthen HB11.out hB12)))
              clear ho12 hB12
              go_wp2
              go_roundw
              case rel => exact ⟨k + 1, m.take t ++ (x, k) :: m.drop t, w11.heap.size, cap12, by go_num, by omega, HNP.out t, HINS.out, by rw [← HLEN.out], by rw [← HLEN.out, ← HFLAT.out]; exact HO12.out, HB12.out⟩
              case measure => simp [intOf] <;> omega
            · have hlt9 : t < cap := by omega
              have hlt9i : (t : Int) < (cap : Int) := by omega
              have hcell : ∀ W, Below W0.heap.size W0 W → ∀ j u, (flatR (recsT (m.drop t)))[j]? = some u → W.cell? ((⟨g, t * 8, none⟩ : Addr).add j) = some u := fun W hW j u h => by
                rw [add_none]
                have hl : (flatR (recsT (m.take t))).length = t * 8 := by rw [flatR_len, recsT_len, List.length_take]; congr 1; omega
                have := HKW.out.cells (g := g) rfl (t * 8 + j) u (by rw [flat_split m t, List.getElem?_append_right (by omega), hl, Nat.add_sub_cancel_left]; exact h)
                rw [add_none, Nat.zero_add] at this
                exact (hW.cell (p := ⟨g, t * 8 + j, none⟩) hgW).trans this
              have HCELL := Lib.hid hcell
              clear hcell
              have htake : ∀ W, Below W0.heap.size W0 W → ∀ j u, (flatR (recsT (m.take t)))[j]? = some u → W.cell? ((⟨g, 0, none⟩ : Addr).add j) = some u := fun W hW j u h => by
                rw [add_none, Nat.zero_add]
                have hj := (List.getElem?_eq_some_iff.1 h).1
                have := HKW.out.cells (g := g) rfl j u (by rw [flat_split m t, List.getElem?_append_left hj]; exact h)
                rw [add_none, Nat.zero_add] at this
                exact (hW.cell (p := ⟨g, j, none⟩) hgW).trans this
              have HTAKE := Lib.hid htake
              have hnw : (W0.alloc (.cells (recA x) 45)).drew.ownsRow w.heap.size 45 8 (.slice (some ⟨W0.heap.size, 0, none⟩) 1 1) 1 (recA x).toList := ⟨rfl, .inr ⟨W0.heap.size, 1, _, rfl, hwW, World.alloc_heap_new W0 _, Nat.le_refl _, by unfold maxLen; omega, rfl, rfl⟩⟩
              have HNW := Lib.hid hnw
              have hb8 : Below W0.heap.size W0 (W0.alloc (.cells (recA x) 45)).drew := bald (Below.refl _ W0).drew _
              have HB8b := Lib.hid hb8
              clear htake hnw hb8
              refine region_sch (fun W' => Below W0.heap.size W0 W') [(true, 0), (true, 1), (true, 2), (true, 3), (true, 4), (true, 5), (true, 6), (true, 7), (true, 9), (true, 10), (true, 11), (false, 8), (false, 12)] [13, 14] (by kernel_rfl) (by kernel_rfl) (by rintro ⟨_, _, h⟩; obtain ⟨v, d, h, -⟩ := h; cases h) (fun _ _ d _ _ h => by cases d <;> exact h) (Below.refl _ W0).drew ?_
              simp only [pickM, pickT, List.filterMap_cons, List.filterMap_nil, List.getElem?_cons_zero, List.getElem?_cons_succ, Option.map_some]
              repeat (first | (refine m_float ⟨?_, .inl ⟨?_, .inl ?_⟩, fun K' hK => ?_⟩; rotate_left; (first | rfl | (go_simp; done)); (intro w' hS; (obtain ⟨q0, q1, q2, q3, q4, q5, q6, q7⟩ := CL.out _ (bthen HBW.out hS); clear hS); go_simp; try rfl); (simp only [Act.put, List.setIfInBounds_toArray, List.set_cons_succ, List.set_cons_zero]; refine hK _ ?_; clear hK K')) | (refine m_float ⟨undef, .inr ⟨?_, rfl⟩, fun K' hK => ?_⟩; (first | rfl | (go_simp; done)); (simp only [Act.put, List.setIfInBounds_toArray, List.set_cons_succ, List.set_cons_zero]; refine hK _ ?_; clear hK K')))
              refine m_loud ?_ (fun K' hK => ?_)
              · rintro ⟨_, _, h⟩; obtain ⟨v, d, h, -⟩ := h; cases h
              go_wp2
              refine hK _ _ HB8b.out ?_
              clear hK K'
              repeat (first | (refine m_float ⟨?_, .inl ⟨?_, .inl ?_⟩, fun K' hK => ?_⟩; rotate_left; (first | rfl | (go_simp; done)); (intro w' hS; skip; go_simp; try rfl); (simp only [Act.put, List.setIfInBounds_toArray, List.set_cons_succ, List.set_cons_zero]; refine hK _ ?_; clear hK K')) | (refine m_float ⟨undef, .inr ⟨?_, rfl⟩, fun K' hK => ?_⟩; (first | rfl | (go_simp; done)); (simp only [Act.put, List.setIfInBounds_toArray, List.set_cons_succ, List.set_cons_zero]; refine hK _ ?_; clear hK K')))
              refine m_loud ?_ (fun K' hK => ?_)
              · rintro ⟨_, _, h⟩; obtain ⟨v, d, h, -⟩ := h; cases h
              go_wp2_with (at_builtin; refine wpList_append_own_at _ rfl _ _ 26 rfl w.heap.size 45 j0 (.agg #[.string ByteArray.empty, .int .i64 0, .int .i64 0, .int .i64 0, .int .i64 0, .int .i64 0, .int .i64 0, .string ByteArray.empty]) 8 80 Tryz.underlying26 hj ky0 ky1 ky2 rfl (by decide) _ _ _ rfl HNW.out ⟨g, (t * 8), none⟩ (m.length - t) _ (flatR (recsT (m.drop t))) rfl (by rw [flatR_len, recsT_len, List.length_drop]) ?c1 ?c2 ?c3 ?c4 ?c5 ?_)
              case c1 => first | exact HCELL.out _ HB8b.out | (intro j u h; have hh := HCELL.out _ HB8b.out j u h; rw [add_none] at hh; first | exact hh | (rw [add_none]; exact hh) | (rw [Nat.zero_add] at hh; exact hh))
              case c2 => exact flatR_cell _
              case c3 => unfold maxLen; omega
              case c4 => omega
              case c5 => first | omega | (simp; omega)
              intro v11 w11 ho11 hg11 hnn11 _
              have hb11 : Below W0.heap.size W0 w11 := HB8b.out.grown hg11 HB8b.out.size (fun k e => by simp [Value.ownBlock] at e; omega)
              rcases ho11.2 with ⟨-, h0⟩ | ⟨g11, cap11, cur11, hv11, -⟩
              · omega
              have hc11 := ho11.cells (g := g11) (by rw [hv11]; rfl)
              subst hv11
              have HC11 := Lib.hid hc11
              have HB11 := Lib.hid hb11
              clear ho11 hg11 hnn11 hb11 hc11
              go_wp2
              refine hK _ _ HB11.out ?_
              clear hK K'
              repeat (first | (refine m_float ⟨?_, .inl ⟨?_, .inl ?_⟩, fun K' hK => ?_⟩; rotate_left; (first | rfl | (go_simp; done)); (intro w' hS; skip; go_simp; try rfl); (simp only [Act.put, List.setIfInBounds_toArray, List.set_cons_succ, List.set_cons_zero]; refine hK _ ?_; clear hK K')) | (refine m_float ⟨undef, .inr ⟨?_, rfl⟩, fun K' hK => ?_⟩; (first | rfl | (go_simp; done)); (simp only [Act.put, List.setIfInBounds_toArray, List.set_cons_succ, List.set_cons_zero]; refine hK _ ?_; clear hK K')))
              refine m_nil ?_
              show wpList Tryz.prog _ _ (List.cons _ _) _ _
              go_wp2_with (at_builtin; refine wpList_append_cut rfl _ _ 26 rfl w.heap.size 45 j0 (.agg #[.string ByteArray.empty, .int .i64 0, .int .i64 0, .int .i64 0, .int .i64 0, .int .i64 0, .int .i64 0, .string ByteArray.empty]) 8 80 Tryz.underlying26 hj ky0 ky1 ky2 rfl (by decide) ⟨g, 0, none⟩ t t (flatR (recsT (m.take t))) rfl (by rw [flatR_len, recsT_len, List.length_take]; congr 1; omega) (HTAKE.out _ HB11.out) ⟨g11, 0, none⟩ (1 + (m.length - t)) cap11 ((recA x).toList ++ flatR (recsT (m.drop t))) rfl (by rw [List.length_append, flatR_len, recsT_len, List.length_drop, Nat.add_mul]; rfl) HC11.out (by omega) (by unfold maxLen; omega) (by omega) (by have := HB11.out.size; omega) ?_)
              intro cap12 w12 ho12 hB12
              have HLEN : Hid (t + (1 + (m.length - t)) = (m.take t ++ (x, k) :: m.drop t).length) := Lib.hid (by simp; omega)
              have HFLAT : Hid (flatR (recsT (m.take t)) ++ ((recA x).toList ++ flatR (recsT (m.drop t))) = flatR (recsT (m.take t ++ (x, k) :: m.drop t))) := Lib.hid (by rw [recsT_app, flatR_append]; rfl)
              have HO12 := Lib.hid ho12
              have HB12 : Hid (Below w.heap.size w w12) := Lib.hid (bthen HB.out (bthen HBW.out (bthen HB11.out hB12)))
              clear ho12 hB12
              go_wp2
              go_roundw
              case rel => exact ⟨k + 1, m.take t ++ (x, k) :: m.drop t, w11.heap.size, cap12, by go_num, by omega, HNP.out t, HINS.out, by rw [← HLEN.out], by rw [← HLEN.out, ← HFLAT.out]; exact HO12.out, HB12.out⟩
              case measure => simp [intOf] <;> omega
    · obtain rfl : k = l.length := by omega
      have HML2 := Lib.hid hml
      clear ho hB hpm hpw hml
      go_wp2
      go_ret
      refine ⟨_, recsT m, rfl, ⟨m, by have := HPM.out; rwa [List.take_length] at this, HPW.out, rfl⟩, by rw [recsT_len]; exact HML2.out, ?_, HB.out⟩
      rw [recsT_len]
      exact HKM.out
end Go.Proofs.YtnmlephjhcmbhaaGreat
