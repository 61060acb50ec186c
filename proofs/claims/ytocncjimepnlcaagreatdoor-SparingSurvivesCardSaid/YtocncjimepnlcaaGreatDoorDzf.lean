/- sparing.Decode. -/
import Derived.Test.YtocncjimepnlcaaGreatDoorDze
import Derived.Test.YtocncjimepnlcaaGreatDoorDzd
import Derived.Test.YtocncjimepnlcaaGreatDoorCni
import Derived.Test.YtocncjimepnlcaaGreatDoorCnc
namespace Go.Proofs.YtocncjimepnlcaaGreatDoor
set_option linter.unusedSimpArgs false
set_option linter.unusedVariables false
open Go Go.RowKit
set_option maxRecDepth 100000 in
set_option maxHeartbeats 400000 in
theorem dnum_ok (D : ByteArray) (a k : Nat) (P : Nat) (w : World) (hP : w.cell? ⟨P, 0, none⟩ = some (.string D)) (hs : D.size < 2 ^ 62) (h1 : 1 ≤ k) (h7 : k ≤ 7) (hin : a + k ≤ D.size) :
    Calls Tryz.prog 24 #[.int .i64 a, .int .i64 k, .pointer (some ⟨P, 0, none⟩)] w fun e w' => e = .returned (.int .i64 (leR D a k)) ∧ Below w.heap.size w w' := by
  have c1 := fun W => readLittle_ok D a k W hs h1 h7 hin
  clear hs h1 h7 hin
  go_enter Tryz.func24, Tryz.ntmps24
  go_wp2_with (go_at_call 25; (with_reducible refine (c1 _).mono ?_); rintro e w1 ⟨rfl, hB1⟩)
  go_ret
  exact ⟨rfl, hB1⟩
/-- The blocks of Decode. -/
structure DB (w : World) (D : ByteArray) (W : World) : Prop where
  b0 : W.heap[w.heap.size]? = some (.cells #[.string D] 9 (0, 0))
  b1 : W.heap[w.heap.size + 1]? = some (.cells #[.int .i64 0, .slice none 0 0] 24 (0, 0))
  b2 : W.heap[w.heap.size + 1 + 1]? = some (.cells #[.int .i64 0, .slice none 0 0] 24 (0, 0))
  bel : Below w.heap.size w W
theorem DB.below {w : World} {D : ByteArray} {W W' : World} (h : DB w D W) (k : Below W.heap.size W W') : DB w D W' :=
  ⟨(k.block _ (lt_of_block h.b0)).trans h.b0, (k.block _ (lt_of_block h.b1)).trans h.b1, (k.block _ (lt_of_block h.b2)).trans h.b2, bthen h.bel k⟩
theorem DB.start (w : World) (D : ByteArray) : DB w D (((w.alloc (.cells #[.string D] 9)).alloc (.cells #[.int .i64 0, .slice none 0 0] 24)).alloc (.cells #[.int .i64 0, .slice none 0 0] 24)) := by
  refine ⟨?_, ?_, ?_, bal (bal (bal (Below.refl _ w) _) _) _⟩
  · exact (Lib.alloc_old _ _ _ (by simp; omega)).trans ((Lib.alloc_old _ _ _ (by simp)).trans (World.alloc_heap_new w _))
  · refine (Lib.alloc_old _ _ _ (by simp)).trans ?_
    have := World.alloc_heap_new (w.alloc (.cells #[.string D] 9)) (.cells #[.int .i64 0, .slice none 0 0] 24)
    rwa [World.size_alloc] at this
  · have := World.alloc_heap_new ((w.alloc (.cells #[.string D] 9)).alloc (.cells #[.int .i64 0, .slice none 0 0] 24)) (.cells #[.int .i64 0, .slice none 0 0] 24)
    rwa [World.size_alloc, World.size_alloc] at this
theorem DB.res {w : World} {D : ByteArray} {W : World} (h : DB w D W) (s2 : Int) (v2 : Value) : let W2 := (W.setCell ⟨w.heap.size + 1, 0, none⟩ (.int .i64 s2)).setCell ⟨w.heap.size + 1, 1, none⟩ v2
    W2.cell? ⟨w.heap.size + 1, 0, none⟩ = some (cN s2) ∧ W2.cell? ⟨w.heap.size + 1, 1, none⟩ = some v2 ∧ Below w.heap.size w W2 := by
  have h1 := row_set 0 (.int .i64 s2) h.b1
  have h2 := row_set 1 v2 h1
  exact ⟨Lib.cell_of_heap h2 0, Lib.cell_of_heap h2 1, (h.bel.setCell (p := ⟨w.heap.size + 1, 0, none⟩) (by simp only; omega) _).setCell (p := ⟨w.heap.size + 1, 1, none⟩) (by simp only; omega) _⟩
set_option maxRecDepth 100000 in
set_option maxHeartbeats 1000000 in
theorem dec_short (D : ByteArray) (loc : Int) (w : World) (h : (D.size : Int) ≠ 2048) : Calls Tryz.prog 8 #[.string D, cN loc] w fun e w' => e = .returned (.tuple #[.agg #[cN 0, .slice none 0 0], cN 10]) ∧ Below w.heap.size w w' := by
  have hne : ((D.size : Int) != 2048) = true := by rw [bne_iff_ne]; exact h
  have HX := Lib.hid (DB.start w D)
  have p0 := Lib.cell_of_heap HX.out.b0 0
  have p1 := Lib.cell_of_heap HX.out.b1 0
  have p2 := Lib.cell_of_heap HX.out.b1 1
  have pf := fun j => Lib.frozen_of_heap HX.out.b1 j
  have p3 := Lib.cell_of_heap HX.out.b2 0
  have p4 := Lib.cell_of_heap HX.out.b2 1
  clear h
  go_enter Tryz.func8, Tryz.ntmps8
  go_wp2
  refine bodyPost_ret (v := .tuple #[.agg #[cN 0, .slice none 0 0], cN 10]) ?_ rfl ⟨rfl, HX.out.bel⟩
  simp [results, Tryz.results8, go_sem, p1, p2]
set_option maxRecDepth 100000 in
set_option maxHeartbeats 1000000 in
theorem dec_diff {D : ByteArray} {loc size crc x : Nat} (T : TG D loc size crc x) (loc2 : Int) (hne : ((loc : Int) != loc2) = true) (w : World) : Calls Tryz.prog 8 #[.string D, cN loc2] w fun e w' => e = .returned (.tuple #[.agg #[cN 0, .slice none 0 0], cN 10]) ∧ Below w.heap.size w w' := by
  have hs := T.sz
  have k1 := fun W => tis_diff T loc2 hne W
  have HX0 := Lib.hid (DB.start w D)
  clear T hne
  go_enter Tryz.func8, Tryz.ntmps8
  go_wp2_with (go_at_call 23; (with_reducible refine (k1 _).mono ?_); rintro e w1 ⟨rfl, hB1⟩; have HX := Lib.hid (HX0.out.below hB1); clear hB1 HX0; have p0 := Lib.cell_of_heap HX.out.b0 0; have p1 := Lib.cell_of_heap HX.out.b1 0; have p2 := Lib.cell_of_heap HX.out.b1 1; have pf := (fun j => Lib.frozen_of_heap HX.out.b1 j); have p3 := Lib.cell_of_heap HX.out.b2 0; have p4 := Lib.cell_of_heap HX.out.b2 1)
  obtain ⟨q0, q1, hq⟩ := HX.out.res 0 (.slice none 0 0)
  refine bodyPost_ret (v := .tuple #[.agg #[cN 0, .slice none 0 0], cN 10]) ?_ rfl ⟨rfl, hq⟩
  simp [results, Tryz.results8, go_sem, q0, q1]
/-- Decode's blocks with the table that is built. -/
structure DC (w : World) (D : ByteArray) (x : Nat) (s : Int) (v : Value) (W : World) : Prop where
  db : DB w D W
  bx : W.heap[x]? = some (.cells #[cN s, v] 24 (0, 0))
  lt : w.heap.size + 1 + 1 < x
theorem DC.below {w : World} {D : ByteArray} {x : Nat} {s : Int} {v : Value} {W W' : World} (h : DC w D x s v W) (k : Below W.heap.size W W') : DC w D x s v W' := ⟨h.db.below k, (k.block _ (lt_of_block h.bx)).trans h.bx, h.lt⟩
theorem DC.start {w : World} {D : ByteArray} {s : Int} {W : World} (h : DB w D W) : DC w D W.heap.size s (.slice none 0 0) (W.alloc (.cells #[cN s, .slice none 0 0] 24)) :=
  ⟨h.below ((Below.refl _ W).alloc (Nat.le_refl _) _), World.alloc_heap_new W _, lt_of_block h.b2⟩
theorem DC.app {w : World} {D : ByteArray} {x : Nat} {s : Int} {v v' : Value} {m : List Sp} {W W2 : World} {a b : Int} (h : DC w D x s v W) (ho : OW (x + 1) v m W) (hown : W2.ownsRow (x + 1) 54 2 v' (m.length + 1) (flat m ++ [cN a, cN b]))
    (hg : (W.alloc (.cells #[cN a, cN b] 54)).grownBy W2 v.ownBlock) : DC w D x s v W2 ∧ OW (x + 1) v' (m ++ [(a, b)]) W2 := by
  have hl := h.lt
  obtain ⟨h1, h2, h3⟩ := ho.app (w := w) (by omega) h.db.bel hown hg
  exact ⟨⟨⟨h3 _ _ (by omega) h.db.b0, h3 _ _ (by omega) h.db.b1, h3 _ _ (by omega) h.db.b2, h2⟩, h3 _ _ (by omega) h.bx, hl⟩, h1⟩
theorem DC.put {w : World} {D : ByteArray} {x : Nat} {s : Int} {v v' : Value} {m : List Sp} {W : World} (h : DC w D x s v W) (ho : OW (x + 1) v' m W) : DC w D x s v' (W.setCell ⟨x, 1, none⟩ v') ∧ OW (x + 1) v' m (W.setCell ⟨x, 1, none⟩ v') := by
  have hl := h.lt
  exact ⟨⟨⟨row_other 1 v' h.db.b0 (by omega), row_other 1 v' h.db.b1 (by omega), row_other 1 v' h.db.b2 (by omega), h.db.bel.setCell (p := ⟨x, 1, none⟩) (by simp only; omega) _⟩, row_set 1 v' h.bx, hl⟩, ho.other (by omega)⟩
/-- The result is written. -/
theorem DC.fin {w : World} {D : ByteArray} {x : Nat} {s : Int} {v : Value} {m : List Sp} {W : World} (h : DC w D x s v W) (ho : OW (x + 1) v m W) : let W2 := (W.setCell ⟨w.heap.size + 1, 0, none⟩ (.int .i64 s)).setCell ⟨w.heap.size + 1, 1, none⟩ v
    W2.cell? ⟨w.heap.size + 1, 0, none⟩ = some (cN s) ∧ W2.cell? ⟨w.heap.size + 1, 1, none⟩ = some v ∧ Below w.heap.size w W2 ∧ OW w.heap.size v m W2 := by
  have hl := h.lt
  obtain ⟨a, b, c⟩ := h.db.res s v
  exact ⟨a, b, c, ((ho.other (i := 0) (u := .int .i64 s) (g := w.heap.size + 1) (by omega)).other (i := 1) (u := v) (g := w.heap.size + 1) (by omega)).base (by omega)⟩
set_option maxRecDepth 100000 in
set_option maxHeartbeats 8000000 in
theorem dec_own (s : Int) (loc : Nat) (l : List Sp) (w : World) (hv : validB s l = true) (hl : loc < 4294967296) :
    Calls Tryz.prog 8 #[.string (blockB loc (bodyB s.toNat l)), cN (loc : Int)] w fun e w' => (∃ v, e = .returned (.tuple #[.agg #[cN s, v], cN 0]) ∧ OW w.heap.size v l w') ∧ Below w.heap.size w w' := by
  obtain ⟨i0, hi, hz0, hz1, hz2⟩ := info_parts spInfo
  have V := (valid_iff s l).1 hv
  obtain ⟨sn, rfl⟩ : ∃ sn : Nat, s = sn := ⟨s.toNat, by have := V.s0; omega⟩
  rw [Int.toNat_natCast]
  have hs1 : sn < 4294967296 := by have := V.s1; omega
  have hl8 := V.len
  have VW := Lib.hid V.w
  have T := block_tg loc (bodyB sn l) hl (by rw [bodyB_size]; omega)
  have hsz := T.sz
  have k1 := fun W => tis_same T W
  have hex := block_ent loc sn l
  have k2 : ∀ W, Calls Tryz.prog 26 #[.string ((blockB loc (bodyB sn l)).extract 16 48)] W fun e w' => (∃ suf, e = .returned (.tuple #[.string ⟨#[42, 85, 68, 70, 32, 83, 112, 97, 114, 105, 110, 103, 32, 84, 97, 98, 108, 101]⟩, .string suf, cN 0])) ∧ Below W.heap.size W w' := fun W => by rw [hex]; exact parsee_ok W
  have k3 : ∀ (P : Nat) W, W.cell? ⟨P, 0, none⟩ = some (.string (blockB loc (bodyB sn l))) → Calls Tryz.prog 24 #[cN 48, cN 2, .pointer (some ⟨P, 0, none⟩)] W fun e w' => e = .returned (cN (l.length : Int)) ∧ Below W.heap.size W w' := fun P W h => by
    have := dnum_ok _ 48 2 P W h (by omega) (by decide) (by decide) (by omega)
    rw [leR_n loc sn l hl8] at this
    exact this
  have k4 : ∀ (P : Nat) W, W.cell? ⟨P, 0, none⟩ = some (.string (blockB loc (bodyB sn l))) → Calls Tryz.prog 24 #[cN 52, cN 4, .pointer (some ⟨P, 0, none⟩)] W fun e w' => e = .returned (cN (sn : Int)) ∧ Below W.heap.size W w' := fun P W h => by
    have := dnum_ok _ 52 4 P W h (by omega) (by decide) (by decide) (by omega)
    rw [leR_seq loc sn l hs1] at this
    exact this
  have K5 : Hid (∀ (k : Nat) (P : Nat) (W : World), k < l.length → W.cell? ⟨P, 0, none⟩ = some (.string (blockB loc (bodyB sn l))) →
      (Calls Tryz.prog 24 #[cN (56 + 8 * (k : Int)), cN 4, .pointer (some ⟨P, 0, none⟩)] W fun e w' => e = .returned (cN (at_ l k).1) ∧ Below W.heap.size W w') ∧
      (Calls Tryz.prog 24 #[cN (60 + 8 * (k : Int)), cN 4, .pointer (some ⟨P, 0, none⟩)] W fun e w' => e = .returned (cN (at_ l k).2) ∧ Below W.heap.size W w')) := Lib.hid fun k P W hk h => by
    have hw := VW.out (at_ l k) (at_mem hk)
    obtain ⟨r1, r2⟩ := leR_row loc sn l k hk
    have h1 := dnum_ok _ (56 + 8 * k) 4 P W h (by omega) (by decide) (by decide) (by omega)
    have h2 := dnum_ok _ (60 + 8 * k) 4 P W h (by omega) (by decide) (by decide) (by omega)
    rw [r1, show (((at_ l k).1.toNat % 4294967296 : Nat) : Int) = (at_ l k).1 by omega, show ((56 + 8 * k : Nat) : Int) = 56 + 8 * (k : Int) by omega] at h1
    rw [r2, show (((at_ l k).2.toNat % 4294967296 : Nat) : Int) = (at_ l k).2 by omega, show ((60 + 8 * k : Nat) : Int) = 60 + 8 * (k : Int) by omega] at h2
    exact ⟨h1, h2⟩
  have k6 := fun v W (h : SL W v l) => valid_ok (sn : Int) v l W h
  rw [hv] at k6
  have g8 : ¬ (8 : Int) < (l.length : Int) := by omega
  clear T hex hv V VW
  generalize blockB loc (bodyB sn l) = D at *
  have HX0 := Lib.hid (DB.start w D)
  go_enter Tryz.func8, Tryz.ntmps8
  go_wp2_with (go_at_call 23; (with_reducible refine (k1 _).mono ?_); rintro e w1 ⟨rfl, hB1⟩; have HX := Lib.hid (HX0.out.below hB1); clear hB1 HX0 k1; have p0 := Lib.cell_of_heap HX.out.b0 0)
  with_reducible refine (k2 _).mono ?_
  rintro e w2 ⟨⟨suf, rfl⟩, hB2⟩
  have HX2 := Lib.hid (HX.out.below hB2)
  clear HX hB2 k2 p0
  go_wp2_with fail
  with_reducible refine (k3 _ _ (Lib.cell_of_heap HX2.out.b0 0)).mono ?_
  rintro e w3 ⟨rfl, hB3⟩
  have HX3 := Lib.hid (HX2.out.below hB3)
  clear HX2 hB3 k3
  go_wp2_with fail
  with_reducible refine (k4 _ _ (Lib.cell_of_heap HX3.out.b0 0)).mono ?_
  rintro e w4 ⟨rfl, hB4⟩
  have HX4 := Lib.hid (HX3.out.below hB4)
  clear HX3 hB4 k4
  have HC0 := Lib.hid (DC.start (s := (sn : Int)) HX4.out)
  go_wp2
  generalize w4.heap.size = x at *
  clear HX4
  go_loopw [50, 13] (fun i _ wr => ∃ (k : Nat) (v : Value), i = cN k ∧ k ≤ l.length ∧ DC w D x sn v wr ∧ OW (x + 1) v (l.take k) wr) (fun i _ _ => l.length - (intOf i).toNat)
  case atStart => exact ⟨0, _, rfl, Nat.zero_le _, HC0.out, OW.nil _ _⟩
  case round =>
    clear HC0
    obtain ⟨k, v, rfl, hk, hC, hO⟩ := hrel
    obtain ⟨a7, c7, rfl⟩ := hO.form
    have HC := Lib.hid hC
    have HO := Lib.hid hO
    clear hC hO
    by_cases hlt : (k : Int) < (l.length : Int)
    · have hkl : k < l.length := by omega
      have HT := Lib.hid (take_snocS l k hkl)
      have HTL := Lib.hid (show (l.take k).length = k by rw [List.length_take]; omega)
      generalize l.take k = t at *
      obtain ⟨xo, xm, hx⟩ : ∃ xo xm, at_ l k = (xo, xm) := ⟨_, _, rfl⟩
      have e1 : IntKind.i64.wrap (8 * (k : Int)) = 8 * (k : Int) := by rw [IntKind.wrap_i64]; omega
      have e2 : IntKind.i64.wrap (56 + 8 * (k : Int)) = 56 + 8 * (k : Int) := by rw [IntKind.wrap_i64]; omega
      have e3 : IntKind.i64.wrap (60 + 8 * (k : Int)) = 60 + 8 * (k : Int) := by rw [IntKind.wrap_i64]; omega
      have HCd := Lib.hid (HC.out.below (Below.refl _ wr).drew)
      have k5 := (K5.out k w.heap.size wr.drew hkl (Lib.cell_of_heap HCd.out.db.b0 0)).1
      have K6 := Lib.hid (fun W (h : DC w D x sn (.slice a7 t.length c7) W) => (K5.out k w.heap.size W hkl (Lib.cell_of_heap h.db.b0 0)).2)
      rw [hx] at k5 K6 HT
      simp only at k5
      clear hx
      go_wp2
      refine region_sch (fun W => DC w D x sn (.slice a7 t.length c7) W) [(true, 0), (true, 1), (true, 2), (true, 3), (true, 4), (true, 5), (true, 7), (true, 8), (true, 9), (true, 10), (false, 6), (false, 11), (true, 12), (false, 13)] [14, 15, 16] (by kernel_rfl) (by kernel_rfl) (by rintro ⟨_, _, ⟨_, h, -⟩, -⟩; cases h) (fun _ _ d _ _ h => by cases d <;> exact h) HCd.out ?_
      simp only [pickM, pickT, List.filterMap_cons, List.filterMap_nil, List.getElem?_cons_zero, List.getElem?_cons_succ, Option.map_some]
      repeat (first | (refine m_float ⟨?_, .inl ⟨?_, .inl ?_⟩, fun K' hK => ?_⟩; rotate_left; (first | rfl | (go_simp; done)); (intro w' hS; (have p1 := Lib.cell_of_heap hS.bx 1); go_simp; try rfl); (simp only [Act.put, List.setIfInBounds_toArray, List.set_cons_succ, List.set_cons_zero]; refine hK _ ?_; clear hK K')) | (refine m_float ⟨undef, .inr ⟨?_, rfl⟩, fun K' hK => ?_⟩; (first | rfl | (go_simp; done)); (simp only [Act.put, List.setIfInBounds_toArray, List.set_cons_succ, List.set_cons_zero]; refine hK _ ?_; clear hK K')))
      refine m_loud ?_ (fun K' hK => ?_)
      · rintro ⟨_, _, ⟨_, h, -⟩, -⟩; cases h
      go_wp2_with (go_at_call 24; (with_reducible refine k5.mono ?_); rintro e w5 ⟨rfl, hB5⟩)
      have HC5 := Lib.hid (HCd.out.below hB5)
      have HO5 := Lib.hid ((HO.out.keep (Below.refl _ wr).drew).keep hB5)
      refine hK _ _ HC5.out ?_
      clear hK K'
      have k6' := K6.out _ HC5.out
      refine m_loud ?_ (fun K' hK => ?_)
      · rintro ⟨_, _, ⟨_, h, -⟩, -⟩; cases h
      go_wp2_with (go_at_call 24; (with_reducible refine k6'.mono ?_); rintro e w6 ⟨rfl, hB6⟩)
      have HC6 := Lib.hid (HC5.out.below hB6)
      have HO6 := Lib.hid (HO5.out.keep hB6)
      refine hK _ _ HC6.out ?_
      clear hK K'
      repeat (first | (refine m_float ⟨?_, .inl ⟨?_, .inl ?_⟩, fun K' hK => ?_⟩; rotate_left; (first | rfl | (go_simp; done)); (intro w' hS; skip; go_simp; try rfl); (simp only [Act.put, List.setIfInBounds_toArray, List.set_cons_succ, List.set_cons_zero]; refine hK _ ?_; clear hK K')) | (refine m_float ⟨undef, .inr ⟨?_, rfl⟩, fun K' hK => ?_⟩; (first | rfl | (go_simp; done)); (simp only [Act.put, List.setIfInBounds_toArray, List.set_cons_succ, List.set_cons_zero]; refine hK _ ?_; clear hK K')))
      refine m_loud ?_ (fun K' hK => ?_)
      · rintro ⟨_, _, ⟨_, h, -⟩, -⟩; cases h
      go_wp2
      refine hK _ _ (HC6.out.below ((Below.refl _ _).alloc (Nat.le_refl _) _)) ?_
      clear hK K'
      refine m_nil ?_
      show wpList Tryz.prog _ _ (List.cons _ _) _ _
      clear hB5 hB6 k5 k6'
      go_wp2_with (at_builtin; refine wpList_append_own _ rfl _ _ 22 rfl (x + 1) 54 i0 (.agg #[.int .i64 0, .int .i64 0]) 2 16 Tryz.underlying22 hi hz0 hz1 hz2 rfl (by decide) _ (List.length t) (flat t) rfl (HO6.out.keep ((Below.refl _ w6).alloc (Nat.le_refl _) _)) ⟨w6.heap.size, 0, none⟩ 1 1 [cN xo, cN xm] rfl rfl ?c1 ?c2 ?c3 ?c4 ?c5 ?_)
      try case c1 => intro j u hj; exact cells2 _ _ _ _ j u hj
      case c2 => first | (intro u hu; simp at hu; rcases hu with rfl | rfl <;> rfl) | exact ⟨rfl, rfl⟩
      case c3 => have := HTL.out; unfold maxLen; omega
      case c4 => have := HTL.out; omega
      case c5 => have h0 := lt_of_block HC6.out.bx; simp; omega
      intro v' w7 hown hgrow _
      obtain ⟨h7, o7⟩ := HC6.out.app HO6.out hown hgrow
      have p7 := Lib.cell_of_heap h7.bx 1
      have f7 := Lib.frozen_of_heap h7.bx 1
      obtain ⟨h8, o8⟩ := h7.put o7
      have HC8 := Lib.hid h8
      have HO8 := Lib.hid o8
      obtain ⟨a9, c9, rfl⟩ := o8.form
      have hlt9 : (t ++ [(xo, xm)]).length = t.length + 1 := by simp
      rw [hlt9] at HC8 HO8 ⊢
      clear hown hgrow h7 o7 h8 o8 hlt9
      go_wp2
      go_roundw
      case rel => exact ⟨k + 1, _, by go_num, by omega, HC8.out, by rw [HT.out]; exact HO8.out⟩
      case measure => simp [intOf]; omega
    · obtain rfl : k = l.length := by omega
      rw [List.take_length] at HC HO
      have q1 := Lib.cell_of_heap HC.out.bx 0
      have q2 := Lib.cell_of_heap HC.out.bx 1
      try rw [List.take_length]
      go_wp2_with (go_at_call 10; (with_reducible refine (k6 _ _ HO.out.sl).mono ?_); rintro e w8 ⟨rfl, hB8⟩; have HC8 := Lib.hid (HC.out.below hB8); have HO8 := Lib.hid (HO.out.keep hB8); clear hB8 q1 q2; have q1 := Lib.cell_of_heap HC8.out.bx 0; have q2 := Lib.cell_of_heap HC8.out.bx 1; have p1 := Lib.cell_of_heap HC8.out.db.b1 0; have p2 := Lib.cell_of_heap HC8.out.db.b1 1; have pf := (fun j => Lib.frozen_of_heap HC8.out.db.b1 j))
      obtain ⟨z0, z1, hb, hsl⟩ := HC8.out.fin HO8.out
      refine bodyPost_ret (v := .tuple #[.agg #[cN (sn : Int), .slice a7 l.length c7], cN 0]) ?_ rfl ⟨⟨_, rfl, hsl⟩, hb⟩
      simp [results, Tryz.results8, go_sem, z0, z1]
theorem dec_same (s : Int) (loc : Nat) (l : List Sp) (w : World) (hv : validB s l = true) (hl : loc < 4294967296) :
    Calls Tryz.prog 8 #[.string (blockB loc (bodyB s.toNat l)), cN (loc : Int)] w fun e w' => (∃ v, e = .returned (.tuple #[.agg #[cN s, v], cN 0]) ∧ SL w' v l) ∧ Below w.heap.size w w' :=
  (dec_own s loc l w hv hl).mono fun _ _ ⟨⟨v, he, ho⟩, hb⟩ => ⟨⟨v, he, ho.sl⟩, hb⟩
end Go.Proofs.YtocncjimepnlcaaGreatDoor
