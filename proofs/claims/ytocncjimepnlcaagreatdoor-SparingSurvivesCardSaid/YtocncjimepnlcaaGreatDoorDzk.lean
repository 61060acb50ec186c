/- The law SparingSurvives, where the packet is replaced. -/
import Derived.Test.YtocncjimepnlcaaGreatDoorDzj
import Derived.Test.YtocncjimepnlcaaGreatDoorRgn
namespace Go.Proofs.YtocncjimepnlcaaGreatDoor
set_option linter.unusedSimpArgs false
set_option linter.unusedVariables false
open Go Go.RowKit
theorem own_keepG {base e size n : Nat} {o : Value} {c : List Value} {W W' : World} (h : W.ownsRow base e size o n c) (k : Below W.heap.size W W') : W'.ownsRow base e size o n c := by
  refine ⟨h.1, ?_⟩
  rcases h.2 with hn | ⟨g, cap, cur, rfl, hb, hg, rest⟩
  · exact .inl hn
  · exact .inr ⟨g, cap, cur, rfl, hb, (k.block _ (lt_of_block hg)).trans hg, rest⟩
theorem own_formG {base e size n : Nat} {o : Value} {c : List Value} {W : World} (h : W.ownsRow base e size o n c) : ∃ a k, o = .slice a n k := by
  rcases h.2 with ⟨hv, hn⟩ | ⟨g, cap, cur, hv, -⟩
  · exact ⟨none, 0, by rw [hn]; exact hv⟩
  · exact ⟨_, _, hv⟩
set_option maxRecDepth 100000 in
set_option maxHeartbeats 16000000 in
theorem lssur_good (s : Int) (a : Option Addr) (c : Nat) (l : List Sp) (x : Int) (n0 n1 : Nat) (cut : Int) (w : World) (hn : ¬ (20 : Int) < (l.length : Int)) (h : SL w (.slice a l.length c) l) (hk : (((n0 : Nat) : Int) == (n1 : Int)) = false) (h0 : n0 < 65536) (h1 : n1 < 65536) (hc0 : 0 ≤ cut) (hc1 : cut ≤ 255) (hv : validB s l = true)
    (k3 : ∀ W, SL W (.slice a l.length c) l → Calls Tryz.prog 11 #[.agg #[cN s, .slice a l.length c], cN x] W fun e w' => (∃ v u m, e = .returned (.tuple #[.agg #[cN (s + 1), v], cN m, cN 0]) ∧ SL w' v u ∧ validB (s + 1) u = true) ∧ Below W.heap.size W w') :
    Calls Tryz.prog 4 #[.agg #[cN s, .slice a l.length c], cN x, .agg #[.int .u16 (n0 : Int), .int .u16 (n1 : Int)], .int .u8 cut] w fun e w' => e = .returned (.bool true) ∧ Below w.heap.size w w' := by
  obtain ⟨i0, hi, hz0, hz1, hz2⟩ := info_parts strInfo
  have hd := decide_eq_false hn
  have H := Lib.hid (SV.start (s := s) (n0 : Int) (n1 : Int) h)
  have w0 : IntKind.i64.wrap (n0 : Int) = (n0 : Int) := by rw [IntKind.wrap_i64]; omega
  have w1 : IntKind.i64.wrap (n1 : Int) = (n1 : Int) := by rw [IntKind.wrap_i64]; omega
  have wc : IntKind.i64.wrap cut = cut := by rw [IntKind.wrap_i64]; omega
  obtain ⟨ue, ul⟩ := upd_two hv h0 h1
  have Y0 := Lib.hid (block_dy hv h0)
  have Y1 := Lib.hid (block_dy hv h1)
  generalize hB0 : blockB n0 (bodyB s.toNat l) = B0 at *
  generalize hB1 : blockB n1 (bodyB s.toNat l) = B1 at *
  clear hB0 hB1
  have HLL := Lib.hid (show l.length ≤ 1000 by omega)
  have UL := Lib.hid (And.intro ue ul)
  clear h hn ue ul hv
  go_enter Tryz.func4, Tryz.ntmps4
  go_wp2_with (first | (go_at_call 5; (with_reducible refine (awake_ok _).mono ?_); rintro e w1 ⟨rfl, hB1⟩; have H1 := H.out.below hB1; clear hB1 H; have p1' := Lib.cell_of_heap H1.b0 0; have p2' := Lib.cell_of_heap H1.b0 1; have p3' := Lib.cell_of_heap H1.b1 0; have p4' := Lib.cell_of_heap H1.b1 1; have H := Lib.hid H1; clear H1) | (go_at_call 6; (with_reducible refine (few_ok s a l.length c _ _ (World.alloc_heap_new _ _)).mono ?_); rw [hd]; rintro e w2 ⟨rfl, hB2⟩; have H1 := (H.out.below ((Below.refl _ _).alloc (Nat.le_refl _) _)).below hB2; clear hB2 H p1' p2' p3' p4'; have p3' := Lib.cell_of_heap H1.b1 0; have p4' := Lib.cell_of_heap H1.b1 1; have HQ := Lib.hid (QV.start H1); have p1' := Lib.cell_of_heap HQ.out.sv.b0 0; have p2' := Lib.cell_of_heap HQ.out.sv.b0 1; clear H1))
  generalize w2.heap.size = xa at *
  with_reducible refine (k3 _ HQ.out.sv.sl).mono ?_
  rintro e w3 ⟨⟨v3, u, m, rfl, hS3, hvu⟩, hB3⟩
  obtain ⟨a3, c3, rfl⟩ := hS3.form
  have HT := Lib.hid (TB.new (s := s + 1) hS3)
  have HQ3 := Lib.hid ((HQ.out.below hB3).below ((Below.refl _ _).alloc (Nat.le_refl _) (.cells #[cN (s + 1), .slice a3 u.length c3] 24)))
  clear HQ hB3 k3 p1' p2' p3' p4' hS3
  obtain ⟨ue, ul⟩ := upd_two hvu h0 h1
  have Z0 := Lib.hid (block_dy hvu h0)
  have Z1 := Lib.hid (block_dy hvu h1)
  have HUL := Lib.hid (show u.length ≤ 1000 by have := ((valid_iff _ _).1 hvu).len; omega)
  generalize hC0 : blockB n0 (bodyB (s + 1).toNat u) = C0 at *
  generalize hC1 : blockB n1 (bodyB (s + 1).toNat u) = C1 at *
  clear hC0 hC1 hvu
  have UU := Lib.hid (And.intro ue ul)
  clear ue ul h0 h1
  have p1' := Lib.cell_of_heap HQ3.out.sv.b0 0
  have p2' := Lib.cell_of_heap HQ3.out.sv.b0 1
  go_wp2_with fail
  generalize w3.heap.size = x3 at *
  with_reducible refine (supd2_ok s _ l _ _ xa _ HQ3.out.sv.sl HQ3.out.row).mono ?_
  rintro e w4 ⟨v4, rfl, hF, hB4⟩
  rw [UL.out.1]
  rw [UL.out.2] at hF
  have HF := Lib.hid hF
  have HQ4 := Lib.hid (HQ3.out.below hB4)
  have HT4 := Lib.hid (HT.out.below hB4)
  clear HQ3 HT hB4 p1' p2' hF UL
  have p1' := Lib.cell_of_heap HT4.out.b 0
  have p2' := Lib.cell_of_heap HT4.out.b 1
  go_wp2_with fail
  with_reducible refine (supd2_ok (s + 1) _ u _ _ xa _ HT4.out.sl HQ4.out.row).mono ?_
  rintro e wB ⟨v5, rfl, hG, hB5⟩
  rw [UU.out.1]
  rw [UU.out.2] at hG
  have HQB := Lib.hid (HQ4.out.below hB5)
  have HTB := Lib.hid (HT4.out.below hB5)
  obtain ⟨fb, fo, fc, fg0, fg1, rfl, hfc, hF⟩ := (HF.out.below hB5).two
  obtain ⟨gb, go, gc, gg0, gg1, rfl, hgc, hG⟩ := hG.two
  have F := Lib.hid hF
  have G := Lib.hid hG
  have XA : Hid (xa < wB.heap.size ∧ wB.cell? ⟨xa, 0, none⟩ = some (cN (n0 : Int)) ∧ wB.cell? ⟨xa, 1, none⟩ = some (cN (n1 : Int))) := Lib.hid ⟨lt_of_block HQB.out.ba, Lib.cell_of_heap HQB.out.ba 0, Lib.cell_of_heap HQB.out.ba 1⟩
  clear HQ4 HT4 hB5 p1' p2' HF hF hG UU
  go_wp2
  go_loopw [82, 18, 17] (fun i _ o wr => (i = cN 0 ∧ o = .slice none 0 0 ∧ Below wB.heap.size wB wr) ∨ (i = cN 1 ∧ wr.ownsRow wB.heap.size 9 1 o 1 [.string B0] ∧ Below wB.heap.size wB wr) ∨ (i = cN 2 ∧ wr.ownsRow wB.heap.size 9 1 o 2 [.string B0, .string B1] ∧ Below wB.heap.size wB wr)) (fun i _ _ _ => 2 - (intOf i).toNat)
  case atStart => exact .inl ⟨rfl, rfl, Below.refl _ wB⟩
  case round =>
    rcases hrel with ⟨rfl, rfl, hB⟩ | ⟨rfl, ho, hB⟩ | ⟨rfl, ho, hB⟩
    · have HB := Lib.hid hB
      clear hB
      have HD := Lib.hid (HB.out.drew)
      go_wp2
      refine region_sch (fun W => Below wB.heap.size wB W) [(true, 0), (true, 1), (true, 2), (true, 3), (true, 4), (true, 5), (true, 6), (true, 7), (true, 8), (true, 9), (true, 10), (true, 11), (true, 12), (true, 13), (true, 14), (true, 15), (true, 16), (true, 17), (true, 18), (true, 19), (true, 20), (true, 21), (true, 22), (true, 23), (true, 24), (true, 25), (true, 26), (true, 27), (true, 28), (true, 29), (true, 30), (true, 31), (true, 32), (true, 33), (true, 34), (true, 35), (true, 36), (true, 37), (true, 38), (true, 39), (true, 40), (true, 41), (true, 42)] [43, 44, 45, 46, 47] (by kernel_rfl) (by kernel_rfl) (by rintro ⟨_, _, h, _⟩; cases h) (fun _ _ d _ _ h => by cases d <;> exact h) HD.out ?_
      simp only [pickM, pickT, List.filterMap_cons, List.filterMap_nil, List.getElem?_cons_zero, List.getElem?_cons_succ, Option.map_some]
      repeat (first | (refine m_float ⟨?_, .inl ⟨?_, .inl ?_⟩, fun K' hK => ?_⟩; rotate_left; (first | rfl | (go_simp; done)); (intro w' hS; (obtain ⟨-, -, -, f0, f1, f2, f4, f5, f6, t0, t1⟩ := (F.out.below hS : W2C _ _ _ _ _ _ _ _ _); obtain ⟨-, -, -, g0, g1, g2, g4, g5, g6, u0, u1⟩ := (G.out.below hS : W2C _ _ _ _ _ _ _ _ _); have x0 := (hS.cell (p := ⟨xa, 0, none⟩) XA.out.1).trans XA.out.2.1; have x1 := (hS.cell (p := ⟨xa, 1, none⟩) XA.out.1).trans XA.out.2.2); go_simp; try rfl); (simp only [Act.put, List.setIfInBounds_toArray, List.set_cons_succ, List.set_cons_zero]; refine hK _ ?_; clear hK K')) | (refine m_float ⟨undef, .inr ⟨?_, rfl⟩, fun K' hK => ?_⟩; (first | rfl | (go_simp; done)); (simp only [Act.put, List.setIfInBounds_toArray, List.set_cons_succ, List.set_cons_zero]; refine hK _ ?_; clear hK K')))
      refine m_nil ?_
      show wpList Tryz.prog _ _ (List.cons _ _) _ _
      skip
      generalize wr.drew = W6 at *
      obtain ⟨-, -, -, f0, f1, f2, f4, f5, f6, t0, t1⟩ := (F.out.below HD.out : W2C _ _ _ _ _ _ _ _ _)
      obtain ⟨-, -, -, g0, g1, g2, g4, g5, g6, u0, u1⟩ := (G.out.below HD.out : W2C _ _ _ _ _ _ _ _ _)
      have x0 := (HD.out.cell (p := ⟨xa, 0, none⟩) XA.out.1).trans XA.out.2.1
      have x1 := (HD.out.cell (p := ⟨xa, 1, none⟩) XA.out.1).trans XA.out.2.2
      go_wp2_with (at_builtin; refine wpList_append_own _ rfl _ _ 43 rfl wB.heap.size 9 i0 (.string ByteArray.empty) 1 16 Tryz.underlying43 hi hz0 hz1 hz2 rfl (by decide) (.slice none 0 0) 0 [] rfl ⟨rfl, .inl ⟨rfl, rfl⟩⟩ ⟨W6.heap.size, 0, none⟩ 1 1 [.string B0] rfl rfl ?c1 ?c2 ?c3 ?c4 ?c5 ?_)
      try case c1 => intro j u h; exact cell_one_new _ _ _ j u h
      try case c2 => first | rfl | (intro u h; rw [List.mem_singleton.1 h]; rfl)
      try case c3 => unfold maxLen; omega
      try case c4 => omega
      try case c5 => have := HD.out.size; simp; omega
      intro v' w7 hown hgrow _
      have HB7 : Hid (Below wB.heap.size wB w7) := Lib.hid ((HD.out.alloc HD.out.size _).grown hgrow (by have := HD.out.size; simp; omega) (fun k hk => by simp [Value.ownBlock] at hk))
      have HO7 := Lib.hid hown
      obtain ⟨a7, c7, rfl⟩ := own_formG hown
      clear hown hgrow f0 f1 f2 f4 f5 f6 t0 t1 g0 g1 g2 g4 g5 g6 u0 u1 x0 x1
      go_wp2
      go_roundw
      case rel => exact .inr (.inl ⟨rfl, HO7.out, HB7.out⟩)
      case measure => simp [intOf]
    · obtain ⟨a6, c6, rfl⟩ := own_formG ho
      have HB := Lib.hid hB
      clear hB
      have HD := Lib.hid (HB.out.drew)
      go_wp2
      refine region_sch (fun W => Below wB.heap.size wB W) [(true, 0), (true, 1), (true, 2), (true, 3), (true, 4), (true, 5), (true, 6), (true, 7), (true, 8), (true, 9), (true, 10), (true, 11), (true, 12), (true, 13), (true, 14), (true, 15), (true, 16), (true, 17), (true, 18), (true, 19), (true, 20), (true, 21), (true, 22), (true, 23), (true, 24), (true, 25), (true, 26), (true, 27), (true, 28), (true, 29), (true, 30), (true, 31), (true, 32), (true, 33), (true, 34), (true, 35), (true, 36), (true, 37), (true, 38), (true, 39), (true, 40), (true, 41), (true, 42)] [43, 44, 45, 46, 47] (by kernel_rfl) (by kernel_rfl) (by rintro ⟨_, _, h, _⟩; cases h) (fun _ _ d _ _ h => by cases d <;> exact h) HD.out ?_
      simp only [pickM, pickT, List.filterMap_cons, List.filterMap_nil, List.getElem?_cons_zero, List.getElem?_cons_succ, Option.map_some]
      repeat (first | (refine m_float ⟨?_, .inl ⟨?_, .inl ?_⟩, fun K' hK => ?_⟩; rotate_left; (first | rfl | (go_simp; done)); (intro w' hS; (obtain ⟨-, -, -, f0, f1, f2, f4, f5, f6, t0, t1⟩ := (F.out.below hS : W2C _ _ _ _ _ _ _ _ _); obtain ⟨-, -, -, g0, g1, g2, g4, g5, g6, u0, u1⟩ := (G.out.below hS : W2C _ _ _ _ _ _ _ _ _); have x0 := (hS.cell (p := ⟨xa, 0, none⟩) XA.out.1).trans XA.out.2.1; have x1 := (hS.cell (p := ⟨xa, 1, none⟩) XA.out.1).trans XA.out.2.2); go_simp; try rfl); (simp only [Act.put, List.setIfInBounds_toArray, List.set_cons_succ, List.set_cons_zero]; refine hK _ ?_; clear hK K')) | (refine m_float ⟨undef, .inr ⟨?_, rfl⟩, fun K' hK => ?_⟩; (first | rfl | (go_simp; done)); (simp only [Act.put, List.setIfInBounds_toArray, List.set_cons_succ, List.set_cons_zero]; refine hK _ ?_; clear hK K')))
      refine m_nil ?_
      show wpList Tryz.prog _ _ (List.cons _ _) _ _
      have ho := own_keepG ho (Below.refl _ wr).drew
      generalize wr.drew = W6 at *
      obtain ⟨-, -, -, f0, f1, f2, f4, f5, f6, t0, t1⟩ := (F.out.below HD.out : W2C _ _ _ _ _ _ _ _ _)
      obtain ⟨-, -, -, g0, g1, g2, g4, g5, g6, u0, u1⟩ := (G.out.below HD.out : W2C _ _ _ _ _ _ _ _ _)
      have x0 := (HD.out.cell (p := ⟨xa, 0, none⟩) XA.out.1).trans XA.out.2.1
      have x1 := (HD.out.cell (p := ⟨xa, 1, none⟩) XA.out.1).trans XA.out.2.2
      go_wp2_with (at_builtin; refine wpList_append_own _ rfl _ _ 43 rfl wB.heap.size 9 i0 (.string ByteArray.empty) 1 16 Tryz.underlying43 hi hz0 hz1 hz2 rfl (by decide) _ 1 [.string B0] rfl (own_keepG ho ((Below.refl _ W6).alloc (Nat.le_refl _) _)) ⟨W6.heap.size, 0, none⟩ 1 1 [.string B1] rfl rfl ?c1 ?c2 ?c3 ?c4 ?c5 ?_)
      try case c1 => intro j u h; exact cell_one_new _ _ _ j u h
      try case c2 => first | rfl | (intro u h; rw [List.mem_singleton.1 h]; rfl)
      try case c3 => unfold maxLen; omega
      try case c4 => omega
      try case c5 => have := HD.out.size; simp; omega
      intro v' w7 hown hgrow _
      have HB7 : Hid (Below wB.heap.size wB w7) := Lib.hid ((HD.out.alloc HD.out.size _).grown hgrow (by have := HD.out.size; simp; omega) (fun k e => (ho.lt k e).1))
      have HO7 := Lib.hid hown
      obtain ⟨a7, c7, rfl⟩ := own_formG hown
      clear hown hgrow f0 f1 f2 f4 f5 f6 t0 t1 g0 g1 g2 g4 g5 g6 u0 u1 x0 x1
      go_wp2
      go_roundw
      case rel => exact .inr (.inr ⟨rfl, HO7.out, HB7.out⟩)
      case measure => simp [intOf]
    · obtain ⟨bg, bc, rfl, hbc, hK⟩ := BK.start ho hB
      have HK0 := Lib.hid hK
      clear ho hB hK
      obtain ⟨nn, hnn⟩ : ∃ nn, Int.tmod cut 3 = nn := ⟨_, rfl⟩
      have hn3 : nn = 0 ∨ nn = 1 ∨ nn = 2 := by rw [Int.tmod_eq_emod_of_nonneg hc0] at hnn; omega
      rcases hn3 with rfl | rfl | rfl
      · go_wp2
        go_loopw [148, 20] (fun i _ wq => i = cN 0 ∧ BK wB bg B0 B1 wq) (fun _ _ _ => 0)
        case atStart => exact ⟨rfl, HK0.out⟩
        case round =>
          obtain ⟨rfl, hK⟩ := hrel
          have HK := Lib.hid hK
          clear hK
          obtain ⟨z0, z1, zf⟩ := HK.out.cells
          obtain ⟨-, -, -, f0, f1, f2, f4, f5, f6, t0, t1⟩ := (F.out.below HK.out.bel : W2C _ _ _ _ _ _ _ _ _)
          obtain ⟨-, -, -, g0, g1, g2, g4, g5, g6, u0, u1⟩ := (G.out.below HK.out.bel : W2C _ _ _ _ _ _ _ _ _)
          have x0 := (HK.out.bel.cell (p := ⟨xa, 0, none⟩) XA.out.1).trans XA.out.2.1
          have x1 := (HK.out.bel.cell (p := ⟨xa, 1, none⟩) XA.out.1).trans XA.out.2.2
          go_wp2_with fail
          clear z0 z1 zf f0 f1 f2 f4 f5 f6 t0 t1 g0 g1 g2 g4 g5 g6 u0 u1 x0 x1
          have HK2 := Lib.hid (HK.out.put0 ⟨#[33]⟩)
          with_reducible refine (prev_second bg bc xa 2 ⟨#[33]⟩ B1 (n0 : Int) (n1 : Int) s l _ HK2.out.lt (by have := XA.out.1; have := HK2.out.bel.size; omega) HK2.out.cells.1 HK2.out.cells.2.1 ((HK2.out.bel.cell (p := ⟨xa, 0, none⟩) XA.out.1).trans XA.out.2.1) ((HK2.out.bel.cell (p := ⟨xa, 1, none⟩) XA.out.1).trans XA.out.2.2) (bang_dn _) Y1.out).mono ?_
          rintro e w9 ⟨⟨v9, rfl, hS9⟩, hB9⟩
          obtain ⟨a9, c9, rfl⟩ := hS9.form
          have HE := Lib.hid (HK2.out.bel.trans (hB9.mono HK2.out.bel.size))
          have T9 := Lib.hid (TB.new (s := s) hS9)
          have SV9 := Lib.hid ((HQB.out.sv.below HE.out).below ((Below.refl _ _).alloc (Nat.le_refl _) (.cells #[cN s, .slice a9 (l).length c9] 24)))
          have TB9 := Lib.hid ((HTB.out.below HE.out).below ((Below.refl _ _).alloc (Nat.le_refl _) (.cells #[cN s, .slice a9 (l).length c9] 24)))
          have r1 := Lib.cell_of_heap T9.out.b 0
          have r2 := Lib.cell_of_heap T9.out.b 1
          have r3 := Lib.cell_of_heap SV9.out.b0 0
          have r4 := Lib.cell_of_heap SV9.out.b0 1
          clear hS9 hB9
          go_wp2_with fail
          with_reducible refine (same_sl s _ _ l _ HLL.out T9.out.sl SV9.out.sl).mono ?_
          rintro e w10 ⟨rfl, hB10⟩
          go_wp2
          go_ret
          exact ⟨rfl, bthen SV9.out.bel hB10⟩
      · go_wp2
        go_loopw [148, 20] (fun i _ wq => (i = cN 0 ∧ BK wB bg B0 B1 wq) ∨ (i = cN 1 ∧ BK wB bg C0 B1 wq)) (fun i _ _ => 1 - (intOf i).toNat)
        case atStart => exact .inl ⟨rfl, HK0.out⟩
        case round =>
          rcases hrel with ⟨rfl, hK⟩ | ⟨rfl, hK⟩
          · have HK := Lib.hid hK
            clear hK
            obtain ⟨z0, z1, zf⟩ := HK.out.cells
            obtain ⟨-, -, -, f0, f1, f2, f4, f5, f6, t0, t1⟩ := (F.out.below HK.out.bel : W2C _ _ _ _ _ _ _ _ _)
            obtain ⟨-, -, -, g0, g1, g2, g4, g5, g6, u0, u1⟩ := (G.out.below HK.out.bel : W2C _ _ _ _ _ _ _ _ _)
            have x0 := (HK.out.bel.cell (p := ⟨xa, 0, none⟩) XA.out.1).trans XA.out.2.1
            have x1 := (HK.out.bel.cell (p := ⟨xa, 1, none⟩) XA.out.1).trans XA.out.2.2
            go_wp2
            clear z0 z1 zf f0 f1 f2 f4 f5 f6 t0 t1 g0 g1 g2 g4 g5 g6 u0 u1 x0 x1
            go_roundw
            case rel => exact .inr ⟨rfl, HK.out.put0 C0⟩
            case measure => simp [intOf]
          · have HK := Lib.hid hK
            clear hK
            obtain ⟨z0, z1, zf⟩ := HK.out.cells
            obtain ⟨-, -, -, f0, f1, f2, f4, f5, f6, t0, t1⟩ := (F.out.below HK.out.bel : W2C _ _ _ _ _ _ _ _ _)
            obtain ⟨-, -, -, g0, g1, g2, g4, g5, g6, u0, u1⟩ := (G.out.below HK.out.bel : W2C _ _ _ _ _ _ _ _ _)
            have x0 := (HK.out.bel.cell (p := ⟨xa, 0, none⟩) XA.out.1).trans XA.out.2.1
            have x1 := (HK.out.bel.cell (p := ⟨xa, 1, none⟩) XA.out.1).trans XA.out.2.2
            go_wp2_with fail
            clear z0 z1 zf f0 f1 f2 f4 f5 f6 t0 t1 g0 g1 g2 g4 g5 g6 u0 u1 x0 x1
            have HK2 := Lib.hid (HK.out.put1 ⟨#[33]⟩)
            with_reducible refine (prev_first bg bc xa 2 C0 ⟨#[33]⟩ (n0 : Int) (n1 : Int) (s + 1) u _ HK2.out.lt (by have := XA.out.1; have := HK2.out.bel.size; omega) HK2.out.cells.1 HK2.out.cells.2.1 ((HK2.out.bel.cell (p := ⟨xa, 0, none⟩) XA.out.1).trans XA.out.2.1) ((HK2.out.bel.cell (p := ⟨xa, 1, none⟩) XA.out.1).trans XA.out.2.2) Z0.out (bang_dn _)).mono ?_
            rintro e w9 ⟨⟨v9, rfl, hS9⟩, hB9⟩
            obtain ⟨a9, c9, rfl⟩ := hS9.form
            have HE := Lib.hid (HK2.out.bel.trans (hB9.mono HK2.out.bel.size))
            have T9 := Lib.hid (TB.new (s := (s + 1)) hS9)
            have SV9 := Lib.hid ((HQB.out.sv.below HE.out).below ((Below.refl _ _).alloc (Nat.le_refl _) (.cells #[cN (s + 1), .slice a9 (u).length c9] 24)))
            have TB9 := Lib.hid ((HTB.out.below HE.out).below ((Below.refl _ _).alloc (Nat.le_refl _) (.cells #[cN (s + 1), .slice a9 (u).length c9] 24)))
            have r1 := Lib.cell_of_heap T9.out.b 0
            have r2 := Lib.cell_of_heap T9.out.b 1
            have r3 := Lib.cell_of_heap TB9.out.b 0
            have r4 := Lib.cell_of_heap TB9.out.b 1
            clear hS9 hB9
            go_wp2_with fail
            with_reducible refine (same_sl (s + 1) _ _ u _ HUL.out T9.out.sl TB9.out.sl).mono ?_
            rintro e w10 ⟨rfl, hB10⟩
            go_wp2
            go_ret
            exact ⟨rfl, bthen SV9.out.bel hB10⟩
      · go_wp2
        go_loopw [148, 20] (fun i _ wq => (i = cN 0 ∧ BK wB bg B0 B1 wq) ∨ (i = cN 1 ∧ BK wB bg C0 B1 wq) ∨ (i = cN 2 ∧ BK wB bg C0 C1 wq)) (fun i _ _ => 2 - (intOf i).toNat)
        case atStart => exact .inl ⟨rfl, HK0.out⟩
        case round =>
          rcases hrel with ⟨rfl, hK⟩ | ⟨rfl, hK⟩ | ⟨rfl, hK⟩
          · have HK := Lib.hid hK
            clear hK
            obtain ⟨z0, z1, zf⟩ := HK.out.cells
            obtain ⟨-, -, -, f0, f1, f2, f4, f5, f6, t0, t1⟩ := (F.out.below HK.out.bel : W2C _ _ _ _ _ _ _ _ _)
            obtain ⟨-, -, -, g0, g1, g2, g4, g5, g6, u0, u1⟩ := (G.out.below HK.out.bel : W2C _ _ _ _ _ _ _ _ _)
            have x0 := (HK.out.bel.cell (p := ⟨xa, 0, none⟩) XA.out.1).trans XA.out.2.1
            have x1 := (HK.out.bel.cell (p := ⟨xa, 1, none⟩) XA.out.1).trans XA.out.2.2
            go_wp2
            clear z0 z1 zf f0 f1 f2 f4 f5 f6 t0 t1 g0 g1 g2 g4 g5 g6 u0 u1 x0 x1
            go_roundw
            case rel => exact .inr (.inl ⟨rfl, HK.out.put0 C0⟩)
            case measure => simp [intOf]
          · have HK := Lib.hid hK
            clear hK
            obtain ⟨z0, z1, zf⟩ := HK.out.cells
            obtain ⟨-, -, -, f0, f1, f2, f4, f5, f6, t0, t1⟩ := (F.out.below HK.out.bel : W2C _ _ _ _ _ _ _ _ _)
            obtain ⟨-, -, -, g0, g1, g2, g4, g5, g6, u0, u1⟩ := (G.out.below HK.out.bel : W2C _ _ _ _ _ _ _ _ _)
            have x0 := (HK.out.bel.cell (p := ⟨xa, 0, none⟩) XA.out.1).trans XA.out.2.1
            have x1 := (HK.out.bel.cell (p := ⟨xa, 1, none⟩) XA.out.1).trans XA.out.2.2
            go_wp2
            clear z0 z1 zf f0 f1 f2 f4 f5 f6 t0 t1 g0 g1 g2 g4 g5 g6 u0 u1 x0 x1
            go_roundw
            case rel => exact .inr (.inr ⟨rfl, HK.out.put1 C1⟩)
            case measure => simp [intOf]
          · have HK := Lib.hid hK
            clear hK
            obtain ⟨z0, z1, zf⟩ := HK.out.cells
            obtain ⟨-, -, -, f0, f1, f2, f4, f5, f6, t0, t1⟩ := (F.out.below HK.out.bel : W2C _ _ _ _ _ _ _ _ _)
            obtain ⟨-, -, -, g0, g1, g2, g4, g5, g6, u0, u1⟩ := (G.out.below HK.out.bel : W2C _ _ _ _ _ _ _ _ _)
            have x0 := (HK.out.bel.cell (p := ⟨xa, 0, none⟩) XA.out.1).trans XA.out.2.1
            have x1 := (HK.out.bel.cell (p := ⟨xa, 1, none⟩) XA.out.1).trans XA.out.2.2
            go_wp2_with fail
            clear z0 z1 zf f0 f1 f2 f4 f5 f6 t0 t1 g0 g1 g2 g4 g5 g6 u0 u1 x0 x1
            with_reducible refine (prev_both bg bc xa 2 C0 C1 (n0 : Int) (n1 : Int) (s + 1) u _ HK.out.lt (by have := XA.out.1; have := HK.out.bel.size; omega) HK.out.cells.1 HK.out.cells.2.1 ((HK.out.bel.cell (p := ⟨xa, 0, none⟩) XA.out.1).trans XA.out.2.1) ((HK.out.bel.cell (p := ⟨xa, 1, none⟩) XA.out.1).trans XA.out.2.2) Z0.out Z1.out).mono ?_
            rintro e w9 ⟨⟨v9, rfl, hS9⟩, hB9⟩
            obtain ⟨a9, c9, rfl⟩ := hS9.form
            have HE := Lib.hid (HK.out.bel.trans (hB9.mono HK.out.bel.size))
            have T9 := Lib.hid (TB.new (s := (s + 1)) hS9)
            have SV9 := Lib.hid ((HQB.out.sv.below HE.out).below ((Below.refl _ _).alloc (Nat.le_refl _) (.cells #[cN (s + 1), .slice a9 (u).length c9] 24)))
            have TB9 := Lib.hid ((HTB.out.below HE.out).below ((Below.refl _ _).alloc (Nat.le_refl _) (.cells #[cN (s + 1), .slice a9 (u).length c9] 24)))
            have r1 := Lib.cell_of_heap T9.out.b 0
            have r2 := Lib.cell_of_heap T9.out.b 1
            have r3 := Lib.cell_of_heap TB9.out.b 0
            have r4 := Lib.cell_of_heap TB9.out.b 1
            clear hS9 hB9
            go_wp2_with fail
            with_reducible refine (same_sl (s + 1) _ _ u _ HUL.out T9.out.sl TB9.out.sl).mono ?_
            rintro e w10 ⟨rfl, hB10⟩
            go_wp2
            go_ret
            exact ⟨rfl, bthen SV9.out.bel hB10⟩
end Go.Proofs.YtocncjimepnlcaaGreatDoor
