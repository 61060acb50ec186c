/- The chapter's example of directories: awake. -/
import Derived.Test.YtnmlephjhcmbhaaGreatDkt
import Derived.Test.YtnmlephjhcmbhaaGreatMa
namespace Go.Proofs.YtnmlephjhcmbhaaGreat
set_option linter.unusedSimpArgs false
set_option linter.unusedVariables false
open Go Go.RowKit
def VR (l : List Rec) : World → Value → Prop := fun W v => W.ownsRow 0 45 8 v l.length (flatR l)
theorem VR_keeps (l : List Rec) : Keeps (VR l) := fun _ _ _ hB h => own_keepS h hB
theorem ex_denc (S : ByteArray) (hS : S = encDS [exX, exA]) (g : Nat) (W : World) (h : W.heap[g]? = some (.cells #[.string ⟨#[0]⟩, cN 0, cN 0, cN 315532800, cN 0, cN 0, cN 0, .string ⟨#[]⟩, .string ⟨#[65]⟩, cN 0, cN 0, cN 315532800, cN 0, cN 0, cN 0, .string ⟨#[]⟩] 45 (0, 0))) :
    Calls Tryz.prog 24 #[.slice (some ⟨g, 0, none⟩) 2 2] W fun e w' => e = .returned (.tuple #[.string S, cN 0]) ∧ Below W.heap.size W w' := by
  have := denc_ok (some ⟨g, 0, none⟩) 2 [exX, exA] W (RowR_two (x := exX) (y := exA) h) (by
    intro r hr
    simp at hr
    rcases hr with rfl | rfl <;> decide)
  rw [← hS, ex_enc] at this
  exact this
theorem ex_ddec (S : ByteArray) (hS : S = encDS [exX, exA]) (W : World) : Calls Tryz.prog 27 #[.string S] W (DecEnd W (0, [exX, exA], [0, 34])) := by
  have := ddec_ok S W (by rw [hS, ex_str]; decide)
  rw [hS, ex_dec] at this
  rw [hS]
  exact this
theorem ex_find (a : Option Addr) (c : Nat) (W : World) (h : RowR W a [exX, exA]) : Calls Tryz.prog 14 #[.slice a 2 c, .string ⟨#[65]⟩] W fun e w' => e = .returned (.tuple #[cN 1, .bool true]) ∧ Below W.heap.size W w' := by
  have := dfind_ok a c [exX, exA] ⟨#[65]⟩ W (by decide) h
  rw [ex_idx] at this
  exact this
theorem ex_same (a : Option Addr) (c g : Nat) (W : World) (h1 : RowR W a [exX, exA]) (h2 : W.heap[g]? = some (.cells #[.string ⟨#[0]⟩, cN 0, cN 0, cN 315532800, cN 0, cN 0, cN 0, .string ⟨#[]⟩, .string ⟨#[65]⟩, cN 0, cN 0, cN 315532800, cN 0, cN 0, cN 0, .string ⟨#[]⟩] 45 (0, 0))) :
    Calls Tryz.prog 17 #[.slice a 2 c, .slice (some ⟨g, 0, none⟩) 2 2] W fun e w' => e = .returned (.bool true) ∧ Below W.heap.size W w' := by
  have := rsame_ok a c [exX, exA] (some ⟨g, 0, none⟩) 2 [exX, exA] W (by decide) h1 (RowR_two (x := exX) (y := exA) h2)
  rw [(recsEq_iff [exX, exA] [exX, exA]).2 rfl] at this
  exact this
theorem ex_eq (b : Nat) (a : Option Addr) (c g : Nat) (W : World) (h1 : W.ownsRow b 3 1 (.slice a 2 c) 2 (ints [0, 34])) (h2 : W.heap[g]? = some (.cells #[cN 0, cN 34] 3 (0, 0))) :
    Calls Tryz.prog 21 #[.slice a 2 c, .slice (some ⟨g, 0, none⟩) 2 2] W fun e w' => e = .returned (.bool true) ∧ Below W.heap.size W w' :=
  equal_own (l := [0, 34]) (m := [0, 34]) h1 (own_row (n := 2) [0, 34] rfl rfl (by decide) h2) (by decide) (by decide)
theorem ex_dsort (g : Nat) (W : World) (h : W.heap[g]? = some (.cells #[.string ⟨#[65]⟩, cN 0, cN 0, cN 315532800, cN 0, cN 0, cN 0, .string ⟨#[]⟩, .string ⟨#[0]⟩, cN 0, cN 0, cN 315532800, cN 0, cN 0, cN 0, .string ⟨#[]⟩] 45 (0, 0))) :
    Calls Tryz.prog 16 #[.slice (some ⟨g, 0, none⟩) 2 2, .bool true] W fun e w' => ∃ v, e = .returned v ∧ VR [exX, exA] w' v ∧ Below W.heap.size W w' := by
  refine (dsort_small (some ⟨g, 0, none⟩) 2 [exA, exX] true W (by simp) (by decide) (by
    intro r hr
    simp at hr
    rcases hr with rfl | rfl <;> (unfold PSz; decide)) (RowR_two (x := exA) (y := exX) h)).mono ?_
  rintro e w' ⟨v, d, rfl, hd, -, ho, hB⟩
  obtain rfl := ex_sort hd
  refine ⟨v, rfl, ⟨ho.1, ?_⟩, hB⟩
  rcases ho.2 with hn | ⟨g, cap, cur, rfl, hbg, rest⟩
  · exact .inl hn
  · exact .inr ⟨g, cap, cur, rfl, Nat.zero_le _, rest⟩
def szV : List Value := ints szL
theorem half_szL : half 60 60 34 ++ [cN 36] = szV := by simp [half, szV, szL, ints]
set_option maxRecDepth 100000 in
set_option maxHeartbeats 4000000 in
theorem awake21_ok (w : World) : Calls Tryz.prog 9 #[] w fun e w' => e = .returned (.bool true) ∧ Below w.heap.size w w' := by
  obtain ⟨i0, hi, hz0, hz1, hz2⟩ := info_parts i64Info
  have hA : AwS w (w.alloc (.cells exV 9)) := ⟨World.alloc_heap_new _ _, bald (Below.refl _ w) _⟩
  have HA := Lib.hid hA
  clear hA
  go_enter Tryz.func9, Tryz.ntmps9
  go_wp2
  go_loopw [18, 2] (fun i _ wr => ∃ k, i = cN (k : Nat) ∧ k ≤ 7 ∧ AwS w wr) (fun i _ _ => 7 - (intOf i).toNat)
  case atStart => exact ⟨0, rfl, by omega, HA.out⟩
  case round =>
    obtain ⟨k, rfl, hk, hS⟩ := hrel
    have HS := Lib.hid hS
    clear hS
    by_cases hlt : (k : Int) < 7
    · have hk7 : k < 7 := by omega
      have hlt1 := exN_lt k hk7
      have sz1 := exN_size k (by omega)
      have sz2 := exN_size (k + 1) (by omega)
      obtain ⟨x, hx⟩ : ∃ x, exN.getD k ByteArray.empty = x := ⟨_, rfl⟩
      obtain ⟨y, hy⟩ : ∃ y, exN.getD (k + 1) ByteArray.empty = y := ⟨_, rfl⟩
      rw [hx, hy] at hlt1
      rw [hx] at sz1
      rw [hy] at sz2
      have c1 := fun W => cmp_ok x y false W (by omega) (by omega)
      have c2 := fun W => cmp_ok y x false W (by omega) (by omega)
      rw [cmpM_swap] at c2
      obtain ⟨c, hc⟩ : ∃ c, cmpM x.data.toList y.data.toList false = c := ⟨_, rfl⟩
      rw [hc] at c1 c2 hlt1
      obtain ⟨d, hd⟩ : ∃ d, -c = d := ⟨_, rfl⟩
      rw [hd] at c2
      have g1 : decide (0 ≤ c) = false := decide_eq_false (by omega)
      have g2 : decide (d ≤ 0) = false := decide_eq_false (by omega)
      have k0 : (k : Int) < 8 := by omega
      have k1 : (k : Int) + 1 < 8 := by omega
      have k2 : (0 : Int) ≤ (k : Int) + 1 := by omega
      have k3 : ((k : Int) + 1).toNat = k + 1 := by omega
      have k4 : IntKind.i64.wrap ((k : Int) + 1) = (k : Int) + 1 := by rw [IntKind.wrap_i64]; omega
      have hcell : ∀ W, AwS w W → W.cell? ⟨w.heap.size, k, none⟩ = some (.string x) ∧ W.cell? ⟨w.heap.size, k + 1, none⟩ = some (.string y) := fun W h => by
        refine ⟨?_, ?_⟩
        · rw [h.cell k (by omega), hx]
        · rw [h.cell (k + 1) (by omega), hy]
      have HC := Lib.hid hcell
      clear hx hy hc hd hcell hlt1 sz1 sz2
      go_wp2
      refine region_sch (AwS w) [(true, 0), (true, 1), (true, 2), (true, 3), (true, 4), (true, 5), (true, 6), (true, 7), (true, 8), (false, 9), (true, 10), (true, 11), (true, 12), (true, 13), (true, 14), (true, 15), (true, 16), (true, 17), (true, 18), (true, 19), (true, 20)] [21, 22, 23] (by kernel_rfl) (by kernel_rfl) (by rintro ⟨_, _, h, _⟩; cases h) (fun _ _ d _ _ h => by cases d <;> exact h) HS.out.drew ?_
      simp only [pickM, pickT, List.filterMap_cons, List.filterMap_nil, List.getElem?_cons_zero, List.getElem?_cons_succ, Option.map_some]
      repeat (first | (refine m_float ⟨?_, .inl ⟨?_, .inl ?_⟩, fun K' hK => ?_⟩; rotate_left; (first | rfl | (go_simp; done)); (intro w' hS; (obtain ⟨p0, p1⟩ := HC.out _ hS); go_simp; try rfl); (simp only [Act.put, List.setIfInBounds_toArray, List.set_cons_succ, List.set_cons_zero]; refine hK _ ?_; clear hK K')) | (refine m_float ⟨undef, .inr ⟨?_, rfl⟩, fun K' hK => ?_⟩; (first | rfl | (go_simp; done)); (simp only [Act.put, List.setIfInBounds_toArray, List.set_cons_succ, List.set_cons_zero]; refine hK _ ?_; clear hK K')))
      refine m_loud ?_ (fun K' hK => ?_)
      · rintro ⟨_, _, h, _⟩; cases h
      go_wp2_with (go_at_call 11; (with_reducible refine (c1 _).mono ?_); rintro e w5 ⟨rfl, hB5⟩)
      refine hK _ _ (HS.out.drew.below hB5) ?_
      clear hK K'
      repeat (first | (refine m_float ⟨?_, .inl ⟨?_, .inl ?_⟩, fun K' hK => ?_⟩; rotate_left; (first | rfl | (go_simp; done)); (intro w' hS; (obtain ⟨p0, p1⟩ := HC.out _ hS); go_simp; try rfl); (simp only [Act.put, List.setIfInBounds_toArray, List.set_cons_succ, List.set_cons_zero]; refine hK _ ?_; clear hK K')) | (refine m_float ⟨undef, .inr ⟨?_, rfl⟩, fun K' hK => ?_⟩; (first | rfl | (go_simp; done)); (simp only [Act.put, List.setIfInBounds_toArray, List.set_cons_succ, List.set_cons_zero]; refine hK _ ?_; clear hK K')))
      refine m_nil ?_
      show wpList Tryz.prog _ _ (List.cons _ _) _ _
      go_wp2_with (go_at_call 11; (with_reducible refine (c2 _).mono ?_); rintro e w6 ⟨rfl, hB6⟩)
      go_roundw
      case rel => exact ⟨k + 1, by go_num, by omega, (HS.out.drew.below hB5).below hB6⟩
      case measure => simp [intOf]; omega
    · have hB := HS.out.2
      have HB := Lib.hid hB
      clear hB HA
      have hc0 : (wr.alloc (.cells #[cN 34] 3)).cell? ⟨wr.heap.size, 0, none⟩ = some (cN 34) := Lib.cell_of_heap (World.alloc_heap_new _ _) 0
      have c1 := srep_ok 34 60 wr.heap.size (wr.alloc (.cells #[cN 34] 3)) (by decide) (by decide) hc0
      rw [World.size_alloc, show ((60 : Nat) : Int) = 60 from rfl] at c1
      clear hc0
      go_wp2_with fail
      with_reducible refine c1.mono ?_
      rintro e w1 ⟨rfl, hg1, hB1⟩
      have ho1 : w1.ownsRow w.heap.size 3 1 (.slice (some ⟨wr.heap.size + 1, 0, none⟩) 60 60) 60 (half 60 60 34) := by
        refine ⟨by simp [half], .inr ⟨wr.heap.size + 1, 60, _, rfl, by have := HB.out.size; omega, hg1, Nat.le_refl _, by decide, by simp [half], ?_⟩⟩
        rw [List.toList_toArray]
        exact List.take_of_length_le (by simp [half])
      have hbw1 : Below w.heap.size w w1 := (bald HB.out (.cells #[cN 34] 3)).trans (hB1.mono (by have := HB.out.size; omega))
      have HBW1 := Lib.hid hbw1
      have hsz1 := hbw1.size
      clear hg1 hB1 c1 hbw1
      go_wp2_with (at_builtin; refine wpList_append_own _ rfl _ _ 33 rfl w.heap.size 3 i0 (.int .i64 0) 1 8 Tryz.underlying33 hi hz0 hz1 hz2 rfl (by decide) _ _ _ rfl (ho1.alloc _) ⟨w1.heap.size, 0, none⟩ 1 1 [cN 36] rfl rfl ?c1 ?c2 ?c3 ?c4 ?c5 ?_)
      try case c1 => intro j u h; exact cell_one_new _ _ _ j u h
      case c2 => first | rfl | (intro u h; rw [List.mem_singleton.1 h]; rfl)
      case c3 => unfold maxLen; omega
      case c4 => omega
      case c5 => first | omega | (simp; omega)
      intro v2 w2 ho2 hg2 _
      have hbw2 : Below w.heap.size w w2 := (bald HBW1.out _).grown hg2 (by simp; omega) (fun k e => by simp [Value.ownBlock] at e; have := HB.out.size; omega)
      rw [half_szL] at ho2
      obtain ⟨a2, d2, rfl, hI2⟩ := RowI_own szL ho2
      have c3 := offs_ok a2 d2 (toI szL) w2 (by decide) hI2
      have HO2 := Lib.hid hI2
      have HBW2 := Lib.hid hbw2
      rw [show (toI szL).length = szL.length by simp [toI]] at c3
      clear ho2 hg2 hbw2 hI2 ho1 hsz1
      go_wp2_with fail
      with_reducible refine c3.mono ?_
      rintro e w3 ⟨v3, rfl, hI3⟩
      obtain ⟨g3, d3, rfl, -, h60⟩ := own_ints hI3.1 60 (by rw [sz_offs.1]; decide)
      rw [sz_offs.1]
      rw [sz_offs.2] at h60
      have HI3 := Lib.hid hI3
      have HBW3 := Lib.hid (bthen HBW2.out hI3.2)
      have H60 := Lib.hid h60
      clear hI3 h60 c3
      obtain ⟨S, hSS⟩ : ∃ S, S = encDS [exX, exA] := ⟨_, rfl⟩
      have hSz : S.size = 2048 := by rw [hSS, ex_str]
      have HSS := Lib.hid hSS
      have HSZ := Lib.hid hSz
      clear hSS hSz
      go_wp2_with fail
      with_reducible refine (ex_denc S HSS.out _ _ (by
        have := World.alloc_heap_new ((w3.alloc (.cells #[.string ⟨#[65]⟩, cN 0, cN 0, cN 315532800, cN 0, cN 0, cN 0, .string ⟨#[]⟩] 45)).alloc (.cells #[.string ⟨#[0]⟩, cN 0, cN 0, cN 315532800, cN 0, cN 0, cN 0, .string ⟨#[]⟩] 45)) (.cells #[.string ⟨#[0]⟩, cN 0, cN 0, cN 315532800, cN 0, cN 0, cN 0, .string ⟨#[]⟩, .string ⟨#[65]⟩, cN 0, cN 0, cN 315532800, cN 0, cN 0, cN 0, .string ⟨#[]⟩] 45)
        rw [World.size_alloc, World.size_alloc] at this
        exact this)).mono ?_
      rintro e w4 ⟨rfl, hB4⟩
      have hA4 : w4.heap[w3.heap.size]? = some (.cells #[.string ⟨#[65]⟩, cN 0, cN 0, cN 315532800, cN 0, cN 0, cN 0, .string ⟨#[]⟩] 45 (0, 0)) := by
        refine (hB4.block _ (by simp; omega)).trans ?_
        exact (Lib.alloc_old _ _ _ (by simp; omega)).trans ((Lib.alloc_old _ _ _ (by simp)).trans (World.alloc_heap_new w3 _))
      have hX4 : w4.heap[w3.heap.size + 1]? = some (.cells #[.string ⟨#[0]⟩, cN 0, cN 0, cN 315532800, cN 0, cN 0, cN 0, .string ⟨#[]⟩] 45 (0, 0)) := by
        refine (hB4.block _ (by simp)).trans ((Lib.alloc_old _ _ _ (by simp)).trans ?_)
        have := World.alloc_heap_new (w3.alloc (.cells #[.string ⟨#[65]⟩, cN 0, cN 0, cN 315532800, cN 0, cN 0, cN 0, .string ⟨#[]⟩] 45)) (.cells #[.string ⟨#[0]⟩, cN 0, cN 0, cN 315532800, cN 0, cN 0, cN 0, .string ⟨#[]⟩] 45)
        rw [World.size_alloc] at this
        exact this
      have hbw4 : Below w3.heap.size w3 w4 := ((bald (bald (bald (Below.refl _ w3) _) _) _)).trans (hB4.mono (by simp; omega))
      have HA4 := Lib.hid hA4
      have HX4 := Lib.hid hX4
      have HBW4 := Lib.hid hbw4
      clear hB4 hA4 hX4 hbw4
      have c5 := ex_ddec S HSS.out w4
      go_wp2_with fail
      with_reducible refine c5.mono ?_
      rintro e w5 ⟨v5, u5, rfl, hR5⟩
      obtain ⟨a5, d5, rfl, hrow5⟩ := RowR_own [exX, exA] hR5.recs
      have c6 := ex_find a5 d5 w5 hrow5
      have HR5 := Lib.hid hR5
      have HROW5 := Lib.hid hrow5
      obtain ⟨a6, d6, rfl⟩ := hR5.form2
      clear hR5 hrow5 c5
      go_wp2_with fail
      with_reducible refine c6.mono ?_
      rintro e w6 ⟨rfl, hB6⟩
      have hbw46 : Below w4.heap.size w4 w6 := bthen HR5.out.bel hB6
      have hbw36 : Below w3.heap.size w3 w6 := HBW4.out.trans (hbw46.mono HBW4.out.size)
      have cB : ∀ W, Below w6.heap.size w6 W → Calls Tryz.prog 19 #[.slice a2 szL.length d2] W fun e w' => e = .returned (cN 2) ∧ Below W.heap.size W w' := fun W hW => by
        have := blks_ok a2 d2 (toI szL) W (by decide) (HO2.out.below ((HI3.out.2.trans (hbw36.mono HI3.out.2.size)).trans (hW.mono (by have := hbw36.size; have := HI3.out.2.size; omega))))
        rw [show (toI szL).length = szL.length by simp [toI], sz_blks] at this
        exact this
      have cL : ∀ W, Below w6.heap.size w6 W → W.cell? ⟨g3, 60, none⟩ = some (cN 2048) := fun W hW =>
        (hW.cell (p := ⟨g3, 60, none⟩) (lt_of_cell ((hbw36.cell (p := ⟨g3, 60, none⟩) (lt_of_cell H60.out)).trans H60.out))).trans ((hbw36.cell (p := ⟨g3, 60, none⟩) (lt_of_cell H60.out)).trans H60.out)
      have hA6 := (hbw46.block _ (lt_of_block HA4.out)).trans HA4.out
      have hX6 := (hbw46.block _ (lt_of_block HX4.out)).trans HX4.out
      have cA := fun (W : World) (hW : Below w6.heap.size w6 W) => cells8 ((hW.block _ (lt_of_block hA6)).trans hA6)
      have cX := fun (W : World) (hW : Below w6.heap.size w6 W) => cells8 ((hW.block _ (lt_of_block hX6)).trans hX6)
      have CB := Lib.hid cB
      have CL := Lib.hid cL
      have CA := Lib.hid cA
      have CX := Lib.hid cX
      have HB6 := Lib.hid hB6
      have HBW36 := Lib.hid hbw36
      clear hB6 hbw46 hbw36 cB cL hA6 hX6 cA cX c6
      have hS1 : (S.size : Int) = 2048 := by have := HSZ.out; omega
      have hm := recGuard
      go_wp2
      apply region_belowF (VC _ :: VC _ :: VC _ :: VC _ :: VC _ :: VC _ :: VC _ :: VC _ :: VC _ :: VC _ :: VC _ :: VC _ :: VC _ :: VC _ :: VC _ :: VC _ :: VC _ :: VC _ :: VC _ :: VC _ :: VC _ :: VC _ :: VC _ :: VC _ :: VC _ :: VC _ :: VC _ :: VC _ :: VC _ :: VC _ :: VC _ :: VS #[.string ⟨#[0]⟩, cN 0, cN 0, cN 315532800, cN 0, cN 0, cN 0, .string ⟨#[]⟩, .string ⟨#[65]⟩, cN 0, cN 0, cN 315532800, cN 0, cN 0, cN 0, .string ⟨#[]⟩] 45 2 :: VC _ :: VC _ :: VC _ :: VC _ :: VS #[cN 0, cN 34] 3 2 :: VC _ :: VC _ :: VC _ :: VC _ :: VC _ :: VC _ :: VC _ :: VC _ :: VC _ :: VC _ :: VC _ :: VC _ :: VS #[.string ⟨#[65]⟩, cN 0, cN 0, cN 315532800, cN 0, cN 0, cN 0, .string ⟨#[]⟩, .string ⟨#[0]⟩, cN 0, cN 0, cN 315532800, cN 0, cN 0, cN 0, .string ⟨#[]⟩] 45 2 :: VR [exX, exA] :: VC _ :: VC _ :: VS #[.string ⟨#[0]⟩, cN 0, cN 0, cN 315532800, cN 0, cN 0, cN 0, .string ⟨#[]⟩, .string ⟨#[65]⟩, cN 0, cN 0, cN 315532800, cN 0, cN 0, cN 0, .string ⟨#[]⟩] 45 2 :: VC _ :: VC _ :: VC _ :: []) _ (fun us => by simp only [putAll, List.map_cons, List.map_nil, Act.put, List.setIfInBounds_toArray, List.set_cons_succ, List.set_cons_zero, Nat.zero_add, Nat.reduceAdd]; exact rfl) (by kernel_rfl) (by kernel_rfl) (by rintro ⟨_, _, h, _⟩; cases h)
      · repeat (first | exact trivial | (refine KeepsL_cons ?_ ?_; (first | apply VC_keeps | apply VS_keeps | apply VT_keeps | apply VR_keeps)))
      refine ops_cons ?_ ?_
      · intro us w1 hle hP K' hK
        simp only [predsV, vsel, VC, VS, VT, List.getD_eq_getElem?_getD, List.getElem?_cons_zero, List.getElem?_cons_succ, Option.getD_some, and_true, true_and, and_self] at hP
        (try dsimp only at hK ⊢)
        simp only [Act.put, List.setIfInBounds_toArray, List.set_cons_succ, List.set_cons_zero] at hK
        simp only [vsel, VC, VS, VT, List.getD_eq_getElem?_getD, List.getElem?_cons_zero, List.getElem?_cons_succ, Option.getD_some] at hK
        try simp only [hP] at hK ⊢
        go_wp2
        exact hK _ _ rfl (Below.refl _ _)
      refine ops_cons ?_ ?_
      · intro us w1 hle hP K' hK
        simp only [predsV, vsel, VC, VS, VT, List.getD_eq_getElem?_getD, List.getElem?_cons_zero, List.getElem?_cons_succ, Option.getD_some, and_true, true_and, and_self] at hP
        (try dsimp only at hK ⊢)
        simp only [Act.put, List.setIfInBounds_toArray, List.set_cons_succ, List.set_cons_zero] at hK
        simp only [vsel, VC, VS, VT, List.getD_eq_getElem?_getD, List.getElem?_cons_zero, List.getElem?_cons_succ, Option.getD_some] at hK
        try simp only [hP] at hK ⊢
        go_wp2_with fail
        with_reducible refine (CB.out _ (drew_left hle)).mono ?_
        rintro e w7 ⟨rfl, hB7⟩
        go_wp2
        exact hK _ _ rfl hB7
      refine ops_cons ?_ ?_
      · intro us w1 hle hP K' hK
        simp only [predsV, vsel, VC, VS, VT, List.getD_eq_getElem?_getD, List.getElem?_cons_zero, List.getElem?_cons_succ, Option.getD_some, and_true, true_and, and_self] at hP
        (try dsimp only at hK ⊢)
        simp only [Act.put, List.setIfInBounds_toArray, List.set_cons_succ, List.set_cons_zero] at hK
        simp only [vsel, VC, VS, VT, List.getD_eq_getElem?_getD, List.getElem?_cons_zero, List.getElem?_cons_succ, Option.getD_some] at hK
        try simp only [hP] at hK ⊢
        go_wp2
        exact hK _ _ rfl (Below.refl _ _)
      refine ops_cons ?_ ?_
      · intro us w1 hle hP K' hK
        simp only [predsV, vsel, VC, VS, VT, List.getD_eq_getElem?_getD, List.getElem?_cons_zero, List.getElem?_cons_succ, Option.getD_some, and_true, true_and, and_self] at hP
        (try dsimp only at hK ⊢)
        simp only [Act.put, List.setIfInBounds_toArray, List.set_cons_succ, List.set_cons_zero] at hK
        simp only [vsel, VC, VS, VT, List.getD_eq_getElem?_getD, List.getElem?_cons_zero, List.getElem?_cons_succ, Option.getD_some] at hK
        try simp only [hP] at hK ⊢
        go_wp2
        exact hK _ _ rfl (Below.refl _ _)
      refine ops_cons ?_ ?_
      · intro us w1 hle hP K' hK
        simp only [predsV, vsel, VC, VS, VT, List.getD_eq_getElem?_getD, List.getElem?_cons_zero, List.getElem?_cons_succ, Option.getD_some, and_true, true_and, and_self] at hP
        (try dsimp only at hK ⊢)
        simp only [Act.put, List.setIfInBounds_toArray, List.set_cons_succ, List.set_cons_zero] at hK
        simp only [vsel, VC, VS, VT, List.getD_eq_getElem?_getD, List.getElem?_cons_zero, List.getElem?_cons_succ, Option.getD_some] at hK
        try simp only [hP] at hK ⊢
        go_wp2
        exact hK _ _ rfl (Below.refl _ _)
      refine ops_cons ?_ ?_
      · intro us w1 hle hP K' hK
        simp only [predsV, vsel, VC, VS, VT, List.getD_eq_getElem?_getD, List.getElem?_cons_zero, List.getElem?_cons_succ, Option.getD_some, and_true, true_and, and_self] at hP
        (try dsimp only at hK ⊢)
        simp only [Act.put, List.setIfInBounds_toArray, List.set_cons_succ, List.set_cons_zero] at hK
        simp only [vsel, VC, VS, VT, List.getD_eq_getElem?_getD, List.getElem?_cons_zero, List.getElem?_cons_succ, Option.getD_some] at hK
        try simp only [hP] at hK ⊢
        go_wp2
        exact hK _ _ rfl (Below.refl _ _)
      refine ops_cons ?_ ?_
      · intro us w1 hle hP K' hK
        simp only [predsV, vsel, VC, VS, VT, List.getD_eq_getElem?_getD, List.getElem?_cons_zero, List.getElem?_cons_succ, Option.getD_some, and_true, true_and, and_self] at hP
        (try dsimp only at hK ⊢)
        simp only [Act.put, List.setIfInBounds_toArray, List.set_cons_succ, List.set_cons_zero] at hK
        simp only [vsel, VC, VS, VT, List.getD_eq_getElem?_getD, List.getElem?_cons_zero, List.getElem?_cons_succ, Option.getD_some] at hK
        try simp only [hP] at hK ⊢
        go_wp2
        exact hK _ _ rfl (Below.refl _ _)
      refine ops_cons ?_ ?_
      · intro us w1 hle hP K' hK
        simp only [predsV, vsel, VC, VS, VT, List.getD_eq_getElem?_getD, List.getElem?_cons_zero, List.getElem?_cons_succ, Option.getD_some, and_true, true_and, and_self] at hP
        (try dsimp only at hK ⊢)
        simp only [Act.put, List.setIfInBounds_toArray, List.set_cons_succ, List.set_cons_zero] at hK
        simp only [vsel, VC, VS, VT, List.getD_eq_getElem?_getD, List.getElem?_cons_zero, List.getElem?_cons_succ, Option.getD_some] at hK
        try simp only [hP] at hK ⊢
        go_wp2
        exact hK _ _ rfl (Below.refl _ _)
      refine ops_cons ?_ ?_
      · intro us w1 hle hP K' hK
        simp only [predsV, vsel, VC, VS, VT, List.getD_eq_getElem?_getD, List.getElem?_cons_zero, List.getElem?_cons_succ, Option.getD_some, and_true, true_and, and_self] at hP
        (try dsimp only at hK ⊢)
        simp only [Act.put, List.setIfInBounds_toArray, List.set_cons_succ, List.set_cons_zero] at hK
        simp only [vsel, VC, VS, VT, List.getD_eq_getElem?_getD, List.getElem?_cons_zero, List.getElem?_cons_succ, Option.getD_some] at hK
        try simp only [hP] at hK ⊢
        go_wp2
        exact hK _ _ rfl (Below.refl _ _)
      refine ops_cons ?_ ?_
      · intro us w1 hle hP K' hK
        simp only [predsV, vsel, VC, VS, VT, List.getD_eq_getElem?_getD, List.getElem?_cons_zero, List.getElem?_cons_succ, Option.getD_some, and_true, true_and, and_self] at hP
        (try dsimp only at hK ⊢)
        simp only [Act.put, List.setIfInBounds_toArray, List.set_cons_succ, List.set_cons_zero] at hK
        simp only [vsel, VC, VS, VT, List.getD_eq_getElem?_getD, List.getElem?_cons_zero, List.getElem?_cons_succ, Option.getD_some] at hK
        try simp only [hP] at hK ⊢
        go_wp2
        exact hK _ _ rfl (Below.refl _ _)
      refine ops_cons ?_ ?_
      · intro us w1 hle hP K' hK
        simp only [predsV, vsel, VC, VS, VT, List.getD_eq_getElem?_getD, List.getElem?_cons_zero, List.getElem?_cons_succ, Option.getD_some, and_true, true_and, and_self] at hP
        (try dsimp only at hK ⊢)
        simp only [Act.put, List.setIfInBounds_toArray, List.set_cons_succ, List.set_cons_zero] at hK
        simp only [vsel, VC, VS, VT, List.getD_eq_getElem?_getD, List.getElem?_cons_zero, List.getElem?_cons_succ, Option.getD_some] at hK
        try simp only [hP] at hK ⊢
        go_wp2
        exact hK _ _ rfl (Below.refl _ _)
      refine ops_cons ?_ ?_
      · intro us w1 hle hP K' hK
        simp only [predsV, vsel, VC, VS, VT, List.getD_eq_getElem?_getD, List.getElem?_cons_zero, List.getElem?_cons_succ, Option.getD_some, and_true, true_and, and_self] at hP
        (try dsimp only at hK ⊢)
        simp only [Act.put, List.setIfInBounds_toArray, List.set_cons_succ, List.set_cons_zero] at hK
        simp only [vsel, VC, VS, VT, List.getD_eq_getElem?_getD, List.getElem?_cons_zero, List.getElem?_cons_succ, Option.getD_some] at hK
        try simp only [hP] at hK ⊢
        have p := CL.out _ (drew_left hle)
        clear hle
        go_wp2
        exact hK _ _ rfl (Below.refl _ _)
      refine ops_cons ?_ ?_
      · intro us w1 hle hP K' hK
        simp only [predsV, vsel, VC, VS, VT, List.getD_eq_getElem?_getD, List.getElem?_cons_zero, List.getElem?_cons_succ, Option.getD_some, and_true, true_and, and_self] at hP
        (try dsimp only at hK ⊢)
        simp only [Act.put, List.setIfInBounds_toArray, List.set_cons_succ, List.set_cons_zero] at hK
        simp only [vsel, VC, VS, VT, List.getD_eq_getElem?_getD, List.getElem?_cons_zero, List.getElem?_cons_succ, Option.getD_some] at hK
        try simp only [hP] at hK ⊢
        go_wp2
        exact hK _ _ rfl (Below.refl _ _)
      refine ops_cons ?_ ?_
      · intro us w1 hle hP K' hK
        simp only [predsV, vsel, VC, VS, VT, List.getD_eq_getElem?_getD, List.getElem?_cons_zero, List.getElem?_cons_succ, Option.getD_some, and_true, true_and, and_self] at hP
        (try dsimp only at hK ⊢)
        simp only [Act.put, List.setIfInBounds_toArray, List.set_cons_succ, List.set_cons_zero] at hK
        simp only [vsel, VC, VS, VT, List.getD_eq_getElem?_getD, List.getElem?_cons_zero, List.getElem?_cons_succ, Option.getD_some] at hK
        try simp only [hP] at hK ⊢
        go_wp2
        exact hK _ _ rfl (Below.refl _ _)
      refine ops_cons ?_ ?_
      · intro us w1 hle hP K' hK
        simp only [predsV, vsel, VC, VS, VT, List.getD_eq_getElem?_getD, List.getElem?_cons_zero, List.getElem?_cons_succ, Option.getD_some, and_true, true_and, and_self] at hP
        (try dsimp only at hK ⊢)
        simp only [Act.put, List.setIfInBounds_toArray, List.set_cons_succ, List.set_cons_zero] at hK
        simp only [vsel, VC, VS, VT, List.getD_eq_getElem?_getD, List.getElem?_cons_zero, List.getElem?_cons_succ, Option.getD_some] at hK
        try simp only [hP] at hK ⊢
        go_wp2
        exact hK _ _ rfl (Below.refl _ _)
      refine ops_cons ?_ ?_
      · intro us w1 hle hP K' hK
        simp only [predsV, vsel, VC, VS, VT, List.getD_eq_getElem?_getD, List.getElem?_cons_zero, List.getElem?_cons_succ, Option.getD_some, and_true, true_and, and_self] at hP
        (try dsimp only at hK ⊢)
        simp only [Act.put, List.setIfInBounds_toArray, List.set_cons_succ, List.set_cons_zero] at hK
        simp only [vsel, VC, VS, VT, List.getD_eq_getElem?_getD, List.getElem?_cons_zero, List.getElem?_cons_succ, Option.getD_some] at hK
        try simp only [hP] at hK ⊢
        go_wp2
        exact hK _ _ rfl (Below.refl _ _)
      refine ops_cons ?_ ?_
      · intro us w1 hle hP K' hK
        simp only [predsV, vsel, VC, VS, VT, List.getD_eq_getElem?_getD, List.getElem?_cons_zero, List.getElem?_cons_succ, Option.getD_some, and_true, true_and, and_self] at hP
        (try dsimp only at hK ⊢)
        simp only [Act.put, List.setIfInBounds_toArray, List.set_cons_succ, List.set_cons_zero] at hK
        simp only [vsel, VC, VS, VT, List.getD_eq_getElem?_getD, List.getElem?_cons_zero, List.getElem?_cons_succ, Option.getD_some] at hK
        try simp only [hP] at hK ⊢
        go_wp2
        exact hK _ _ rfl (Below.refl _ _)
      refine ops_cons ?_ ?_
      · intro us w1 hle hP K' hK
        simp only [predsV, vsel, VC, VS, VT, List.getD_eq_getElem?_getD, List.getElem?_cons_zero, List.getElem?_cons_succ, Option.getD_some, and_true, true_and, and_self] at hP
        (try dsimp only at hK ⊢)
        simp only [Act.put, List.setIfInBounds_toArray, List.set_cons_succ, List.set_cons_zero] at hK
        simp only [vsel, VC, VS, VT, List.getD_eq_getElem?_getD, List.getElem?_cons_zero, List.getElem?_cons_succ, Option.getD_some] at hK
        try simp only [hP] at hK ⊢
        go_wp2
        exact hK _ _ rfl (Below.refl _ _)
      refine ops_cons ?_ ?_
      · intro us w1 hle hP K' hK
        simp only [predsV, vsel, VC, VS, VT, List.getD_eq_getElem?_getD, List.getElem?_cons_zero, List.getElem?_cons_succ, Option.getD_some, and_true, true_and, and_self] at hP
        (try dsimp only at hK ⊢)
        simp only [Act.put, List.setIfInBounds_toArray, List.set_cons_succ, List.set_cons_zero] at hK
        simp only [vsel, VC, VS, VT, List.getD_eq_getElem?_getD, List.getElem?_cons_zero, List.getElem?_cons_succ, Option.getD_some] at hK
        try simp only [hP] at hK ⊢
        go_wp2
        exact hK _ _ rfl (Below.refl _ _)
      refine ops_cons ?_ ?_
      · intro us w1 hle hP K' hK
        simp only [predsV, vsel, VC, VS, VT, List.getD_eq_getElem?_getD, List.getElem?_cons_zero, List.getElem?_cons_succ, Option.getD_some, and_true, true_and, and_self] at hP
        (try dsimp only at hK ⊢)
        simp only [Act.put, List.setIfInBounds_toArray, List.set_cons_succ, List.set_cons_zero] at hK
        simp only [vsel, VC, VS, VT, List.getD_eq_getElem?_getD, List.getElem?_cons_zero, List.getElem?_cons_succ, Option.getD_some] at hK
        try simp only [hP] at hK ⊢
        go_wp2
        exact hK _ _ rfl (Below.refl _ _)
      refine ops_cons ?_ ?_
      · intro us w1 hle hP K' hK
        simp only [predsV, vsel, VC, VS, VT, List.getD_eq_getElem?_getD, List.getElem?_cons_zero, List.getElem?_cons_succ, Option.getD_some, and_true, true_and, and_self] at hP
        (try dsimp only at hK ⊢)
        simp only [Act.put, List.setIfInBounds_toArray, List.set_cons_succ, List.set_cons_zero] at hK
        simp only [vsel, VC, VS, VT, List.getD_eq_getElem?_getD, List.getElem?_cons_zero, List.getElem?_cons_succ, Option.getD_some] at hK
        try simp only [hP] at hK ⊢
        go_wp2
        exact hK _ _ rfl (Below.refl _ _)
      refine ops_cons ?_ ?_
      · intro us w1 hle hP K' hK
        simp only [predsV, vsel, VC, VS, VT, List.getD_eq_getElem?_getD, List.getElem?_cons_zero, List.getElem?_cons_succ, Option.getD_some, and_true, true_and, and_self] at hP
        (try dsimp only at hK ⊢)
        simp only [Act.put, List.setIfInBounds_toArray, List.set_cons_succ, List.set_cons_zero] at hK
        simp only [vsel, VC, VS, VT, List.getD_eq_getElem?_getD, List.getElem?_cons_zero, List.getElem?_cons_succ, Option.getD_some] at hK
        try simp only [hP] at hK ⊢
        go_wp2
        exact hK _ _ rfl (Below.refl _ _)
      refine ops_cons ?_ ?_
      · intro us w1 hle hP K' hK
        simp only [predsV, vsel, VC, VS, VT, List.getD_eq_getElem?_getD, List.getElem?_cons_zero, List.getElem?_cons_succ, Option.getD_some, and_true, true_and, and_self] at hP
        (try dsimp only at hK ⊢)
        simp only [Act.put, List.setIfInBounds_toArray, List.set_cons_succ, List.set_cons_zero] at hK
        simp only [vsel, VC, VS, VT, List.getD_eq_getElem?_getD, List.getElem?_cons_zero, List.getElem?_cons_succ, Option.getD_some] at hK
        try simp only [hP] at hK ⊢
        go_wp2
        exact hK _ _ rfl (Below.refl _ _)
      refine ops_cons ?_ ?_
      · intro us w1 hle hP K' hK
        simp only [predsV, vsel, VC, VS, VT, List.getD_eq_getElem?_getD, List.getElem?_cons_zero, List.getElem?_cons_succ, Option.getD_some, and_true, true_and, and_self] at hP
        (try dsimp only at hK ⊢)
        simp only [Act.put, List.setIfInBounds_toArray, List.set_cons_succ, List.set_cons_zero] at hK
        simp only [vsel, VC, VS, VT, List.getD_eq_getElem?_getD, List.getElem?_cons_zero, List.getElem?_cons_succ, Option.getD_some] at hK
        try simp only [hP] at hK ⊢
        go_wp2
        exact hK _ _ rfl (Below.refl _ _)
      refine ops_cons ?_ ?_
      · intro us w1 hle hP K' hK
        simp only [predsV, vsel, VC, VS, VT, List.getD_eq_getElem?_getD, List.getElem?_cons_zero, List.getElem?_cons_succ, Option.getD_some, and_true, true_and, and_self] at hP
        (try dsimp only at hK ⊢)
        simp only [Act.put, List.setIfInBounds_toArray, List.set_cons_succ, List.set_cons_zero] at hK
        simp only [vsel, VC, VS, VT, List.getD_eq_getElem?_getD, List.getElem?_cons_zero, List.getElem?_cons_succ, Option.getD_some] at hK
        try simp only [hP] at hK ⊢
        go_wp2
        exact hK _ _ rfl (Below.refl _ _)
      refine ops_cons ?_ ?_
      · intro us w1 hle hP K' hK
        simp only [predsV, vsel, VC, VS, VT, List.getD_eq_getElem?_getD, List.getElem?_cons_zero, List.getElem?_cons_succ, Option.getD_some, and_true, true_and, and_self] at hP
        (try dsimp only at hK ⊢)
        simp only [Act.put, List.setIfInBounds_toArray, List.set_cons_succ, List.set_cons_zero] at hK
        simp only [vsel, VC, VS, VT, List.getD_eq_getElem?_getD, List.getElem?_cons_zero, List.getElem?_cons_succ, Option.getD_some] at hK
        try simp only [hP] at hK ⊢
        go_wp2
        exact hK _ _ rfl (Below.refl _ _)
      refine ops_cons ?_ ?_
      · intro us w1 hle hP K' hK
        simp only [predsV, vsel, VC, VS, VT, List.getD_eq_getElem?_getD, List.getElem?_cons_zero, List.getElem?_cons_succ, Option.getD_some, and_true, true_and, and_self] at hP
        (try dsimp only at hK ⊢)
        simp only [Act.put, List.setIfInBounds_toArray, List.set_cons_succ, List.set_cons_zero] at hK
        simp only [vsel, VC, VS, VT, List.getD_eq_getElem?_getD, List.getElem?_cons_zero, List.getElem?_cons_succ, Option.getD_some] at hK
        try simp only [hP] at hK ⊢
        go_wp2
        exact hK _ _ rfl (Below.refl _ _)
      refine ops_cons ?_ ?_
      · intro us w1 hle hP K' hK
        simp only [predsV, vsel, VC, VS, VT, List.getD_eq_getElem?_getD, List.getElem?_cons_zero, List.getElem?_cons_succ, Option.getD_some, and_true, true_and, and_self] at hP
        (try dsimp only at hK ⊢)
        simp only [Act.put, List.setIfInBounds_toArray, List.set_cons_succ, List.set_cons_zero] at hK
        simp only [vsel, VC, VS, VT, List.getD_eq_getElem?_getD, List.getElem?_cons_zero, List.getElem?_cons_succ, Option.getD_some] at hK
        try simp only [hP] at hK ⊢
        go_wp2
        exact hK _ _ rfl (Below.refl _ _)
      refine ops_cons ?_ ?_
      · intro us w1 hle hP K' hK
        simp only [predsV, vsel, VC, VS, VT, List.getD_eq_getElem?_getD, List.getElem?_cons_zero, List.getElem?_cons_succ, Option.getD_some, and_true, true_and, and_self] at hP
        (try dsimp only at hK ⊢)
        simp only [Act.put, List.setIfInBounds_toArray, List.set_cons_succ, List.set_cons_zero] at hK
        simp only [vsel, VC, VS, VT, List.getD_eq_getElem?_getD, List.getElem?_cons_zero, List.getElem?_cons_succ, Option.getD_some] at hK
        try simp only [hP] at hK ⊢
        go_wp2
        exact hK _ _ rfl (Below.refl _ _)
      refine ops_cons ?_ ?_
      · intro us w1 hle hP K' hK
        simp only [predsV, vsel, VC, VS, VT, List.getD_eq_getElem?_getD, List.getElem?_cons_zero, List.getElem?_cons_succ, Option.getD_some, and_true, true_and, and_self] at hP
        (try dsimp only at hK ⊢)
        simp only [Act.put, List.setIfInBounds_toArray, List.set_cons_succ, List.set_cons_zero] at hK
        simp only [vsel, VC, VS, VT, List.getD_eq_getElem?_getD, List.getElem?_cons_zero, List.getElem?_cons_succ, Option.getD_some] at hK
        try simp only [hP] at hK ⊢
        obtain ⟨q0, q1, q2, q3, q4, q5, q6, q7⟩ := CX.out _ (drew_left hle)
        clear hle
        go_wp2
        exact hK _ _ rfl (Below.refl _ _)
      refine ops_cons ?_ ?_
      · intro us w1 hle hP K' hK
        simp only [predsV, vsel, VC, VS, VT, List.getD_eq_getElem?_getD, List.getElem?_cons_zero, List.getElem?_cons_succ, Option.getD_some, and_true, true_and, and_self] at hP
        (try dsimp only at hK ⊢)
        simp only [Act.put, List.setIfInBounds_toArray, List.set_cons_succ, List.set_cons_zero] at hK
        simp only [vsel, VC, VS, VT, List.getD_eq_getElem?_getD, List.getElem?_cons_zero, List.getElem?_cons_succ, Option.getD_some] at hK
        try simp only [hP] at hK ⊢
        obtain ⟨q0, q1, q2, q3, q4, q5, q6, q7⟩ := CA.out _ (drew_left hle)
        clear hle
        go_wp2
        exact hK _ _ rfl (Below.refl _ _)
      refine ops_cons ?_ ?_
      · intro us w1 hle hP K' hK
        simp only [predsV, vsel, VC, VS, VT, List.getD_eq_getElem?_getD, List.getElem?_cons_zero, List.getElem?_cons_succ, Option.getD_some, and_true, true_and, and_self] at hP
        (try dsimp only at hK ⊢)
        simp only [Act.put, List.setIfInBounds_toArray, List.set_cons_succ, List.set_cons_zero] at hK
        simp only [vsel, VC, VS, VT, List.getD_eq_getElem?_getD, List.getElem?_cons_zero, List.getElem?_cons_succ, Option.getD_some] at hK
        try simp only [hP] at hK ⊢
        go_wp2
        exact hK _ _ ⟨_, rfl, World.alloc_heap_new _ _⟩ ((Below.refl _ _).alloc (Nat.le_refl _) _)
      refine ops_cons ?_ ?_
      · intro us w1 hle hP K' hK
        simp only [predsV, vsel, VC, VS, VT, List.getD_eq_getElem?_getD, List.getElem?_cons_zero, List.getElem?_cons_succ, Option.getD_some, and_true, true_and, and_self] at hP
        (try dsimp only at hK ⊢)
        simp only [Act.put, List.setIfInBounds_toArray, List.set_cons_succ, List.set_cons_zero] at hK
        simp only [vsel, VC, VS, VT, List.getD_eq_getElem?_getD, List.getElem?_cons_zero, List.getElem?_cons_succ, Option.getD_some] at hK
        try simp only [hP] at hK ⊢
        obtain ⟨-, ⟨g, hg1, hg2⟩, hr⟩ := hP
        rw [hg1] at hK ⊢
        clear hg1
        go_wp2_with fail
        with_reducible refine (ex_same a5 d5 g _ ((HROW5.out.below HB6.out).below (drew_left hle)) hg2).mono ?_
        rintro e w7 ⟨rfl, hB7⟩
        clear hle hg2
        go_wp2
        exact hK _ _ rfl hB7
      refine ops_cons ?_ ?_
      · intro us w1 hle hP K' hK
        simp only [predsV, vsel, VC, VS, VT, List.getD_eq_getElem?_getD, List.getElem?_cons_zero, List.getElem?_cons_succ, Option.getD_some, and_true, true_and, and_self] at hP
        (try dsimp only at hK ⊢)
        simp only [Act.put, List.setIfInBounds_toArray, List.set_cons_succ, List.set_cons_zero] at hK
        simp only [vsel, VC, VS, VT, List.getD_eq_getElem?_getD, List.getElem?_cons_zero, List.getElem?_cons_succ, Option.getD_some] at hK
        try simp only [hP] at hK ⊢
        go_wp2
        exact hK _ _ rfl (Below.refl _ _)
      refine ops_cons ?_ ?_
      · intro us w1 hle hP K' hK
        simp only [predsV, vsel, VC, VS, VT, List.getD_eq_getElem?_getD, List.getElem?_cons_zero, List.getElem?_cons_succ, Option.getD_some, and_true, true_and, and_self] at hP
        (try dsimp only at hK ⊢)
        simp only [Act.put, List.setIfInBounds_toArray, List.set_cons_succ, List.set_cons_zero] at hK
        simp only [vsel, VC, VS, VT, List.getD_eq_getElem?_getD, List.getElem?_cons_zero, List.getElem?_cons_succ, Option.getD_some] at hK
        try simp only [hP] at hK ⊢
        go_wp2
        exact hK _ _ rfl (Below.refl _ _)
      refine ops_cons ?_ ?_
      · intro us w1 hle hP K' hK
        simp only [predsV, vsel, VC, VS, VT, List.getD_eq_getElem?_getD, List.getElem?_cons_zero, List.getElem?_cons_succ, Option.getD_some, and_true, true_and, and_self] at hP
        (try dsimp only at hK ⊢)
        simp only [Act.put, List.setIfInBounds_toArray, List.set_cons_succ, List.set_cons_zero] at hK
        simp only [vsel, VC, VS, VT, List.getD_eq_getElem?_getD, List.getElem?_cons_zero, List.getElem?_cons_succ, Option.getD_some] at hK
        try simp only [hP] at hK ⊢
        go_wp2
        exact hK _ _ rfl (Below.refl _ _)
      refine ops_cons ?_ ?_
      · intro us w1 hle hP K' hK
        simp only [predsV, vsel, VC, VS, VT, List.getD_eq_getElem?_getD, List.getElem?_cons_zero, List.getElem?_cons_succ, Option.getD_some, and_true, true_and, and_self] at hP
        (try dsimp only at hK ⊢)
        simp only [Act.put, List.setIfInBounds_toArray, List.set_cons_succ, List.set_cons_zero] at hK
        simp only [vsel, VC, VS, VT, List.getD_eq_getElem?_getD, List.getElem?_cons_zero, List.getElem?_cons_succ, Option.getD_some] at hK
        try simp only [hP] at hK ⊢
        go_wp2
        exact hK _ _ ⟨_, rfl, World.alloc_heap_new _ _⟩ ((Below.refl _ _).alloc (Nat.le_refl _) _)
      refine ops_cons ?_ ?_
      · intro us w1 hle hP K' hK
        simp only [predsV, vsel, VC, VS, VT, List.getD_eq_getElem?_getD, List.getElem?_cons_zero, List.getElem?_cons_succ, Option.getD_some, and_true, true_and, and_self] at hP
        (try dsimp only at hK ⊢)
        simp only [Act.put, List.setIfInBounds_toArray, List.set_cons_succ, List.set_cons_zero] at hK
        simp only [vsel, VC, VS, VT, List.getD_eq_getElem?_getD, List.getElem?_cons_zero, List.getElem?_cons_succ, Option.getD_some] at hK
        try simp only [hP] at hK ⊢
        obtain ⟨-, ⟨g, hg1, hg2⟩, hr⟩ := hP
        rw [hg1] at hK ⊢
        clear hg1
        go_wp2_with fail
        with_reducible refine (ex_eq w4.heap.size a6 d6 g _ (own_keep (own_keep HR5.out.offs HB6.out) (drew_left hle)) hg2).mono ?_
        rintro e w7 ⟨rfl, hB7⟩
        clear hle hg2
        go_wp2
        exact hK _ _ rfl hB7
      refine ops_cons ?_ ?_
      · intro us w1 hle hP K' hK
        simp only [predsV, vsel, VC, VS, VT, List.getD_eq_getElem?_getD, List.getElem?_cons_zero, List.getElem?_cons_succ, Option.getD_some, and_true, true_and, and_self] at hP
        (try dsimp only at hK ⊢)
        simp only [Act.put, List.setIfInBounds_toArray, List.set_cons_succ, List.set_cons_zero] at hK
        simp only [vsel, VC, VS, VT, List.getD_eq_getElem?_getD, List.getElem?_cons_zero, List.getElem?_cons_succ, Option.getD_some] at hK
        try simp only [hP] at hK ⊢
        go_wp2
        exact hK _ _ rfl (Below.refl _ _)
      refine ops_cons ?_ ?_
      · intro us w1 hle hP K' hK
        simp only [predsV, vsel, VC, VS, VT, List.getD_eq_getElem?_getD, List.getElem?_cons_zero, List.getElem?_cons_succ, Option.getD_some, and_true, true_and, and_self] at hP
        (try dsimp only at hK ⊢)
        simp only [Act.put, List.setIfInBounds_toArray, List.set_cons_succ, List.set_cons_zero] at hK
        simp only [vsel, VC, VS, VT, List.getD_eq_getElem?_getD, List.getElem?_cons_zero, List.getElem?_cons_succ, Option.getD_some] at hK
        try simp only [hP] at hK ⊢
        go_wp2
        exact hK _ _ rfl (Below.refl _ _)
      refine ops_cons ?_ ?_
      · intro us w1 hle hP K' hK
        simp only [predsV, vsel, VC, VS, VT, List.getD_eq_getElem?_getD, List.getElem?_cons_zero, List.getElem?_cons_succ, Option.getD_some, and_true, true_and, and_self] at hP
        (try dsimp only at hK ⊢)
        simp only [Act.put, List.setIfInBounds_toArray, List.set_cons_succ, List.set_cons_zero] at hK
        simp only [vsel, VC, VS, VT, List.getD_eq_getElem?_getD, List.getElem?_cons_zero, List.getElem?_cons_succ, Option.getD_some] at hK
        try simp only [hP] at hK ⊢
        go_wp2
        exact hK _ _ rfl (Below.refl _ _)
      refine ops_cons ?_ ?_
      · intro us w1 hle hP K' hK
        simp only [predsV, vsel, VC, VS, VT, List.getD_eq_getElem?_getD, List.getElem?_cons_zero, List.getElem?_cons_succ, Option.getD_some, and_true, true_and, and_self] at hP
        (try dsimp only at hK ⊢)
        simp only [Act.put, List.setIfInBounds_toArray, List.set_cons_succ, List.set_cons_zero] at hK
        simp only [vsel, VC, VS, VT, List.getD_eq_getElem?_getD, List.getElem?_cons_zero, List.getElem?_cons_succ, Option.getD_some] at hK
        try simp only [hP] at hK ⊢
        go_wp2
        exact hK _ _ rfl (Below.refl _ _)
      refine ops_cons ?_ ?_
      · intro us w1 hle hP K' hK
        simp only [predsV, vsel, VC, VS, VT, List.getD_eq_getElem?_getD, List.getElem?_cons_zero, List.getElem?_cons_succ, Option.getD_some, and_true, true_and, and_self] at hP
        (try dsimp only at hK ⊢)
        simp only [Act.put, List.setIfInBounds_toArray, List.set_cons_succ, List.set_cons_zero] at hK
        simp only [vsel, VC, VS, VT, List.getD_eq_getElem?_getD, List.getElem?_cons_zero, List.getElem?_cons_succ, Option.getD_some] at hK
        try simp only [hP] at hK ⊢
        go_wp2
        exact hK _ _ rfl (Below.refl _ _)
      refine ops_cons ?_ ?_
      · intro us w1 hle hP K' hK
        simp only [predsV, vsel, VC, VS, VT, List.getD_eq_getElem?_getD, List.getElem?_cons_zero, List.getElem?_cons_succ, Option.getD_some, and_true, true_and, and_self] at hP
        (try dsimp only at hK ⊢)
        simp only [Act.put, List.setIfInBounds_toArray, List.set_cons_succ, List.set_cons_zero] at hK
        simp only [vsel, VC, VS, VT, List.getD_eq_getElem?_getD, List.getElem?_cons_zero, List.getElem?_cons_succ, Option.getD_some] at hK
        try simp only [hP] at hK ⊢
        go_wp2
        exact hK _ _ rfl (Below.refl _ _)
      refine ops_cons ?_ ?_
      · intro us w1 hle hP K' hK
        simp only [predsV, vsel, VC, VS, VT, List.getD_eq_getElem?_getD, List.getElem?_cons_zero, List.getElem?_cons_succ, Option.getD_some, and_true, true_and, and_self] at hP
        (try dsimp only at hK ⊢)
        simp only [Act.put, List.setIfInBounds_toArray, List.set_cons_succ, List.set_cons_zero] at hK
        simp only [vsel, VC, VS, VT, List.getD_eq_getElem?_getD, List.getElem?_cons_zero, List.getElem?_cons_succ, Option.getD_some] at hK
        try simp only [hP] at hK ⊢
        go_wp2
        exact hK _ _ rfl (Below.refl _ _)
      refine ops_cons ?_ ?_
      · intro us w1 hle hP K' hK
        simp only [predsV, vsel, VC, VS, VT, List.getD_eq_getElem?_getD, List.getElem?_cons_zero, List.getElem?_cons_succ, Option.getD_some, and_true, true_and, and_self] at hP
        (try dsimp only at hK ⊢)
        simp only [Act.put, List.setIfInBounds_toArray, List.set_cons_succ, List.set_cons_zero] at hK
        simp only [vsel, VC, VS, VT, List.getD_eq_getElem?_getD, List.getElem?_cons_zero, List.getElem?_cons_succ, Option.getD_some] at hK
        try simp only [hP] at hK ⊢
        go_wp2
        exact hK _ _ rfl (Below.refl _ _)
      refine ops_cons ?_ ?_
      · intro us w1 hle hP K' hK
        simp only [predsV, vsel, VC, VS, VT, List.getD_eq_getElem?_getD, List.getElem?_cons_zero, List.getElem?_cons_succ, Option.getD_some, and_true, true_and, and_self] at hP
        (try dsimp only at hK ⊢)
        simp only [Act.put, List.setIfInBounds_toArray, List.set_cons_succ, List.set_cons_zero] at hK
        simp only [vsel, VC, VS, VT, List.getD_eq_getElem?_getD, List.getElem?_cons_zero, List.getElem?_cons_succ, Option.getD_some] at hK
        try simp only [hP] at hK ⊢
        go_wp2
        exact hK _ _ rfl (Below.refl _ _)
      refine ops_cons ?_ ?_
      · intro us w1 hle hP K' hK
        simp only [predsV, vsel, VC, VS, VT, List.getD_eq_getElem?_getD, List.getElem?_cons_zero, List.getElem?_cons_succ, Option.getD_some, and_true, true_and, and_self] at hP
        (try dsimp only at hK ⊢)
        simp only [Act.put, List.setIfInBounds_toArray, List.set_cons_succ, List.set_cons_zero] at hK
        simp only [vsel, VC, VS, VT, List.getD_eq_getElem?_getD, List.getElem?_cons_zero, List.getElem?_cons_succ, Option.getD_some] at hK
        try simp only [hP] at hK ⊢
        obtain ⟨q0, q1, q2, q3, q4, q5, q6, q7⟩ := CA.out _ (drew_left hle)
        clear hle
        go_wp2
        exact hK _ _ rfl (Below.refl _ _)
      refine ops_cons ?_ ?_
      · intro us w1 hle hP K' hK
        simp only [predsV, vsel, VC, VS, VT, List.getD_eq_getElem?_getD, List.getElem?_cons_zero, List.getElem?_cons_succ, Option.getD_some, and_true, true_and, and_self] at hP
        (try dsimp only at hK ⊢)
        simp only [Act.put, List.setIfInBounds_toArray, List.set_cons_succ, List.set_cons_zero] at hK
        simp only [vsel, VC, VS, VT, List.getD_eq_getElem?_getD, List.getElem?_cons_zero, List.getElem?_cons_succ, Option.getD_some] at hK
        try simp only [hP] at hK ⊢
        obtain ⟨q0, q1, q2, q3, q4, q5, q6, q7⟩ := CX.out _ (drew_left hle)
        clear hle
        go_wp2
        exact hK _ _ rfl (Below.refl _ _)
      refine ops_cons ?_ ?_
      · intro us w1 hle hP K' hK
        simp only [predsV, vsel, VC, VS, VT, List.getD_eq_getElem?_getD, List.getElem?_cons_zero, List.getElem?_cons_succ, Option.getD_some, and_true, true_and, and_self] at hP
        (try dsimp only at hK ⊢)
        simp only [Act.put, List.setIfInBounds_toArray, List.set_cons_succ, List.set_cons_zero] at hK
        simp only [vsel, VC, VS, VT, List.getD_eq_getElem?_getD, List.getElem?_cons_zero, List.getElem?_cons_succ, Option.getD_some] at hK
        try simp only [hP] at hK ⊢
        go_wp2
        exact hK _ _ ⟨_, rfl, World.alloc_heap_new _ _⟩ ((Below.refl _ _).alloc (Nat.le_refl _) _)
      refine ops_cons ?_ ?_
      · intro us w1 hle hP K' hK
        simp only [predsV, vsel, VC, VS, VT, List.getD_eq_getElem?_getD, List.getElem?_cons_zero, List.getElem?_cons_succ, Option.getD_some, and_true, true_and, and_self] at hP
        (try dsimp only at hK ⊢)
        simp only [Act.put, List.setIfInBounds_toArray, List.set_cons_succ, List.set_cons_zero] at hK
        simp only [vsel, VC, VS, VT, List.getD_eq_getElem?_getD, List.getElem?_cons_zero, List.getElem?_cons_succ, Option.getD_some] at hK
        try simp only [hP] at hK ⊢
        obtain ⟨⟨g, hg1, hg2⟩, hr⟩ := hP
        rw [hg1] at hK ⊢
        clear hg1
        go_wp2_with fail
        with_reducible refine (ex_dsort g _ hg2).mono ?_
        rintro e w7 ⟨v, rfl, hv, hB7⟩
        clear hle hg2
        go_wp2
        exact hK _ _ hv hB7
      refine ops_cons ?_ ?_
      · intro us w1 hle hP K' hK
        simp only [predsV, vsel, VC, VS, VT, List.getD_eq_getElem?_getD, List.getElem?_cons_zero, List.getElem?_cons_succ, Option.getD_some, and_true, true_and, and_self] at hP
        (try dsimp only at hK ⊢)
        simp only [Act.put, List.setIfInBounds_toArray, List.set_cons_succ, List.set_cons_zero] at hK
        simp only [vsel, VC, VS, VT, List.getD_eq_getElem?_getD, List.getElem?_cons_zero, List.getElem?_cons_succ, Option.getD_some] at hK
        try simp only [hP] at hK ⊢
        obtain ⟨q0, q1, q2, q3, q4, q5, q6, q7⟩ := CX.out _ (drew_left hle)
        clear hle
        go_wp2
        exact hK _ _ rfl (Below.refl _ _)
      refine ops_cons ?_ ?_
      · intro us w1 hle hP K' hK
        simp only [predsV, vsel, VC, VS, VT, List.getD_eq_getElem?_getD, List.getElem?_cons_zero, List.getElem?_cons_succ, Option.getD_some, and_true, true_and, and_self] at hP
        (try dsimp only at hK ⊢)
        simp only [Act.put, List.setIfInBounds_toArray, List.set_cons_succ, List.set_cons_zero] at hK
        simp only [vsel, VC, VS, VT, List.getD_eq_getElem?_getD, List.getElem?_cons_zero, List.getElem?_cons_succ, Option.getD_some] at hK
        try simp only [hP] at hK ⊢
        obtain ⟨q0, q1, q2, q3, q4, q5, q6, q7⟩ := CA.out _ (drew_left hle)
        clear hle
        go_wp2
        exact hK _ _ rfl (Below.refl _ _)
      refine ops_cons ?_ ?_
      · intro us w1 hle hP K' hK
        simp only [predsV, vsel, VC, VS, VT, List.getD_eq_getElem?_getD, List.getElem?_cons_zero, List.getElem?_cons_succ, Option.getD_some, and_true, true_and, and_self] at hP
        (try dsimp only at hK ⊢)
        simp only [Act.put, List.setIfInBounds_toArray, List.set_cons_succ, List.set_cons_zero] at hK
        simp only [vsel, VC, VS, VT, List.getD_eq_getElem?_getD, List.getElem?_cons_zero, List.getElem?_cons_succ, Option.getD_some] at hK
        try simp only [hP] at hK ⊢
        go_wp2
        exact hK _ _ ⟨_, rfl, World.alloc_heap_new _ _⟩ ((Below.refl _ _).alloc (Nat.le_refl _) _)
      refine ops_cons ?_ ?_
      · intro us w1 hle hP K' hK
        simp only [predsV, vsel, VC, VS, VT, List.getD_eq_getElem?_getD, List.getElem?_cons_zero, List.getElem?_cons_succ, Option.getD_some, and_true, true_and, and_self] at hP
        (try dsimp only at hK ⊢)
        simp only [Act.put, List.setIfInBounds_toArray, List.set_cons_succ, List.set_cons_zero] at hK
        simp only [vsel, VC, VS, VT, List.getD_eq_getElem?_getD, List.getElem?_cons_zero, List.getElem?_cons_succ, Option.getD_some] at hK
        try simp only [hP] at hK ⊢
        obtain ⟨hv, ⟨g, hg1, hg2⟩, hr⟩ := hP
        obtain ⟨a7, d7, hvv, hrow7⟩ := RowR_own [exX, exA] hv
        rw [hg1, hvv] at hK ⊢
        clear hg1 hvv hv
        go_wp2_with fail
        with_reducible refine (ex_same a7 d7 g _ hrow7 hg2).mono ?_
        rintro e w7 ⟨rfl, hB7⟩
        clear hle hg2 hrow7
        go_wp2
        exact hK _ _ rfl hB7
      refine ops_cons ?_ ?_
      · intro us w1 hle hP K' hK
        simp only [predsV, vsel, VC, VS, VT, List.getD_eq_getElem?_getD, List.getElem?_cons_zero, List.getElem?_cons_succ, Option.getD_some, and_true, true_and, and_self] at hP
        (try dsimp only at hK ⊢)
        simp only [Act.put, List.setIfInBounds_toArray, List.set_cons_succ, List.set_cons_zero] at hK
        simp only [vsel, VC, VS, VT, List.getD_eq_getElem?_getD, List.getElem?_cons_zero, List.getElem?_cons_succ, Option.getD_some] at hK
        try simp only [hP] at hK ⊢
        go_wp2
        exact hK _ _ rfl (Below.refl _ _)
      refine ops_cons ?_ ?_
      · intro us w1 hle hP K' hK
        simp only [predsV, vsel, VC, VS, VT, List.getD_eq_getElem?_getD, List.getElem?_cons_zero, List.getElem?_cons_succ, Option.getD_some, and_true, true_and, and_self] at hP
        (try dsimp only at hK ⊢)
        simp only [Act.put, List.setIfInBounds_toArray, List.set_cons_succ, List.set_cons_zero] at hK
        simp only [vsel, VC, VS, VT, List.getD_eq_getElem?_getD, List.getElem?_cons_zero, List.getElem?_cons_succ, Option.getD_some] at hK
        try simp only [hP] at hK ⊢
        go_wp2
        exact hK _ _ rfl (Below.refl _ _)
      · exact ops_nil _ _
      · intro us w7 hle hV
        have h56 := hV 56 (by decide)
        simp only [vsel, VC, List.getD_eq_getElem?_getD, List.getElem?_cons_zero, List.getElem?_cons_succ, Option.getD_some] at h56
        have HBL : Hid (Below w.heap.size w w7) := Lib.hid (bthen (bthen HBW3.out HBW36.out) (drew_left hle))
        clear hV hle
        (try dsimp only)
        rw [h56]
        go_wp2
        go_ret
        exact ⟨rfl, HBL.out⟩
end Go.Proofs.YtnmlephjhcmbhaaGreat
