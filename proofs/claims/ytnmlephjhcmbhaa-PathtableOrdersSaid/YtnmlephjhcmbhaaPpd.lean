/- pathtable.Path, walked. -/
import Derived.Test.YtnmlephjhcmbhaaPpc
namespace Go.Proofs.Ytnmlephjhcmbhaa
set_option linter.unusedSimpArgs false
set_option linter.unusedVariables false
open Go Go.RowKit
set_option maxRecDepth 100000 in
set_option maxHeartbeats 4000000 in
theorem ppath_ok (a : Option Addr) (c : Nat) (l : List PE) (num : Int) (w : World) (hl : l.length ≤ 1000) (hrow : RowP w a l) :
    Calls Try.prog 36 #[.slice a l.length c, cN num] w (PathEnd w (pathR l num)) := by
  obtain ⟨j0, hj, ky0, ky1, ky2⟩ := info_parts strInfo
  by_cases h1 : num < 1
  · have HX := Lib.hid (show pathR l num = ([], 2) by rw [pathR, if_pos (.inl h1)])
    clear hrow
    go_enter Try.func36, Try.ntmps36
    go_wp2
    go_ret2
    exact PathEnd.bad HX.out (Below.refl _ w)
  · by_cases h2 : (l.length : Int) < num
    · have HX := Lib.hid (show pathR l num = ([], 2) by rw [pathR, if_pos (.inr h2)])
      clear hrow
      go_enter Try.func36, Try.ntmps36
      go_wp2
      go_ret2
      exact PathEnd.bad HX.out (Below.refl _ w)
    · obtain ⟨n0, hn0⟩ : ∃ n0 : Nat, num = n0 := ⟨num.toNat, by omega⟩
      subst hn0
      have hX : ∀ r, upL l n0 n0 = r → pathR l n0 = resP r := fun r hr => by
        rw [pathR, if_neg (by omega), Int.toNat_natCast, hr]
      have HX := Lib.hid hX
      have hpos : 0 < l.length := by omega
      have hn0l : n0 ≤ l.length := by omega
      obtain ⟨b, off, rfl, hb, hc⟩ := hrow.addr hpos
      have HC := Lib.hid hc
      have HBB := Lib.hid hb
      clear hc hrow hX hb
      go_enter Try.func36, Try.ntmps36
      go_wp2
      go_loopw [1, 6, 7] (fun i v _ wr => ∃ (f n : Nat) (U : List ByteArray), i = cN n ∧ n ≤ n0 ∧ n ≤ f ∧ upL l n0 n0 = (upL l f n).map (U ++ ·) ∧ U.length + n ≤ n0 ∧ wr.ownsRow w.heap.size 9 1 v U.length (strB U) ∧ Below w.heap.size w wr) (fun i _ _ _ => (intOf i).toNat)
      case atStart => exact ⟨n0, n0, [], rfl, Nat.le_refl _, Nat.le_refl _, by simp, by simp, ⟨rfl, .inl ⟨rfl, rfl⟩⟩, Below.refl _ w⟩
      case round =>
        obtain ⟨f, n, U, rfl, hn, hf, hE, hU, ho, hB⟩ := hrel
        have HE := Lib.hid hE
        have HO := Lib.hid ho
        have HB := Lib.hid hB
        have hsz := hB.size
        clear hE
        by_cases hlt : (1 : Int) < (n : Int)
        · obtain ⟨p, rfl⟩ : ∃ p, n = p + 1 := ⟨n - 1, by omega⟩
          obtain ⟨f, rfl⟩ : ∃ f', f = f' + 1 := ⟨f - 1, by omega⟩
          have hpl : p < l.length := by omega
          have hck := HC.out p hpl
          obtain ⟨x, hx⟩ : ∃ x, l.getD p peD = x := ⟨_, rfl⟩
          rw [hx] at hck
          obtain ⟨q0, q1, q2⟩ := hck.below HBB.out hB
          have hp1 : (p : Int) < (l.length : Int) := by omega
          have e1 : ((p : Int) + 1 - 1) = (p : Int) := by omega
          have hwp : IntKind.i64.wrap (p : Int) = (p : Int) := by rw [IntKind.wrap_i64]; omega
          have hstep : upL l (f + 1) (p + 1) = if x.par < 1 ∨ ((p : Int) + 1) ≤ x.par then none else (upL l f x.par.toNat).map (x.id :: ·) := by
            rw [upL, if_neg (by omega), Nat.add_sub_cancel, hx]
            rfl
          have HS := Lib.hid hstep
          clear hx hck hstep
          by_cases hlow : x.par < 1
          · have HN := Lib.hid (HX.out _ (by rw [HE.out, HS.out, if_pos (.inl hlow)]))
            clear ho hB
            go_wp2
            go_ret2
            exact PathEnd.bad HN.out (bald HB.out _)
          · by_cases hup : (p : Int) + 1 ≤ x.par
            · have HN := Lib.hid (HX.out _ (by rw [HE.out, HS.out, if_pos (.inr hup)]))
              clear ho hB
              go_wp2
              go_ret2
              exact PathEnd.bad HN.out (bald HB.out _)
            · obtain ⟨q, hq⟩ : ∃ q : Nat, x.par = q := ⟨x.par.toNat, by omega⟩
              have HNX := Lib.hid (show upL l n0 n0 = (upL l f q).map ((U ++ [x.id]) ++ ·) by
                rw [HE.out, HS.out, if_neg (by omega), hq, Int.toNat_natCast, Option.map_map]
                congr 1
                funext r
                simp)
              rw [hq] at hlow hup q2
              have HQ := Lib.hid hq
              have ho2 := (own_keep ho (bald (Below.refl _ wr) (.cells #[.string x.id, cN x.lba, cN (q : Int)] 63)))
              clear ho
              go_wp2_with (at_builtin; refine wpList_append_own _ rfl _ _ 50 rfl w.heap.size 9 j0 (.string ByteArray.empty) 1 16 Try.underlying50 hj ky0 ky1 ky2 rfl (by decide) _ _ _ rfl (ho2.alloc _) ⟨wr.heap.size + 1, 0, none⟩ 1 1 [.string x.id] rfl rfl ?c1 ?c2 ?c3 ?c4 ?c5 ?_)
              try case c1 => intro j u h; rw [← World.size_alloc]; exact cell_one_new _ _ _ j u h
              case c2 => first | rfl | (intro u h; rw [List.mem_singleton.1 h]; rfl)
              case c3 => unfold maxLen; omega
              case c4 => omega
              case c5 => first | omega | (simp; omega)
              intro v' w2 ho3 hg3 _
              have hb3 : Below w.heap.size w w2 := (bald (bald HB.out (.cells #[.string x.id, cN x.lba, cN (q : Int)] 63)) (.cells #[.string x.id] 9)).grown hg3 (by simp; omega) (fun k e => (ho2.lt k e).1)
              have HO3 : Hid (w2.ownsRow w.heap.size 9 1 v' (U ++ [x.id]).length (strB (U ++ [x.id]))) := Lib.hid (by rw [List.length_append, strB_snoc]; exact ho3)
              have p2 : w2.cell? ⟨wr.heap.size, 2, none⟩ = some (cN (q : Int)) := by
                have k1 : ((wr.alloc (.cells #[.string x.id, cN x.lba, cN (q : Int)] 63)).alloc (.cells #[.string x.id] 9)).heap[wr.heap.size]? = some (.cells #[.string x.id, cN x.lba, cN (q : Int)] 63 (0, 0)) :=
                  (Lib.alloc_old _ _ _ (by simp)).trans (World.alloc_heap_new _ _)
                have k2 := (hg3.block wr.heap.size (by simp; omega) (fun e => by
                  rcases ho2.2 with ⟨rfl, -⟩ | ⟨g, cap, cur, rfl, hbg, hgg, -⟩
                  · simp [Value.ownBlock] at e
                  · simp [Value.ownBlock] at e
                    subst e
                    have k3 := World.alloc_heap_new wr (.cells #[.string x.id, cN x.lba, cN (q : Int)] 63)
                    rw [hgg] at k3
                    simp at k3)).trans k1
                rw [Lib.cell_of_heap k2]
                rfl
              have HB3 := Lib.hid hb3
              clear ho2 ho3 hg3 hb3
              go_wp2
              go_roundw
              case rel => exact ⟨f, q, U ++ [x.id], rfl, by omega, by omega, HNX.out, by simp; omega, HO3.out, HB3.out⟩
              case measure => simp [intOf]; omega
        · have hn1 : n ≤ 1 := by omega
          have HN := Lib.hid (HX.out _ (by rw [HE.out, upL_one l f n hn1]))
          obtain ⟨a6, c6, rfl⟩ := own_formS ho
          have c2 := rev_ok U HO.out (by omega)
          have HNB := Lib.hid (fun k (e : (Value.slice a6 U.length c6).ownBlock = some k) => (ho.lt k e).1)
          clear ho
          go_wp2_with fail
          with_reducible refine c2.mono ?_
          rintro e w1 ⟨rfl, ho1, hg1⟩
          have HO1 := Lib.hid ho1
          have HB1 := Lib.hid (HB.out.grown hg1 hB.size HNB.out)
          clear ho1 hg1 hB c2
          go_wp2
          go_ret2
          exact ⟨_, by rw [HN.out]; rfl, by rw [HN.out]; simpa [resP] using HO1.out, HB1.out⟩
end Go.Proofs.Ytnmlephjhcmbhaa
