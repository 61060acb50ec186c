/- The chapter's example of path tables: awake, walked. -/
import Derived.Test.YtnmlephjhcmbhaaPpw
namespace Go.Proofs.Ytnmlephjhcmbhaa
set_option linter.unusedSimpArgs false
set_option linter.unusedVariables false
open Go Go.RowKit
set_option maxRecDepth 100000 in
set_option maxHeartbeats 8000000 in
theorem awake22_ok (w : World) : Calls Try.prog 29 #[] w fun e w' => e = .returned (.bool true) ∧ Below w.heap.size w w' := by
  obtain ⟨S1, hS1⟩ : ∃ S, S = encPS false [⟨⟨#[65]⟩, 19, 1⟩] := ⟨_, rfl⟩
  obtain ⟨S2, hS2⟩ : ∃ S, S = encPS true exO := ⟨_, rfl⟩
  have hs1 : S1.toList = [1, 0, 19, 0, 0, 0, 1, 0, 65, 0] := by rw [Lib.toList_data, hS1]; exact ex_enc1s
  have hs2 : (S2.size : Int) = 60 := by rw [hS2, ex_enc2s]; rfl
  have HS1 := Lib.hid hS1
  have HS2 := Lib.hid hS2
  clear hS1 hS2
  go_enter Try.func29, Try.ntmps29
  go_wp2_with fail
  with_reducible refine (example22_ok _).mono ?_
  rintro e w1 ⟨rfl, hx1, hB1⟩
  have c2 := ex_order _ w1 hx1
  have HB1 := Lib.hid hB1
  clear hx1 hB1
  go_wp2_with fail
  with_reducible refine c2.mono ?_
  rintro e w2 ⟨ab, ao, c, b, d, rfl, hr, hc, hu, hB2⟩
  have HB2 := Lib.hid (bthen HB1.out hB2)
  have HR := Lib.hid hr
  have HC := Lib.hid hc
  have HU := Lib.hid hu
  clear hr hc hu hB2 c2
  go_wp2_with fail
  with_reducible refine (ex_penc1 S1 HS1.out _ _ (World.alloc_heap_new w2 (.cells #[.string ⟨#[65]⟩, cN 19, cN 1] 63))).mono ?_
  rintro e w3 ⟨rfl, hB3⟩
  have HB3 : Hid (Below w2.heap.size w2 w3) := Lib.hid (bthen (bald (Below.refl _ w2) _) hB3)
  clear hB3
  go_wp2_with fail
  with_reducible refine (ex_penc2 S2 HS2.out (some ⟨ab, ao, none⟩) c w3 (HR.out.below HB3.out)).mono ?_
  rintro e w4 ⟨rfl, hB4⟩
  have HB4 := Lib.hid (bthen HB3.out hB4)
  clear hB4
  go_wp2_with fail
  with_reducible refine (ex_pdec S2 HS2.out w4).mono ?_
  rintro e w5 ⟨a5, c5, rfl, hr5, hB5⟩
  have HB5 := Lib.hid (bthen HB4.out hB5)
  have HR5 := Lib.hid hr5
  clear hr5 hB5
  go_wp2_with fail
  with_reducible refine (ex_ppath (some ⟨ab, ao, none⟩) c w5 (HR.out.below HB5.out)).mono ?_
  rintro e w6 ⟨b6, d6, rfl, hu6, hB6⟩
  have HB6 := Lib.hid (bthen HB5.out hB6)
  have HU6 := Lib.hid hu6
  have HR6 := Lib.hid (HR5.out.below hB6)
  clear hu6 hB6
  go_wp2_with fail
  with_reducible refine (ex_pfind (some ⟨ab, ao, none⟩) c _ _ HC.out ((HR.out.below HB6.out).below (bald (Below.refl _ w6) (.cells #[.string ⟨#[65]⟩, .string ⟨#[68]⟩] 9))) (World.alloc_heap_new w6 _)).mono ?_
  rintro e w7 ⟨rfl, hB7⟩
  have hb67 : Below w6.heap.size w6 w7 := bthen (bald (Below.refl _ w6) _) hB7
  have HB67 := Lib.hid hb67
  have HB7 := Lib.hid (bthen HB6.out hb67)
  clear hB7 hb67
  obtain ⟨bq, oq, eq, -, hc3⟩ := (HR.out.below HB7.out) 3 (by decide)
  simp only [Option.some.injEq, Addr.mk.injEq] at eq
  obtain ⟨rfl, rfl, -⟩ := eq
  obtain ⟨q0, q1, q2⟩ := hc3
  rw [show ao + 3 * 3 = ao + 9 by omega] at q0 q1 q2
  rw [show exO.getD 3 peD = ⟨⟨#[68]⟩, 23, 2⟩ from rfl] at q0 q1 q2
  go_wp2_with fail
  with_reducible refine (ex_eqi _ b d _ _ (own_keep (own_keep HU.out HB7.out) (bald (Below.refl _ w7) _)) (World.alloc_heap_new w7 _)).mono ?_
  rintro e w8 ⟨rfl, hB8⟩
  have HB78 := Lib.hid (bthen (bald (Below.refl _ w7) (.cells #[cN 1, cN 2, cN 3, cN 5, cN 6, cN 4] 3)) hB8)
  have HB8 := Lib.hid (bthen HB7.out HB78.out)
  clear hB8 q0 q1 q2
  go_wp2_with fail
  with_reducible refine (ex_psize (some ⟨ab, ao, none⟩) c w8 (HR.out.below HB8.out)).mono ?_
  rintro e w9 ⟨rfl, hB9⟩
  have HB89 := Lib.hid hB9
  have HB9 := Lib.hid (bthen HB8.out hB9)
  clear hB9
  go_wp2_with fail
  with_reducible refine (ex_psame a5 (some ⟨ab, ao, none⟩) c5 c w9 (HR6.out.below (bthen (bthen HB67.out HB78.out) HB89.out)) (HR.out.below HB9.out)).mono ?_
  rintro e w10 ⟨rfl, hB10⟩
  have HB910 := Lib.hid hB10
  have HB10 := Lib.hid (bthen HB9.out hB10)
  clear hB10
  go_wp2_with fail
  with_reducible refine (ex_eqs _ b6 d6 _ _ (own_keep (own_keep HU6.out (bthen (bthen (bthen HB67.out HB78.out) HB89.out) HB910.out)) (bald (Below.refl _ w10) _)) (World.alloc_heap_new w10 _)).mono ?_
  rintro e w11 ⟨rfl, hB11⟩
  have HB11 := Lib.hid (bthen HB10.out (bthen (bald (Below.refl _ w10) _) hB11))
  clear hB11
  go_wp2_with fail
  with_reducible refine (ex_pvalid (some ⟨ab, ao, none⟩) c w11 (HR.out.below HB11.out)).mono ?_
  rintro e w12 ⟨rfl, hB12⟩
  have HB12 := Lib.hid (bthen HB11.out hB12)
  clear hB12
  go_wp2_with fail
  with_reducible refine (example22_ok _).mono ?_
  rintro e w13 ⟨rfl, hx13, hB13⟩
  have HB13 := Lib.hid (bthen HB12.out hB13)
  have HX13 := Lib.hid hx13
  clear hB13 hx13
  go_wp2_with fail
  with_reducible refine (ex_pvalid2 _ _ HX13.out).mono ?_
  rintro e w14 ⟨rfl, hB14⟩
  have HB14 := Lib.hid (bthen HB13.out hB14)
  clear hB14
  go_wp2
  go_ret
  exact ⟨rfl, HB2.out.trans (HB14.out.mono HB2.out.size)⟩
end Go.Proofs.Ytnmlephjhcmbhaa
