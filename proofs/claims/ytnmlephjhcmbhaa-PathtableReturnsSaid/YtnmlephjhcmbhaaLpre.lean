/- PathtableReturns: for every input the law returns true and leaves its argument as it was. No condition. -/
import Derived.Test.YtnmlephjhcmbhaaRows
import Derived.Test.YtnmlephjhcmbhaaCl13
import Derived.Test.YtnmlephjhcmbhaaPqa
import Derived.WalkKit
import Derived.ProofKit
import Derived.OpenShut
import Derived.ShutString
import Derived.ChangeOld
import Derived.Below
namespace Go.Proofs.Ytnmlephjhcmbhaa.pathtableReturns
set_option linter.unusedSimpArgs false
set_option linter.unusedVariables false
open Go Go.ChangeShapes Go.WideShapes Go.ChangeAt Go.RowKit
theorem sB_at (s : ByteArray) (a i : Nat) : sB s (a + i) = ((s.data.toList.drop a).getD i 0).toNat := by
  unfold sB
  rw [List.getD_eq_getElem?_getD, List.getD_eq_getElem?_getD, List.getElem?_drop]
theorem num_rd (big : Bool) (s : ByteArray) (a k : Nat) (v : Int) (Y : List UInt8) (h : s.data.toList.drop a = (numB v k big).data.toList ++ Y) (hv : 0 ≤ v ∧ v < 2 ^ (8 * k)) : (rdN big s a k : Int) = v := by
  obtain ⟨n, rfl⟩ : ∃ n : Nat, v = n := ⟨v.toNat, by omega⟩
  have hn : n < 2 ^ (8 * k) := by exact_mod_cast hv.2
  unfold numB at h
  rw [if_pos hv, Int.toNat_natCast] at h
  have key : rdN big s a k = n := by
    cases big
    · show leR s a k = n
      unfold leR
      rw [acc_congr (g := fun i => (byteAt n i).toNat) (fun i hi => ?_), acc_byteAt, Nat.mod_eq_of_lt hn]
      show sB s (a + i) = _
      rw [sB_at, h, List.getD_eq_getElem?_getD, List.getElem?_append_left (by simp [leL_length]; exact hi)]
      simp [leL_get n k i hi]
    · show beR s a k = n
      unfold beR
      rw [acc_congr (g := fun i => (byteAt n i).toNat) (fun i hi => ?_), acc_byteAt, Nat.mod_eq_of_lt hn]
      show sB s (a + (k - 1 - i)) = _
      rw [sB_at, h, List.getD_eq_getElem?_getD, List.getElem?_append_left (by simp [leL_length]; omega)]
      have hr : ((leL n k).reverse)[k - 1 - i]? = some (byteAt n i) := by
        rw [List.getElem?_reverse (by rw [leL_length]; omega), leL_length, show k - 1 - (k - 1 - i) = i by omega, leL_get n k i hi]
      simp [hr]
  rw [key]
theorem numE_zero {v : Int} {k : Nat} (h : numE v k = 0) : 0 ≤ v ∧ v < 2 ^ (8 * k) := by
  unfold numE at h
  split at h
  · assumption
  · omega
theorem numB_len {v : Int} {k : Nat} {big : Bool} (h : numE v k = 0) : (numB v k big).data.toList.length = k := by
  unfold numB
  rw [if_pos (numE_zero h)]
  cases big <;> simp [leL_length]
/-- An entry that is encoded. -/
structure EncOk (x : PE) : Prop where
  pos : x.id.size ≠ 0
  le : x.id.size ≤ 255
  good : goodN x
theorem enc_all {big : Bool} {l : List PE} (h : encPE big l = 0) : l.length ≤ 1024 ∧ ∀ x ∈ l, EncOk x := by
  unfold encPE at h
  split at h
  · omega
  · rename_i h1
    split at h
    · omega
    · rename_i h2
      split at h
      · rename_i h3
        refine ⟨by omega, fun x hx => ⟨fun h0 => h2 ?_, ?_, by simpa using List.all_eq_true.1 h3 x hx⟩⟩
        · rw [List.any_eq_true]
          refine ⟨x, hx, ?_⟩
          rw [Lib.toList_data, List.isEmpty_iff]
          exact List.eq_nil_of_length_eq_zero (by rw [list_size]; exact h0)
        · rcases Nat.lt_or_ge 255 x.id.size with k | k
          · exfalso
            refine h1 (.inr ?_)
            rw [List.any_eq_true]
            exact ⟨x, hx, decide_eq_true (by omega)⟩
          · exact k
      · omega
theorem enc_big (l : List PE) : encPE true l = encPE false l := rfl
theorem encB_len {big : Bool} {x : PE} (h : EncOk x) : (encB big x).length = sizP x.id.size := by
  have h1 := numB_len (big := big) h.good.1
  have h2 := numB_len (big := big) h.good.2.1
  simp only [encB, joinB, partsP, List.flatMap_cons, List.flatMap_nil, List.length_cons, List.length_append, h1, h2, list_size, bL, List.length_replicate, List.length_nil, sizP, List.toList_toArray]
  omega
theorem sz_eq (x : PE) : szP x = sizP x.id.size := by unfold szP sizP; omega
theorem encs_len {big : Bool} : ∀ {l : List PE}, (∀ x ∈ l, EncOk x) → (encsB big l).length = sizeM l
  | [], _ => rfl
  | x :: l, h => by
    rw [show encsB big (x :: l) = encB big x ++ encsB big l from rfl, List.length_append, encB_len (h x (List.mem_cons_self ..)), encs_len fun y hy => h y (List.mem_cons_of_mem _ hy), show sizeM (x :: l) = szP x + sizeM l from rfl, sz_eq]
theorem pd_one (big : Bool) (s : ByteArray) (x : PE) (hx : EncOk x) (a f : Nat) (Y : List UInt8) (R : List PE) (hd : s.data.toList.drop a = encB big x ++ Y) (hR : R.length < 1024) : pdL big s (f + 1) a R = pdL big s f (a + sizP x.id.size) (R ++ [x]) := by
  have h4 := numB_len (big := big) hx.good.1
  have h2 := numB_len (big := big) hx.good.2.1
  have hlen := congrArg List.length hd
  rw [List.length_drop, list_size, List.length_append, encB_len hx] at hlen
  have hz : 8 + x.id.size ≤ sizP x.id.size := by unfold sizP; omega
  obtain ⟨L4, hL4⟩ : ∃ L, (numB x.lba 4 big).data.toList = L := ⟨_, rfl⟩
  obtain ⟨L2, hL2⟩ : ∃ L, (numB x.par 2 big).data.toList = L := ⟨_, rfl⟩
  rw [hL4] at h4
  rw [hL2] at h2
  have he : encB big x ++ Y = bN x.id.size :: 0 :: (L4 ++ (L2 ++ (x.id.data.toList ++ (List.replicate (x.id.size % 2) 0 ++ Y)))) := by
    simp [encB, joinB, partsP, hL4, hL2, bL]
  rw [he] at hd
  have hb0 : sB s a = x.id.size := by
    have := sB_at s a 0
    rw [Nat.add_zero, hd] at this
    rw [this]
    show (bN x.id.size).toNat = _
    rw [bN, UInt8.toNat_ofNat', Nat.mod_eq_of_lt (by have := hx.le; omega)]
    have := hx.le
    omega
  have hb1 : sB s (a + 1) = 0 := by rw [sB_at, hd]; rfl
  have hd2 : s.data.toList.drop (a + 2) = L4 ++ (L2 ++ (x.id.data.toList ++ (List.replicate (x.id.size % 2) 0 ++ Y))) := by
    rw [← List.drop_drop, hd]; rfl
  have hd6 : s.data.toList.drop (a + 6) = L2 ++ (x.id.data.toList ++ (List.replicate (x.id.size % 2) 0 ++ Y)) := by
    rw [show a + 6 = a + 2 + 4 by omega, ← List.drop_drop, hd2, List.drop_append, h4, List.drop_eq_nil_of_le (by omega)]; simp
  have hd8 : s.data.toList.drop (a + 8) = x.id.data.toList ++ (List.replicate (x.id.size % 2) 0 ++ Y) := by
    rw [show a + 8 = a + 6 + 2 by omega, ← List.drop_drop, hd6, List.drop_append, h2, List.drop_eq_nil_of_le (by omega)]; simp
  have hX : pdX big s a = x := by
    obtain ⟨xi, xl, xp⟩ := x
    have r1 := num_rd big s (a + 2) 4 xl _ (by rw [hL4]; exact hd2) (numE_zero hx.good.1)
    have r2 := num_rd big s (a + 6) 2 xp _ (by rw [hL2]; exact hd6) (numE_zero hx.good.2.1)
    unfold pdX
    rw [hb0, r1, r2]
    congr 1
    apply ext_list
    rw [extract_list, hd8, show a + 8 + xi.size - (a + 8) = xi.data.toList.length by rw [list_size]; omega, List.take_left]
  rw [pdL, if_neg (by omega), hb0, hb1, if_neg (by have := hx.pos; omega), if_neg (by simp), if_neg (by omega), hX]
theorem pd_run (big : Bool) (s : ByteArray) : ∀ (l : List PE) (a f : Nat) (R : List PE), (∀ x ∈ l, EncOk x) → s.data.toList.drop a = encsB big l → l.length < f + 1 → R.length + l.length ≤ 1024 → a ≤ s.size → pdL big s f a R = (0, R ++ l)
  | [], a, f, R, _, h, _, _, _ => by
    have hs : s.size ≤ a := by
      have := congrArg List.length h
      rw [List.length_drop, list_size] at this
      simp [encsB] at this
      omega
    rw [pdL_end hs, List.append_nil]
  | x :: l, a, f, R, hx, h, hf, hR, ha => by
    obtain ⟨f, rfl⟩ : ∃ f', f = f' + 1 := ⟨f - 1, by simp at hf; omega⟩
    have hx1 := hx x (List.mem_cons_self ..)
    have h' : s.data.toList.drop a = encB big x ++ encsB big l := h
    rw [pd_one big s x hx1 a f _ R h' (by simp at hR; omega)]
    have hd : s.data.toList.drop (a + sizP x.id.size) = encsB big l := by
      rw [← List.drop_drop, h', List.drop_append, encB_len hx1, List.drop_eq_nil_of_le (by rw [encB_len hx1]; exact Nat.le_refl _)]; simp
    have hlen := congrArg List.length h'
    rw [List.length_drop, list_size, List.length_append, encB_len hx1] at hlen
    have h8 : 8 ≤ sizP x.id.size := by unfold sizP; omega
    rw [pd_run big s l _ f _ (fun y hy => hx y (List.mem_cons_of_mem _ hy)) hd (by simp at hf; omega) (by simp at hR ⊢; omega) (by omega)]
    simp
theorem pd_enc (big : Bool) (l : List PE) (h : encPE big l = 0) : pdR big (encPS big l) = (0, l) ∧ (encPS big l).size = sizeM l := by
  obtain ⟨h1, h2⟩ := enc_all h
  have e : encPS big l = ⟨(encsB big l).toArray⟩ := by rw [encPS, if_pos h]
  have hsz : (encPS big l).size = sizeM l := by rw [← list_size, e, ← encs_len (big := big) h2]
  have hge : ∀ l : List PE, l.length ≤ sizeM l := fun l => by
    induction l with
    | nil => exact Nat.le_refl _
    | cons x l ih =>
      have h8 : 8 ≤ szP x := by unfold szP; omega
      rw [show sizeM (x :: l) = szP x + sizeM l from rfl, List.length_cons]
      omega
  refine ⟨?_, hsz⟩
  have := pd_run big (encPS big l) l 0 ((encPS big l).size + 1) [] h2 (by rw [List.drop_zero, e]) (by have := hge l; omega) (by simp; omega) (Nat.zero_le _)
  rw [pdR, this]
  rfl
set_option maxRecDepth 100000 in
set_option maxHeartbeats 2000000 in
theorem walk (a : Option Addr) (c : Nat) (l : List PE) (w : World) (hr : RowP w a l ∧ l.length ≤ c ∧ ∀ r ∈ l, r.id.size ≤ maxLen) : Calls Try.prog 13 #[.slice a l.length c] w fun e w' => e = .returned (.bool true) ∧ Below w.heap.size w w' := by
  obtain ⟨hrow, hlc, hsz⟩ := hr
  have HR := Lib.hid hrow
  have c1 := fun (W : World) (hW : Below w.heap.size w W) => psmall_ok a c l W (hrow.below hW) hsz
  clear hsz
  cases hs : smallPL l
  · rw [hs] at c1
    clear hs hrow
    go_enter Try.func13, Try.ntmps13
    go_wp2_with fail
    with_reducible refine (awake22_ok _).mono ?_
    rintro e w1 ⟨rfl, hB1⟩
    have c2 := c1 _ hB1
    go_wp2_with fail
    with_reducible refine c2.mono ?_
    rintro e w2 ⟨rfl, rfl⟩
    go_wp2
    go_ret
    exact ⟨rfl, hB1⟩
  · rw [hs] at c1
    obtain ⟨hl40, hsz3⟩ := smallPL_spec hs
    have ca := fun (W : World) (hW : Below w.heap.size w W) => penc_ok a c l false W (hrow.below hW)
    have cb := fun (W : World) (hW : Below w.heap.size w W) => penc_ok a c l true W (hrow.below hW)
    unfold PeEnd at ca cb
    rw [enc_big] at cb
    by_cases he : encPE false l = 0
    · obtain ⟨f1, f2⟩ := pd_enc false l he
      obtain ⟨f3, f4⟩ := pd_enc true l (by rw [enc_big]; exact he)
      rw [he] at ca cb
      generalize encPS false l = A at ca f1 f2
      generalize encPS true l = B at cb f3 f4
      have hle : sizeM l ≤ 1800 * 40 := by
        have h1 := encs_len (big := false) (enc_all he).2
        have h2 := encsB_le false l fun x hx => ((enc_all he).2 x hx).le
        rw [h1] at h2
        omega
      have cz := fun (W : World) (hW : Below w.heap.size w W) => psize_ok a c l W (by omega) (fun x hx => by have := hsz3 x hx; omega) (HR.out.below hW)
      have cda := fun W => pdecl_ok A W (by omega)
      have cdb := fun W => pdecb_ok B W (by omega)
      rw [f1] at cda
      rw [f3] at cdb
      unfold PdEnd at cda cdb
      have g1 : ((A.size : Int) == ((sizeM l : Nat) : Int)) = true := by rw [f2]; simp
      have g2 : ((B.size : Int) == (A.size : Int)) = true := by rw [f2, f4]; simp
      obtain ⟨Z, hZ⟩ : ∃ Z, sizeM l = Z := ⟨_, rfl⟩
      rw [hZ] at g1 cz
      clear hs hrow he f1 f2 f3 f4 hsz3 hle hZ
      go_enter Try.func13, Try.ntmps13
      go_wp2_with fail
      with_reducible refine (awake22_ok _).mono ?_
      rintro e w1 ⟨rfl, hB1⟩
      have c2 := c1 _ hB1
      go_wp2_with fail
      with_reducible refine c2.mono ?_
      rintro e w2 ⟨rfl, rfl⟩
      have c4 := ca _ hB1
      go_wp2_with fail
      with_reducible refine c4.mono ?_
      rintro e w3 ⟨rfl, hB3⟩
      have hb3 := bthen hB1 hB3
      have c5 := cb _ hb3
      go_wp2_with fail
      with_reducible refine c5.mono ?_
      rintro e w4 ⟨rfl, hB4⟩
      have hb4 := bthen hb3 hB4
      go_wp2_with fail
      with_reducible refine (cda _).mono ?_
      rintro e w5 ⟨v5, rfl, ho5, hB5⟩
      have hb5 := bthen hb4 hB5
      obtain ⟨a5, c5, rfl, hr5⟩ := RowP_own l ho5
      clear ho5
      go_wp2_with fail
      with_reducible refine (cdb _).mono ?_
      rintro e w6 ⟨v6, rfl, ho6, hB6⟩
      have hb6 := bthen hb5 hB6
      obtain ⟨a6, c6, rfl, hr6⟩ := RowP_own l ho6
      have hr56 := hr5.below hB6
      clear ho6
      have c7 := cz _ hb6
      go_wp2_with fail
      with_reducible refine c7.mono ?_
      rintro e w7 ⟨rfl, hB7⟩
      have hb7 := bthen hb6 hB7
      have c8 := psame_ok a5 c5 l a c l w7 (by omega) (hr56.below hB7) (HR.out.below hb7)
      rw [(pesEq_iff l l).2 rfl] at c8
      go_wp2_with fail
      with_reducible refine c8.mono ?_
      rintro e w8 ⟨rfl, hB8⟩
      have hb8 := bthen hb7 hB8
      have c9 := psame_ok a6 c6 l a c l w8 (by omega) ((hr6.below hB7).below hB8) (HR.out.below hb8)
      rw [(pesEq_iff l l).2 rfl] at c9
      go_wp2_with fail
      with_reducible refine c9.mono ?_
      rintro e w9 ⟨rfl, hB9⟩
      go_wp2
      go_ret
      exact ⟨rfl, bthen hb8 hB9⟩
    · have ea : encPS false l = ByteArray.empty := by rw [encPS, if_neg he]
      have eb : encPS true l = ByteArray.empty := by rw [encPS, enc_big, if_neg he]
      rw [ea] at ca
      rw [eb] at cb
      obtain ⟨E, hE⟩ : ∃ E, encPE false l = E := ⟨_, rfl⟩
      rw [hE] at ca cb he
      have g1 : (E != 0) = true := by simpa using he
      have hemp : ByteArray.empty.toList.isEmpty = true := by rw [Lib.toList_data]; rfl
      clear hs hrow ea eb hE he hsz3
      go_enter Try.func13, Try.ntmps13
      go_wp2_with fail
      with_reducible refine (awake22_ok _).mono ?_
      rintro e w1 ⟨rfl, hB1⟩
      have c2 := c1 _ hB1
      go_wp2_with fail
      with_reducible refine c2.mono ?_
      rintro e w2 ⟨rfl, rfl⟩
      have c4 := ca _ hB1
      go_wp2_with fail
      with_reducible refine c4.mono ?_
      rintro e w3 ⟨rfl, hB3⟩
      have hb3 := bthen hB1 hB3
      have c5 := cb _ hb3
      go_wp2_with fail
      with_reducible refine c5.mono ?_
      rintro e w4 ⟨rfl, hB4⟩
      have hb4 := bthen hb3 hB4
      go_wp2
      go_ret
      exact ⟨by first | rfl | simp, hb4⟩
theorem own : ownKnob Try.prog.godebug = none := by kernel_rfl
theorem laidOut : laidOutB Try.prog = true := by kernel_rfl
set_option maxRecDepth 100000 in
theorem lifted (os : Os) (started : os.Started) (H : Type) (enc : TypeId × Value → H) :
    ReturnsInHanded {} Try.checked os 13 .any (Rows.pathtableReturnsSpec.pre6 enc Try.prog Try.f13 Rows.pathtableReturnsRow.domain false) (Rows.pathtableReturnsSpec.post enc Try.prog Try.f13 false true false false) := by
  refine returnsInHanded_of_change (C := Try.checked) own started (by kernel_rfl) Try.func13
    (ChangeSpec.witness6 (enc := enc) (C := Try.checked) false ⟨#[], #[.slice none 0 0], []⟩ 8 (by kernel_rfl) (by kernel_rfl) (by kernel_rfl) (by kernel_rfl)) ?_
  intro W base args ds gs before hval0 hW hcnd _
  have hval : ∀ (j : Nat) t v, Try.f13.params[j]? = some t → args[j]? = some v → Value.okWide Try.prog W .any base t v := hval0
  have hW' := hW
  obtain ⟨p, q, hA0, hV, rfl, hfz, hnd⟩ := hW
  have hA : DataW.TrodAll enc Try.prog W 0 (fun _ => true) true Try.f13.params.toList args.toList ds p := hA0
  rw [Try.params13] at hA hval
  obtain ⟨v0, vs0, d0, ds0, p0, q0, hargs, rfl, rfl, h0, r0⟩ := trodAll_cons hA
  obtain ⟨rfl, rfl, rfl⟩ := trodAll_nil r0
  obtain rfl : args = #[v0] := by cases args; simp_all
  obtain ⟨rfl, rfl⟩ := trodVars_none hV
  have k0 := h0
  have lt0 : ∀ x ∈ p0, x.block < W.heap.size := by obtain ⟨m, hm⟩ := k0; exact DataW.trod_lt m _ _ _ hm
  obtain ⟨a0, n0, c0, rfl⟩ := okWide_slice Try.underlying44 (hval 0 44 v0 rfl rfl)
  obtain ⟨l0, rfl, w0⟩ := open_pes h0
  clear hA0 hval0
  refine (walk a0 c0 l0 W w0).mono fun e W' ⟨he, bel⟩ => ?_
  subst he
  exact ⟨_, rfl, _, _, _, [], _, [], hW', trodAll_mk1 (shut_bool Try.underlying4 _), (trodAll_cons_mk (Below.trod laidOut (by kernel_rfl) (of_decide_eq_true (by kernel_rfl)) k0 bel lt0) trodAll_mk0), rfl, bel.frame _, fun h => by cases h⟩
theorem over : Rows.pathtableReturnsRow.holds Try.pinned (OpenSpec.ofChange Rows.pathtableReturnsSpec) :=
  OpenClaim.holds_of_wide 13 Try.f13 rfl rfl rfl rfl rfl rfl rfl ⟨rfl, rfl, rfl, rfl, rfl⟩ rfl rfl rfl rfl rfl (by as_aux_lemma => kernel_rfl) Try.func13 closed
    (of_decide_eq_true (by as_aux_lemma => kernel_rfl)) (by as_aux_lemma => (unfold Func.isWrapper; first | (rw [if_pos (by decide +kernel)]; kernel_rfl) | (rw [if_neg (by decide +kernel)]; exact ⟨rfl, rfl⟩)))
    (fun os started H enc _ => lifted os started H enc)
theorem proved : Rows.PathtableReturnsSaid := over
#print axioms proved
end Go.Proofs.Ytnmlephjhcmbhaa.pathtableReturns
