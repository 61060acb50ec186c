/- ScramblerTwice: for every input the law returns true and leaves its arguments as they were. No condition. -/
import Derived.Test.YtmpojdjknahoiaaRows
import Derived.Test.YtmpojdjknahoiaaScr
import Derived.WalkKit
import Derived.ProofKit
import Derived.OpenShut
namespace Go.Proofs.Ytmpojdjknahoiaa.scramblerTwice
open Go Go.ChangeShapes Go.WideShapes Go.ChangeAt Go.RowKit
open Go.ChangeMaps (open_string shut_string)
attribute [local irreducible] seqL
theorem own : ownKnob Try.prog.godebug = none := by kernel_rfl
theorem bthen {w w1 w2 : World} (h : Below w.heap.size w w1) (k : Below w1.heap.size w1 w2) : Below w.heap.size w w2 := h.trans (k.mono h.size)
theorem drew_left {w w' : World} (h : Below w.drew.heap.size w.drew w') : Below w.heap.size w w' := ⟨h.os, h.tape, h.output, h.size, h.block⟩
def scr (N : Nat) (s : ByteArray) : ByteArray := ⟨(scrL s.data.toList N).toArray⟩
theorem scr_size (N : Nat) (s : ByteArray) : (scr N s).size = s.size := by
  show (scr N s).data.size = s.size
  simp [scr, scrL_length]
theorem list_len (s : ByteArray) : s.data.toList.length = s.size := Array.length_toList
theorem scr_get (N : Nat) (s : ByteArray) (j : Nat) (h : j < s.size) : (scr N s).data.toList[j]? = some (if 12 ≤ j ∧ j < 12 + N then s.data.toList[j]'(by rw [list_len]; exact h) ^^^ seqB (j - 12) else s.data.toList[j]'(by rw [list_len]; exact h)) := by
  show (scrL s.data.toList N)[j]? = _
  rw [scrL_get s.data.toList N j (by rw [list_len]; exact h)]
theorem scr_scr (N : Nat) (s : ByteArray) : scr N (scr N s) = s := by
  apply ByteArray.ext
  apply Array.toList_inj.1
  apply List.ext_getElem?
  intro j
  by_cases h : j < s.size
  · have h1 := scr_get N s j h
    have h2 := scr_get N (scr N s) j (by rw [scr_size]; exact h)
    have hl : j < s.data.toList.length := by rw [list_len]; exact h
    have h3 : (scr N s).data.toList[j]'(by rw [list_len, scr_size]; exact h) = _ := (List.getElem?_eq_some_iff.1 h1).2
    rw [h2, h3, List.getElem?_eq_getElem hl]
    by_cases hc : 12 ≤ j ∧ j < 12 + N
    · rw [if_pos hc, if_pos hc, UInt8.xor_assoc, UInt8.xor_self, UInt8.xor_zero]
    · rw [if_neg hc, if_neg hc]
  · rw [List.getElem?_eq_none (by rw [list_len, scr_size, scr_size]; omega), List.getElem?_eq_none (by rw [list_len]; omega)]
theorem scr_head (N : Nat) (s : ByteArray) : (scr N s).extract 0 12 = s.extract 0 12 := by
  apply ByteArray.ext
  apply Array.toList_inj.1
  have e (t : ByteArray) : (t.extract 0 12).data.toList = t.data.toList.take 12 := by simp
  rw [e, e]
  apply List.ext_getElem?
  intro j
  rw [List.getElem?_take, List.getElem?_take]
  by_cases h12 : j < 12
  · rw [if_pos h12, if_pos h12]
    by_cases h : j < s.size
    · rw [scr_get N s j h, if_neg (by omega), List.getElem?_eq_getElem]
    · rw [List.getElem?_eq_none (by rw [list_len, scr_size]; omega), List.getElem?_eq_none (by rw [list_len]; omega)]
  · rw [if_neg h12, if_neg h12]
theorem scr_xor (N : Nat) (s t : ByteArray) (h : s.size = t.size) : xorL (scr N s).data.toList (scr N t).data.toList = xorL s.data.toList t.data.toList := by
  apply List.ext_getElem?
  intro j
  simp only [xorL, List.getElem?_zipWith]
  by_cases hj : j < s.size
  · have hs : j < s.data.toList.length := by rw [list_len]; exact hj
    have ht : j < t.data.toList.length := by rw [list_len]; omega
    rw [scr_get N s j hj, scr_get N t j (by omega), List.getElem?_eq_getElem hs, List.getElem?_eq_getElem ht]
    by_cases hc : 12 ≤ j ∧ j < 12 + N
    · rw [if_pos hc, if_pos hc]
      have e : ∀ a b c : UInt8, (a ^^^ c) ^^^ (b ^^^ c) = a ^^^ b := fun a b c => by
        rw [UInt8.xor_comm b c, ← UInt8.xor_assoc, UInt8.xor_assoc a c c, UInt8.xor_self, UInt8.xor_zero]
      simp only [e]
    · rw [if_neg hc, if_neg hc]
  · have n1 : (scr N s).data.toList[j]? = none := List.getElem?_eq_none (by rw [list_len, scr_size]; omega)
    have n2 : s.data.toList[j]? = none := List.getElem?_eq_none (by rw [list_len]; omega)
    simp only [n1, n2]
theorem calls_scr (s : ByteArray) (h : s.size = 2352) (w : World) : Calls Try.prog 16 #[.string s] w fun x w' => x = .returned (.tuple #[.string (scr 2340 s), .int .i64 0]) ∧ Below w.heap.size w w' := scramble_ok s w (by omega)
theorem calls_bad (s : ByteArray) (h : s.size ≠ 2352) (w : World) : Calls Try.prog 16 #[.string s] w fun x w' => x = .returned (.tuple #[.string ByteArray.empty, .int .i64 1]) ∧ Below w.heap.size w w' :=
  (scramble_err s w h).mono fun _ _ ⟨hx, hw⟩ => ⟨hx, hw ▸ Below.refl _ _⟩
set_option maxRecDepth 100000 in
set_option maxHeartbeats 1000000 in
theorem walk_good (a b x y q : ByteArray) (w : World) (ha : (a.size : Int) = 2352) (hb : (b.size : Int) = 2352) (hx : (x.size : Int) = 2352) (hh : x.extract 0 12 = a.extract 0 12)
    (c1 : ∀ w, Calls Try.prog 16 #[.string a] w fun e w' => e = .returned (.tuple #[.string x, .int .i64 0]) ∧ Below w.heap.size w w')
    (c2 : ∀ w, Calls Try.prog 16 #[.string b] w fun e w' => e = .returned (.tuple #[.string y, .int .i64 0]) ∧ Below w.heap.size w w')
    (c3 : ∀ w, Calls Try.prog 16 #[.string x] w fun e w' => e = .returned (.tuple #[.string a, .int .i64 0]) ∧ Below w.heap.size w w')
    (c4 : ∀ w, Calls Try.prog 18 #[.string x, .string y] w fun e w' => e = .returned (.string q) ∧ Below w.heap.size w w')
    (c5 : ∀ w, Calls Try.prog 18 #[.string a, .string b] w fun e w' => e = .returned (.string q) ∧ Below w.heap.size w w') :
    Calls Try.prog 7 #[.string a, .string b] w fun e w' => e = .returned (.bool true) ∧ Below w.heap.size w w' := by
  have HH := Lib.hid hh
  clear hh
  go_enter Try.func7, Try.ntmps7
  go_wp2_with (first | (go_at_call 10; refine (awake_ok _).mono ?_; rintro e w1 ⟨rfl, hB1⟩) | (go_at_call 16; (with_reducible refine (c1 _).mono ?_); rintro e w2 ⟨rfl, hB2⟩; clear c1) | (go_at_call 16; (with_reducible refine (c2 _).mono ?_); rintro e w3 ⟨rfl, hB3⟩; clear c2) | (go_at_call 16; (with_reducible refine (c3 _).mono ?_); rintro e w4 ⟨rfl, hB4⟩))
  refine region_sch (fun _ => True) [(true, 0), (true, 1), (true, 2), (true, 3), (true, 4), (true, 5), (true, 6), (true, 7), (true, 8), (true, 9), (true, 10), (true, 11), (true, 12), (true, 13), (true, 14), (true, 15), (true, 16), (true, 17), (true, 18), (true, 19), (true, 20), (true, 21), (true, 22), (true, 23), (true, 24), (true, 25), (true, 26), (true, 27), (true, 28), (true, 29), (true, 30), (true, 31), (true, 33), (true, 34), (false, 32)] [35, 36, 37, 38] (by kernel_rfl) (by kernel_rfl) (by rintro ⟨_, _, h, _⟩; cases h) (fun _ _ d _ _ h => by cases d <;> exact h) trivial ?_
  simp only [pickM, pickT, List.filterMap_cons, List.filterMap_nil, List.getElem?_cons_zero, List.getElem?_cons_succ, Option.map_some]
  have hh := HH.out
  repeat (refine m_float ⟨?_, .inl ⟨?_, .inl ?_⟩, fun K' hK => ?_⟩; rotate_left; (first | rfl | (go_simp; done)); (intro w' _; go_simp; try rfl); (simp only [Act.put, List.setIfInBounds_toArray, List.set_cons_succ, List.set_cons_zero]; refine hK _ ?_; clear hK K'))
  refine m_loud ?_ (fun K' hK => ?_)
  · rintro ⟨_, _, h, _⟩; cases h
  go_wp2_with (go_at_call 18; (with_reducible refine (c4 _).mono ?_); rintro e w5 ⟨rfl, hB5⟩)
  refine hK _ _ trivial (m_nil ?_)
  clear hK K' c4
  show wpList Try.prog _ _ (List.cons _ _) _ _
  go_wp2_with (go_at_call 18; (with_reducible refine (c5 _).mono ?_); rintro e w6 ⟨rfl, hB6⟩)
  go_ret
  exact ⟨rfl, bthen (bthen (bthen (bthen (bthen hB1 hB2) hB3) hB4) (drew_left hB5)) hB6⟩
set_option maxRecDepth 100000 in
set_option maxHeartbeats 400000 in
theorem walk_bad1 (a b x : ByteArray) (w : World) (ha : (a.size : Int) = 2352)  (hb2 : ((b.size : Int) == 2352) = false)
    (c1 : ∀ w, Calls Try.prog 16 #[.string a] w fun e w' => e = .returned (.tuple #[.string x, .int .i64 0]) ∧ Below w.heap.size w w') :
    Calls Try.prog 7 #[.string a, .string b] w fun e w' => e = .returned (.bool true) ∧ Below w.heap.size w w' := by
  go_enter Try.func7, Try.ntmps7
  go_wp2_with (first | (go_at_call 10; refine (awake_ok _).mono ?_; rintro e w1 ⟨rfl, hB1⟩) | (go_at_call 16; (with_reducible refine (c1 _).mono ?_); rintro e w2 ⟨rfl, hB2⟩))
  go_ret
  exact ⟨rfl, bthen hB1 hB2⟩
set_option maxRecDepth 100000 in
set_option maxHeartbeats 400000 in
theorem walk_bad2 (a b : ByteArray) (w : World) (ha2 : ((a.size : Int) == 2352) = false)
    (c1 : ∀ w, Calls Try.prog 16 #[.string a] w fun e w' => e = .returned (.tuple #[.string ByteArray.empty, .int .i64 1]) ∧ Below w.heap.size w w') :
    Calls Try.prog 7 #[.string a, .string b] w fun e w' => e = .returned (.bool true) ∧ Below w.heap.size w w' := by
  go_enter Try.func7, Try.ntmps7
  go_wp2_with (first | (go_at_call 10; refine (awake_ok _).mono ?_; rintro e w1 ⟨rfl, hB1⟩) | (go_at_call 16; (with_reducible refine (c1 _).mono ?_); rintro e w2 ⟨rfl, hB2⟩))
  go_ret
  exact ⟨rfl, bthen hB1 hB2⟩
theorem walk (a0 a1 : ByteArray) (_ : a0.size ≤ maxLen) (_ : a1.size ≤ maxLen) (w : World) :
    Calls Try.prog 7 #[.string a0, .string a1] w fun e w' => e = .returned (.bool true) ∧ Below w.heap.size w w' := by
  by_cases ha : a0.size = 2352
  · by_cases hb : a1.size = 2352
    · have e1 : (scr 2340 a0).size = 2352 := by rw [scr_size]; exact ha
      have e2 : (scr 2340 a1).size = 2352 := by rw [scr_size]; exact hb
      have c3 := calls_scr (scr 2340 a0) e1
      have c4 := fun W => xor_ok (scr 2340 a0) (scr 2340 a1) W (by omega)
      rw [scr_scr] at c3
      rw [scr_xor 2340 a0 a1 (by omega)] at c4
      exact walk_good a0 a1 _ _ _ w (by omega) (by omega) (by omega) (scr_head 2340 a0) (calls_scr a0 ha) (calls_scr a1 hb) c3 c4 (fun W => xor_ok a0 a1 W (by omega))
    · exact walk_bad1 a0 a1 _ w (by omega) (by simp; omega) (calls_scr a0 ha)
  · exact walk_bad2 a0 a1 w (by simp; omega) (calls_bad a0 ha)
set_option maxRecDepth 100000 in
theorem lifted (os : Os) (started : os.Started) (H : Type) (enc : TypeId × Value → H) :
    ReturnsInHanded {} Try.checked os 7 .any (Rows.scramblerTwiceSpec.pre6 enc Try.prog Try.f7 Rows.scramblerTwiceRow.domain false) (Rows.scramblerTwiceSpec.post enc Try.prog Try.f7 false true false false) := by
  refine returnsInHanded_of_change (C := Try.checked) own started (by kernel_rfl) Try.func7
    (ChangeSpec.witness6 (enc := enc) (C := Try.checked) false ⟨#[], #[.string ByteArray.empty, .string ByteArray.empty], []⟩ 8 (by kernel_rfl) (by kernel_rfl) (by kernel_rfl) (by kernel_rfl)) ?_
  intro W base args ds gs before hval0 hW hcnd _
  have hval : ∀ (j : Nat) t v, Try.f7.params[j]? = some t → args[j]? = some v → Value.okWide Try.prog W .any base t v := hval0
  have hW' := hW
  obtain ⟨p, q, hA0, hV, rfl, hfz, hnd⟩ := hW
  have hA : DataW.TrodAll enc Try.prog W 0 (fun _ => true) true Try.f7.params.toList args.toList ds p := hA0
  rw [Try.params7] at hA hval
  obtain ⟨v0, vs0, d0, ds0, p0, q0, hargs, rfl, rfl, h0, r0⟩ := trodAll_cons hA
  obtain ⟨v1, vs1, d1, ds1, p1, q1, rfl, rfl, rfl, h1, r1⟩ := trodAll_cons r0
  obtain ⟨rfl, rfl, rfl⟩ := trodAll_nil r1
  obtain rfl : args = #[v0, v1] := by cases args; simp_all
  obtain ⟨rfl, rfl⟩ := trodVars_none hV
  obtain ⟨a0, rfl, rfl, rfl, w0⟩ := open_string Try.underlying9 (hval 0 9 v0 rfl rfl) h0
  obtain ⟨a1, rfl, rfl, rfl, w1⟩ := open_string Try.underlying9 (hval 1 9 v1 rfl rfl) h1
  clear hA0 hval0
  simp only [List.append_nil] at hW'
  refine (walk a0 a1 w0 w1 W).mono fun e W' ⟨he, bel⟩ => ?_
  subst he
  exact ⟨_, rfl, _, _, _, [], _, [], hW', trodAll_mk1 (shut_bool Try.underlying4 _), (trodAll_cons_mk (shut_string Try.underlying9 w0) (trodAll_cons_mk (shut_string Try.underlying9 w1) trodAll_mk0)), rfl, bel.frame _, fun h => by cases h⟩
theorem over : Rows.scramblerTwiceRow.holds Try.pinned (OpenSpec.ofChange Rows.scramblerTwiceSpec) :=
  OpenClaim.holds_of_wide 7 Try.f7 rfl rfl rfl rfl rfl rfl rfl ⟨rfl, rfl, rfl, rfl, rfl⟩ rfl rfl rfl rfl rfl (by kernel_rfl) Try.func7 (by kernel_rfl)
    (of_decide_eq_true (by kernel_rfl)) (by unfold Func.isWrapper; first | (rw [if_pos (by decide +kernel)]; kernel_rfl) | (rw [if_neg (by decide +kernel)]; exact ⟨rfl, rfl⟩))
    (fun os started H enc _ => lifted os started H enc)
theorem proved : Rows.ScramblerTwiceSaid := over
#print axioms proved
end Go.Proofs.Ytmpojdjknahoiaa.scramblerTwice
