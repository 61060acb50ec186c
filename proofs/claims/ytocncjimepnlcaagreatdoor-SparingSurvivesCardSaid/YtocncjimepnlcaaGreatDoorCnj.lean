/- Update of both. -/
import Derived.Test.YtocncjimepnlcaaGreatDoorCni
import Derived.Test.YtocncjimepnlcaaGreatDoorRgn
namespace Go.Proofs.YtocncjimepnlcaaGreatDoor
set_option linter.unusedSimpArgs false
set_option linter.unusedVariables false
open Go Go.RowKit
def updE (s : Int) (l : List Sp) (ks : List Int) : Int := if validB s l = false then 1 else if ks.all wordB = true then 0 else 2
def updL (s : Int) (l : List Sp) (ks : List Int) : List (Int × ByteArray) := if updE s l ks = 0 then ks.map (fun k => (k, encS s k l)) else []
def UpdR (s : Int) (l : List Sp) (ks : List Int) (w : World) (e : Ending) (w' : World) : Prop := ∃ v, e = .returned (.tuple #[v, cN (updE s l ks)]) ∧ WR w' v (updL s l ks) ∧ Below w.heap.size w w'
theorem UpdR.bad {s : Int} {l : List Sp} {ks : List Int} {w w' : World} {x : Int} (hx : updE s l ks = x) (h0 : x ≠ 0) (hb : Below w.heap.size w w') : UpdR s l ks w (.returned (.tuple #[.slice none 0 0, cN x])) w' := by
  refine ⟨.slice none 0 0, by rw [hx], ?_, hb⟩
  rw [updL, hx, if_neg h0]
  exact WR.nil w'
theorem encE_word {s x : Int} {l : List Sp} (hv : validB s l = true) (hw : wordB x = true) : encE s x l = 0 := by rw [encE, if_pos hv, if_pos hw]
theorem encE_far {s x : Int} {l : List Sp} (hv : validB s l = true) (hw : wordB x = false) : encE s x l = 2 := by rw [encE, if_pos hv, if_neg (by rw [hw]; decide)]
theorem updE_far {s : Int} {l : List Sp} {ks : List Int} {k : Nat} (hv : validB s l = true) (hk : k < ks.length) (hw : wordB (ks.getD k 0) = false) : updE s l ks = 2 := by
  rw [updE, if_neg (by rw [hv]; decide), if_neg]
  intro h
  rw [List.all_eq_true] at h
  have := h (ks.getD k 0) (by rw [List.getD_eq_getElem?_getD, List.getElem?_eq_getElem hk, Option.getD_some]; exact List.getElem_mem hk)
  rw [hw] at this
  cases this
theorem take_snocI (l : List Int) (k : Nat) (hk : k < l.length) : l.take (k + 1) = l.take k ++ [l.getD k 0] := by
  rw [List.take_succ_eq_append_getElem hk, List.getD_eq_getElem?_getD, List.getElem?_eq_getElem hk, Option.getD_some]
theorem UW.start {w : World} {s : Int} {v : Value} {l : List Sp} {W : World} (h : BX w s v W) : UW w s v l (.slice none 0 0) [] W := ⟨h.b0, ⟨rfl, .inl ⟨rfl, rfl⟩⟩, fun x hx => by simp at hx, h.bel⟩
theorem UW.startE {w : World} {s : Int} {v : Value} {l : List Sp} {W : World} (h : BX w s v W) : UW w s v l (.slice (some ⟨W.heap.size, 0, none⟩) 0 0) [] (W.alloc (.cells #[] 45)) :=
  ⟨(h.below ((Below.refl _ W).alloc (Nat.le_refl _) _)).b0, ⟨rfl, .inr ⟨W.heap.size, 0, #[], rfl, lt_of_block h.b0, World.alloc_heap_new W _, Nat.le_refl _, Nat.zero_le _, rfl, rfl⟩⟩, fun x hx => by simp at hx, bal h.bel _⟩
theorem upd_done {s : Int} {l : List Sp} {ks : List Int} {its : List WI} (hv : validB s l = true) (hall : ks.all wordB = true) (hi : its.map Prod.fst = ks) : updE s l ks = 0 ∧ its.map (fun x => (x.1, encS s x.1 l)) = updL s l ks := by
  have hE : updE s l ks = 0 := by rw [updE, if_neg (by rw [hv]; decide), if_pos hall]
  refine ⟨hE, ?_⟩
  rw [updL, hE, if_pos rfl, ← hi, List.map_map]
  rfl
set_option maxRecDepth 100000 in
set_option maxHeartbeats 1000000 in
theorem supd_bad (s : Int) (v : Value) (l : List Sp) (a : Option Addr) (c : Nat) (ks : List Int) (w : World) (h : SL w v l) (hv : validB s l = false) :
    Calls Tryz.prog 12 #[.agg #[cN s, v], .slice a ks.length c] w (UpdR s l ks w) := by
  obtain ⟨a1, c1, rfl⟩ := h.form
  have k1 := fun (W : World) (k : Below w.heap.size w W) => valid_ok s _ l W (h.below k)
  rw [hv] at k1
  have HE : Hid (updE s l ks = 1) := Lib.hid (by rw [updE, if_pos hv])
  clear h hv
  go_enter Tryz.func12, Tryz.ntmps12
  go_wp2_with (go_at_call 10; (with_reducible refine (k1 _ (bal (Below.refl _ w) _)).mono ?_); rintro e w1 ⟨rfl, hB1⟩)
  go_ret2
  exact UpdR.bad HE.out (by decide) (bthen (bal (Below.refl _ w) _) hB1)
set_option maxRecDepth 100000 in
set_option maxHeartbeats 4000000 in
theorem supd_good (s : Int) (v : Value) (l : List Sp) (a : Option Addr) (c : Nat) (ks : List Int) (w : World) (h : SL w v l) (hv : validB s l = true) (hrow : RowI w a ks) (hn : ks.length ≤ 1000) :
    Calls Tryz.prog 12 #[.agg #[cN s, v], .slice a ks.length c] w (UpdR s l ks w) := by
  obtain ⟨i0, hi, hz0, hz1, hz2⟩ := info_parts twInfo
  obtain ⟨a1, c1, rfl⟩ := h.form
  have k1 := fun (W : World) (k : Below w.heap.size w W) => valid_ok s _ l W (h.below k)
  have k2 := fun (x : Int) (W : World) (k : Below w.heap.size w W) => senc_ok s x _ l W (h.below k)
  rw [hv] at k1
  have HR := Lib.hid hrow
  have HV := Lib.hid hv
  clear h hv hrow
  go_enter Tryz.func12, Tryz.ntmps12
  go_wp2_with (go_at_call 10; (with_reducible refine (k1 _ (bal (Below.refl _ w) _)).mono ?_); rintro e w1 ⟨rfl, hB1⟩; have HX := Lib.hid (BX.start hB1); clear hB1 k1)
  go_loopw [16, 6, 8, 9, 10] (fun i o _ _ _ wr => ∃ (k : Nat) (its : List WI), i = cN k ∧ k ≤ ks.length ∧ its.map Prod.fst = ks.take k ∧ (ks.take k).all wordB = true ∧ UW w s (.slice a1 l.length c1) l o its wr) (fun i _ _ _ _ _ => ks.length - (intOf i).toNat)
  case atStart => exact ⟨0, [], rfl, Nat.zero_le _, rfl, rfl, UW.start HX.out⟩
  case round =>
    obtain ⟨k, its, rfl, hk, hi, hall, hU⟩ := hrel
    obtain ⟨a7, c7, rfl⟩ := own_form4 hU.own
    have HU := Lib.hid hU
    have p0 := Lib.cell_of_heap hU.b0 0
    have p1 := Lib.cell_of_heap hU.b0 1
    have hil : its.length = k := by
      have := congrArg List.length hi
      rw [List.length_map, List.length_take] at this
      omega
    have HI := Lib.hid (And.intro hi hall)
    clear hU hi hall
    by_cases hlt : (k : Int) < (ks.length : Int)
    · have hkl : k < ks.length := by omega
      obtain ⟨b, off, rfl, hb, hc⟩ := HR.out k hkl
      obtain ⟨x, hx⟩ : ∃ x, ks.getD k 0 = x := ⟨_, rfl⟩
      have q0 := (HU.out.bel.cell (p := ⟨b, off + k, none⟩) hb).trans hc
      rw [hx] at q0
      have HT := Lib.hid (take_snocI ks k hkl)
      rw [hx] at HT
      have k3 := k2 x wr HU.out.bel
      clear hc
      cases hw : wordB x
      · rw [encE_far HV.out hw] at k3
        have HE : Hid (updE s l ks = 2) := Lib.hid (updE_far HV.out hkl (by rw [hx]; exact hw))
        clear hw hx hil
        go_wp2_with (go_at_call 7; (with_reducible refine k3.mono ?_); rintro e w3 ⟨rfl, hB3⟩)
        go_ret2
        exact UpdR.bad HE.out (by decide) (bthen HU.out.bel hB3)
      · rw [encE_word HV.out hw] at k3
        have HW := Lib.hid hw
        clear hw hx
        go_wp2_with fail
        with_reducible refine k3.mono ?_
        rintro e w3 ⟨rfl, hB3⟩
        have HU3 := Lib.hid (HU.out.below hB3)
        clear p0 p1 hB3 k3 q0
        have HIL := Lib.hid hil
        clear hil
        go_wp2_with (at_builtin; refine wpList_append_own _ rfl _ _ 40 rfl (w.heap.size + 1) 45 i0 (.agg #[.int .i64 0, .slice none 0 0, .bool false, .bool false]) 4 40 Tryz.underlying40 hi hz0 hz1 hz2 rfl (by decide) _ its.length (flatW its) rfl (own_keep4 HU3.out.own (bal (bal (Below.refl _ w3) _) _)) ⟨w3.heap.size + 1, 0, none⟩ 1 1 [cN x, .slice (some ⟨w3.heap.size, 0, none⟩) 1 1, .bool true, .bool false] rfl rfl ?c1 ?c2 ?c3 ?c4 ?c5 ?_)
        case c1 => intro j u hj; have hh := cells4 (w3.alloc (.cells #[.string (encS s x l)] 9)) x (.slice (some ⟨w3.heap.size, 0, none⟩) 1 1) (.bool true) (.bool false) 45 j u hj; rw [World.size_alloc] at hh; exact hh
        case c2 => first | (intro u hu; simp at hu; rcases hu with rfl | rfl | rfl | rfl <;> rfl) | exact ⟨rfl, rfl, rfl, rfl⟩
        case c3 => have hh := HIL.out; unfold maxLen; omega
        case c4 => have hh := HIL.out; omega
        case c5 => have h0 := lt_of_block HU3.out.b0; simp; omega
        intro v' w4 hown hgrow _
        have HU4 : Hid (UW w s (.slice a1 l.length c1) l v' (its ++ [(x, w3.heap.size)]) w4) := Lib.hid (HU3.out.app hown hgrow)
        clear hown hgrow
        obtain ⟨a8, c8, rfl⟩ := own_form4 HU4.out.own
        go_wp2
        go_roundw
        case rel => exact ⟨k + 1, its ++ [(x, w3.heap.size)], by go_num, by omega, by rw [List.map_append, HI.out.1, HT.out]; rfl, by rw [HT.out, List.all_append, HI.out.2]; simp [HW.out], HU4.out⟩
        case measure => simp [intOf]; omega
    · obtain rfl : k = ks.length := by omega
      obtain ⟨hi, hall⟩ := HI.out
      rw [List.take_length] at hi hall
      have HD := Lib.hid (upd_done (s := s) (l := l) HV.out hall hi)
      clear hi hall hil
      go_wp2
      go_ret2
      exact ⟨.slice a7 its.length c7, by rw [HD.out.1]; rfl, by rw [← HD.out.2]; exact HU.out.wr, HU.out.bel⟩
theorem supd_ok (s : Int) (v : Value) (l : List Sp) (a : Option Addr) (c : Nat) (ks : List Int) (w : World) (h : SL w v l) (hrow : RowI w a ks) (hn : ks.length ≤ 1000) :
    Calls Tryz.prog 12 #[.agg #[cN s, v], .slice a ks.length c] w (UpdR s l ks w) := by
  cases hv : validB s l with
  | false => exact supd_bad s v l a c ks w h hv
  | true => exact supd_good s v l a c ks w h hv hrow hn
end Go.Proofs.YtocncjimepnlcaaGreatDoor
