/- The law SparingReturns, walked. -/
import Derived.Test.YtocncjimepnlcaaGreatDoorDzf
import Derived.Test.YtocncjimepnlcaaGreatDoorSpl
namespace Go.Proofs.YtocncjimepnlcaaGreatDoor
set_option linter.unusedSimpArgs false
set_option linter.unusedVariables false
open Go Go.RowKit
set_option maxRecDepth 100000 in
set_option maxHeartbeats 400000 in
theorem same_nil (s : Int) (a1 a2 : Option Addr) (c1 c2 : Nat) (w : World) :
    Calls Tryz.prog 9 #[.agg #[cN s, .slice a1 0 c1], .agg #[cN s, .slice a2 0 c2]] w fun e w' => e = .returned (.bool true) ∧ Below w.heap.size w w' := by
  go_enter Tryz.func9, Tryz.ntmps9
  go_wp2
  go_loopw [5] (fun i wr => i = cN 0 ∧ wr = (w.alloc (.cells #[cN s, .slice a1 0 c1] 24)).alloc (.cells #[cN s, .slice a2 0 c2] 24)) (fun _ _ => 0)
  case atStart => exact ⟨rfl, rfl⟩
  case round =>
    obtain ⟨rfl, rfl⟩ := hrel
    go_wp2
    go_ret
    exact ⟨rfl, bal (bal (Below.refl _ w) _) _⟩
theorem same_sl (s : Int) (v v' : Value) (l : List Sp) (W : World) (hl : l.length ≤ 1000) (h : SL W v l) (h' : SL W v' l) : Calls Tryz.prog 9 #[.agg #[cN s, v], .agg #[cN s, v']] W fun e w' => e = .returned (.bool true) ∧ Below W.heap.size W w' := by
  rcases h with ⟨rfl, a1, c1, rfl⟩ | ⟨b, o, c, rfl, hc, hb, hr⟩
  · obtain ⟨a2, c2, rfl⟩ := h'.form
    exact same_nil s a1 a2 c1 c2 W
  · rcases h' with ⟨rfl, a2, c2, rfl⟩ | ⟨b', o', c', rfl, hc', hb', hr'⟩
    · exact same_nil s _ a2 c c2 W
    · exact same_row s b o c b' o' c' l W hl hb hb' hc hc' hr hr'
/-- A table of the law's own. -/
structure TB (s : Int) (v : Value) (l : List Sp) (x : Nat) (W : World) : Prop where
  b : W.heap[x]? = some (.cells #[cN s, v] 24 (0, 0))
  sl : SL W v l
theorem TB.below {s : Int} {v : Value} {l : List Sp} {x : Nat} {W W' : World} (h : TB s v l x W) (k : Below W.heap.size W W') : TB s v l x W' := ⟨(k.block _ (lt_of_block h.b)).trans h.b, h.sl.below k⟩
theorem TB.new {s : Int} {v : Value} {l : List Sp} {W : World} (h : SL W v l) : TB s v l W.heap.size (W.alloc (.cells #[cN s, v] 24)) := ⟨World.alloc_heap_new W _, h.below (bal (Below.refl _ W) _)⟩
/-- The law's box. -/
structure BS (w : World) (s : Int) (v : Value) (l : List Sp) (W : World) : Prop where
  bx : BX w s v W
  sl : SL W v l
theorem BS.below {w : World} {s : Int} {v : Value} {l : List Sp} {W W' : World} (h : BS w s v l W) (k : Below W.heap.size W W') : BS w s v l W' := ⟨h.bx.below k, h.sl.below k⟩
theorem BS.start {w : World} {s : Int} {v : Value} {l : List Sp} (h : SL w v l) : BS w s v l (w.alloc (.cells #[cN s, v] 24)) := ⟨BX.start (Below.refl _ _), h.below (bal (Below.refl _ w) _)⟩
set_option maxRecDepth 100000 in
set_option maxHeartbeats 1000000 in
theorem lsret_big (s : Int) (a : Option Addr) (c : Nat) (l : List Sp) (loc : Int) (w : World) (hn : (20 : Int) < (l.length : Int)) (h : SL w (.slice a l.length c) l) :
    Calls Tryz.prog 3 #[.agg #[cN s, .slice a l.length c], cN loc] w fun e w' => e = .returned (.bool true) ∧ Below w.heap.size w w' := by
  have hd := decide_eq_true hn
  have H := Lib.hid (BS.start (s := s) h)
  clear h
  go_enter Tryz.func3, Tryz.ntmps3
  go_wp2_with (first | (go_at_call 5; (with_reducible refine (awake_ok _).mono ?_); rintro e w1 ⟨rfl, hB1⟩; have H1 := H.out.below hB1; clear hB1 H; have p1' := Lib.cell_of_heap H1.bx.b0 0; have p2' := Lib.cell_of_heap H1.bx.b0 1; have H := Lib.hid H1; clear H1) | (go_at_call 6; (with_reducible refine (few_ok s a l.length c _ _ (World.alloc_heap_new _ _)).mono ?_); rw [hd]; rintro e w2 ⟨rfl, hB2⟩))
  go_ret
  exact ⟨rfl, bthen (bal H.out.bx.bel _) hB2⟩
set_option maxRecDepth 100000 in
set_option maxHeartbeats 2000000 in
theorem lsret_bad (s : Int) (a : Option Addr) (c : Nat) (l : List Sp) (loc x : Int) (w : World) (hn : ¬ (20 : Int) < (l.length : Int)) (h : SL w (.slice a l.length c) l) (hx : x = 1 ∨ x = 2)
    (k3 : ∀ W, SL W (.slice a l.length c) l → Calls Tryz.prog 7 #[.agg #[cN s, .slice a l.length c], cN loc] W fun e w' => e = .returned (.tuple #[.string ByteArray.empty, cN x]) ∧ Below W.heap.size W w') :
    Calls Tryz.prog 3 #[.agg #[cN s, .slice a l.length c], cN loc] w fun e w' => e = .returned (.bool true) ∧ Below w.heap.size w w' := by
  have hd := decide_eq_false hn
  have H := Lib.hid (BS.start (s := s) h)
  have hx0 : (x != 0) = true := by rcases hx with rfl | rfl <;> rfl
  clear h hn hx
  go_enter Tryz.func3, Tryz.ntmps3
  go_wp2_with (first | (go_at_call 5; (with_reducible refine (awake_ok _).mono ?_); rintro e w1 ⟨rfl, hB1⟩; have H1 := H.out.below hB1; clear hB1 H; have p1' := Lib.cell_of_heap H1.bx.b0 0; have p2' := Lib.cell_of_heap H1.bx.b0 1; have H := Lib.hid H1; clear H1) | (go_at_call 6; (with_reducible refine (few_ok s a l.length c _ _ (World.alloc_heap_new _ _)).mono ?_); rw [hd]; rintro e w2 ⟨rfl, hB2⟩; have H1 := (H.out.below ((Below.refl _ _).alloc (Nat.le_refl _) _)).below hB2; clear hB2 H p1' p2'; have p1' := Lib.cell_of_heap H1.bx.b0 0; have p2' := Lib.cell_of_heap H1.bx.b0 1; have H := Lib.hid H1; clear H1))
  with_reducible refine (k3 _ H.out.sl).mono ?_
  rintro e w3 ⟨rfl, hB3⟩
  have HB := Lib.hid (bthen H.out.bx.bel hB3)
  clear hB3 k3 p1' p2'
  go_wp2
  go_ret
  refine ⟨?_, HB.out⟩
  first | rfl | (simp; done)
set_option maxRecDepth 100000 in
set_option maxHeartbeats 4000000 in
theorem lsret_good (s : Int) (a : Option Addr) (c : Nat) (l : List Sp) (loc : Nat) (w : World) (hn : ¬ (20 : Int) < (l.length : Int)) (h : SL w (.slice a l.length c) l) (hv : validB s l = true) (hl : loc < 4294967296) :
    Calls Tryz.prog 3 #[.agg #[cN s, .slice a l.length c], cN (loc : Int)] w fun e w' => e = .returned (.bool true) ∧ Below w.heap.size w w' := by
  have hd := decide_eq_false hn
  have H := Lib.hid (BS.start (s := s) h)
  have V := (valid_iff s l).1 hv
  have hl8 := V.len
  have hw : wordB (loc : Int) = true := by simp only [wordB, decide_eq_true_eq]; omega
  have k3 := fun W (h : SL W (.slice a l.length c) l) => senc_good s loc _ l W h hv hw
  have T := block_tg loc (bodyB s.toNat l) hl (by rw [bodyB_size]; omega)
  have k4 := fun W => dec_same s loc l W hv hl
  have hsz := T.sz
  have hne : ((loc : Int) != (loc : Int) + 1) = true := by rw [bne_iff_ne]; omega
  have k5 := fun W => dec_diff T ((loc : Int) + 1) hne W
  have k6 := fun W (h : SL W (.slice a l.length c) l) => valid_ok s _ l W h
  rw [hv] at k6
  have hwr : IntKind.i64.wrap ((loc : Int) + 1) = (loc : Int) + 1 := by rw [IntKind.wrap_i64]; omega
  clear T
  generalize blockB loc (bodyB s.toNat l) = D at *
  have HL := Lib.hid (show l.length ≤ 1000 by omega)
  clear h hn hv V hw hne
  go_enter Tryz.func3, Tryz.ntmps3
  go_wp2_with (first | (go_at_call 5; (with_reducible refine (awake_ok _).mono ?_); rintro e w1 ⟨rfl, hB1⟩; have H1 := H.out.below hB1; clear hB1 H; have p1' := Lib.cell_of_heap H1.bx.b0 0; have p2' := Lib.cell_of_heap H1.bx.b0 1; have H := Lib.hid H1; clear H1) | (go_at_call 6; (with_reducible refine (few_ok s a l.length c _ _ (World.alloc_heap_new _ _)).mono ?_); rw [hd]; rintro e w2 ⟨rfl, hB2⟩; have H1 := (H.out.below ((Below.refl _ _).alloc (Nat.le_refl _) _)).below hB2; clear hB2 H p1' p2'; have p1' := Lib.cell_of_heap H1.bx.b0 0; have p2' := Lib.cell_of_heap H1.bx.b0 1; have H := Lib.hid H1; clear H1))
  with_reducible refine (k3 _ H.out.sl).mono ?_
  rintro e w3 ⟨rfl, hB3⟩
  have H1 := Lib.hid (H.out.below hB3)
  clear hB3 k3 p1' p2' H
  go_wp2_with fail
  with_reducible refine (k4 _).mono ?_
  rintro e w4 ⟨⟨v4, rfl, hS4⟩, hB4⟩
  have H2 := Lib.hid (H1.out.below hB4)
  obtain ⟨a4, c4, rfl⟩ := hS4.form
  have T4 := Lib.hid (TB.new (s := s) hS4)
  have H3 := Lib.hid (H2.out.below ((Below.refl _ _).alloc (Nat.le_refl _) (.cells #[cN s, .slice a4 l.length c4] 24)))
  clear hB4 k4 H1 H2 hS4
  go_wp2_with fail
  generalize w4.heap.size = x4 at *
  with_reducible refine (k5 _).mono ?_
  rintro e w5 ⟨rfl, hB5⟩
  have H4 := Lib.hid ((H3.out.below hB5).below ((Below.refl _ _).alloc (Nat.le_refl _) (.cells #[cN 0, .slice none 0 0] 24)))
  have T5 := Lib.hid ((T4.out.below hB5).below ((Below.refl _ _).alloc (Nat.le_refl _) (.cells #[cN 0, .slice none 0 0] 24)))
  clear hB5 k5 H3 T4
  have q1 := Lib.cell_of_heap T5.out.b 0
  have q2 := Lib.cell_of_heap T5.out.b 1
  have q3 := Lib.cell_of_heap H4.out.bx.b0 0
  have q4 := Lib.cell_of_heap H4.out.bx.b0 1
  go_wp2_with fail
  with_reducible refine (same_sl s _ _ l _ HL.out T5.out.sl H4.out.sl).mono ?_
  rintro e w6 ⟨rfl, hB6⟩
  have H5 := Lib.hid (H4.out.below hB6)
  clear hB6 q1 q2 q3 q4
  have q3 := Lib.cell_of_heap H5.out.bx.b0 0
  have q4 := Lib.cell_of_heap H5.out.bx.b0 1
  go_wp2_with (go_at_call 10; (with_reducible refine (k6 _ H5.out.sl).mono ?_); rintro e w7 ⟨rfl, hB7⟩)
  go_ret
  exact ⟨rfl, bthen H5.out.bx.bel hB7⟩
theorem lsret_ok (s : Int) (v : Value) (l : List Sp) (loc : Int) (w : World) (h : SL w v l) :
    Calls Tryz.prog 3 #[.agg #[cN s, v], cN loc] w fun e w' => e = .returned (.bool true) ∧ Below w.heap.size w w' := by
  obtain ⟨a, c, rfl⟩ := h.form
  by_cases hn : (20 : Int) < (l.length : Int)
  · exact lsret_big s a c l loc w hn h
  · cases hv : validB s l with
    | false => exact lsret_bad s a c l loc 1 w hn h (.inl rfl) fun W hW => senc_bad s loc _ l W hW hv
    | true =>
      cases hw : wordB loc with
      | false => exact lsret_bad s a c l loc 2 w hn h (.inr rfl) fun W hW => senc_far s loc _ l W hW hv hw
      | true =>
        simp only [wordB, decide_eq_true_eq] at hw
        obtain ⟨n, rfl⟩ : ∃ n : Nat, loc = n := ⟨loc.toNat, by omega⟩
        exact lsret_good s a c l n w hn h hv (by omega)
end Go.Proofs.YtocncjimepnlcaaGreatDoor
