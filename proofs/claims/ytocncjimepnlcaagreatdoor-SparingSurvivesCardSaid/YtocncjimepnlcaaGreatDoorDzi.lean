/- The law SparingSurvives: early ends. -/
import Derived.Test.YtocncjimepnlcaaGreatDoorDzg
import Derived.Test.YtocncjimepnlcaaGreatDoorCnj
import Derived.Test.YtocncjimepnlcaaGreatDoorCnc
namespace Go.Proofs.YtocncjimepnlcaaGreatDoor
set_option linter.unusedSimpArgs false
set_option linter.unusedVariables false
open Go Go.RowKit
/-- The law's boxes. -/
structure SV (w : World) (s : Int) (v : Value) (l : List Sp) (k0 k1 : Int) (W : World) : Prop where
  b0 : W.heap[w.heap.size]? = some (.cells #[cN s, v] 24 (0, 0))
  b1 : W.heap[w.heap.size + 1]? = some (.cells #[.int .u16 k0, .int .u16 k1] 36 (0, 0))
  sl : SL W v l
  bel : Below w.heap.size w W
theorem SV.below {w : World} {s : Int} {v : Value} {l : List Sp} {k0 k1 : Int} {W W' : World} (h : SV w s v l k0 k1 W) (k : Below W.heap.size W W') : SV w s v l k0 k1 W' :=
  ⟨(k.block _ (lt_of_block h.b0)).trans h.b0, (k.block _ (lt_of_block h.b1)).trans h.b1, h.sl.below k, bthen h.bel k⟩
theorem SV.start {w : World} {s : Int} {v : Value} {l : List Sp} (k0 k1 : Int) (h : SL w v l) : SV w s v l k0 k1 ((w.alloc (.cells #[cN s, v] 24)).alloc (.cells #[.int .u16 k0, .int .u16 k1] 36)) := by
  refine ⟨(Lib.alloc_old _ _ _ (by simp)).trans (World.alloc_heap_new w _), ?_, h.below (bal (bal (Below.refl _ w) _) _), bal (bal (Below.refl _ w) _) _⟩
  have := World.alloc_heap_new (w.alloc (.cells #[cN s, v] 24)) (.cells #[.int .u16 k0, .int .u16 k1] 36)
  rwa [World.size_alloc] at this
set_option maxRecDepth 100000 in
set_option maxHeartbeats 1000000 in
theorem lssur_big (s : Int) (a : Option Addr) (c : Nat) (l : List Sp) (x k0 k1 cut : Int) (w : World) (hn : (20 : Int) < (l.length : Int)) (h : SL w (.slice a l.length c) l) :
    Calls Tryz.prog 4 #[.agg #[cN s, .slice a l.length c], cN x, .agg #[.int .u16 k0, .int .u16 k1], .int .u8 cut] w fun e w' => e = .returned (.bool true) ∧ Below w.heap.size w w' := by
  have hd := decide_eq_true hn
  have H := Lib.hid (SV.start (s := s) k0 k1 h)
  clear h
  go_enter Tryz.func4, Tryz.ntmps4
  go_wp2_with (first | (go_at_call 5; (with_reducible refine (awake_ok _).mono ?_); rintro e w1 ⟨rfl, hB1⟩; have H1 := H.out.below hB1; clear hB1 H; have p1' := Lib.cell_of_heap H1.b0 0; have p2' := Lib.cell_of_heap H1.b0 1; have p3' := Lib.cell_of_heap H1.b1 0; have p4' := Lib.cell_of_heap H1.b1 1; have H := Lib.hid H1; clear H1) | (go_at_call 6; (with_reducible refine (few_ok s a l.length c _ _ (World.alloc_heap_new _ _)).mono ?_); rw [hd]; rintro e w2 ⟨rfl, hB2⟩; have H1 := (H.out.below ((Below.refl _ _).alloc (Nat.le_refl _) _)).below hB2; clear hB2 H p1' p2' p3' p4'; have p1' := Lib.cell_of_heap H1.b0 0; have p2' := Lib.cell_of_heap H1.b0 1; have p3' := Lib.cell_of_heap H1.b1 0; have p4' := Lib.cell_of_heap H1.b1 1; have H := Lib.hid H1; clear H1))
  go_ret
  exact ⟨rfl, H.out.bel⟩
set_option maxRecDepth 100000 in
set_option maxHeartbeats 1000000 in
theorem lssur_eq (s : Int) (a : Option Addr) (c : Nat) (l : List Sp) (x k0 cut : Int) (w : World) (hn : ¬ (20 : Int) < (l.length : Int)) (h : SL w (.slice a l.length c) l) :
    Calls Tryz.prog 4 #[.agg #[cN s, .slice a l.length c], cN x, .agg #[.int .u16 k0, .int .u16 k0], .int .u8 cut] w fun e w' => e = .returned (.bool true) ∧ Below w.heap.size w w' := by
  have hd := decide_eq_false hn
  have H := Lib.hid (SV.start (s := s) k0 k0 h)
  clear h
  go_enter Tryz.func4, Tryz.ntmps4
  go_wp2_with (first | (go_at_call 5; (with_reducible refine (awake_ok _).mono ?_); rintro e w1 ⟨rfl, hB1⟩; have H1 := H.out.below hB1; clear hB1 H; have p1' := Lib.cell_of_heap H1.b0 0; have p2' := Lib.cell_of_heap H1.b0 1; have p3' := Lib.cell_of_heap H1.b1 0; have p4' := Lib.cell_of_heap H1.b1 1; have H := Lib.hid H1; clear H1) | (go_at_call 6; (with_reducible refine (few_ok s a l.length c _ _ (World.alloc_heap_new _ _)).mono ?_); rw [hd]; rintro e w2 ⟨rfl, hB2⟩; have H1 := (H.out.below ((Below.refl _ _).alloc (Nat.le_refl _) _)).below hB2; clear hB2 H p1' p2' p3' p4'; have p1' := Lib.cell_of_heap H1.b0 0; have p2' := Lib.cell_of_heap H1.b0 1; have p3' := Lib.cell_of_heap H1.b1 0; have p4' := Lib.cell_of_heap H1.b1 1; have H := Lib.hid H1; clear H1))
  go_ret
  exact ⟨rfl, H.out.bel⟩
/-- The boxes and the list of locations. -/
structure QV (w : World) (s : Int) (v : Value) (l : List Sp) (k0 k1 : Int) (xa : Nat) (W : World) : Prop where
  sv : SV w s v l k0 k1 W
  ba : W.heap[xa]? = some (.cells #[cN k0, cN k1] 3 (0, 0))
  lt : w.heap.size < xa
theorem QV.below {w : World} {s : Int} {v : Value} {l : List Sp} {k0 k1 : Int} {xa : Nat} {W W' : World} (h : QV w s v l k0 k1 xa W) (k : Below W.heap.size W W') : QV w s v l k0 k1 xa W' :=
  ⟨h.sv.below k, (k.block _ (lt_of_block h.ba)).trans h.ba, h.lt⟩
theorem QV.start {w : World} {s : Int} {v : Value} {l : List Sp} {k0 k1 : Int} {W : World} (h : SV w s v l k0 k1 W) : QV w s v l k0 k1 W.heap.size (W.alloc (.cells #[cN k0, cN k1] 3)) :=
  ⟨h.below ((Below.refl _ W).alloc (Nat.le_refl _) _), World.alloc_heap_new W _, lt_of_block h.b0⟩
theorem QV.row {w : World} {s : Int} {v : Value} {l : List Sp} {k0 k1 : Int} {xa : Nat} {W : World} (h : QV w s v l k0 k1 xa W) : RowI W (some ⟨xa, 0, none⟩) [k0, k1] := fun k hk => by
  refine ⟨xa, 0, rfl, lt_of_block h.ba, ?_⟩
  rw [Lib.cell_of_heap h.ba, Nat.zero_add]
  match k, hk with
  | 0, _ => rfl
  | 1, _ => rfl
theorem supd2_ok (s : Int) (v : Value) (l : List Sp) (k0 k1 : Int) (xa : Nat) (w : World) (h : SL w v l) (hrow : RowI w (some ⟨xa, 0, none⟩) [k0, k1]) :
    Calls Tryz.prog 12 #[.agg #[cN s, v], .slice (some ⟨xa, 0, none⟩) 2 2] w (UpdR s l [k0, k1] w) := supd_ok s v l (some ⟨xa, 0, none⟩) 2 [k0, k1] w h hrow (by simp)
set_option maxRecDepth 100000 in
set_option maxHeartbeats 4000000 in
theorem lssur_err (s : Int) (a : Option Addr) (c : Nat) (l : List Sp) (x k0 k1 cut y : Int) (w : World) (hn : ¬ (20 : Int) < (l.length : Int)) (h : SL w (.slice a l.length c) l) (hk : (k0 == k1) = false) (h0 : 0 ≤ k0 ∧ k0 < 65536) (h1 : 0 ≤ k1 ∧ k1 < 65536) (hy : (y != 0) = true)
    (k3 : ∀ W, SL W (.slice a l.length c) l → Calls Tryz.prog 11 #[.agg #[cN s, .slice a l.length c], cN x] W fun e w' => e = .returned (.tuple #[.agg #[cN 0, .slice none 0 0], cN 0, cN y]) ∧ Below W.heap.size W w') :
    Calls Tryz.prog 4 #[.agg #[cN s, .slice a l.length c], cN x, .agg #[.int .u16 k0, .int .u16 k1], .int .u8 cut] w fun e w' => e = .returned (.bool true) ∧ Below w.heap.size w w' := by
  have hd := decide_eq_false hn
  have H := Lib.hid (SV.start (s := s) k0 k1 h)
  have w0 : IntKind.i64.wrap k0 = k0 := by rw [IntKind.wrap_i64]; omega
  have w1 : IntKind.i64.wrap k1 = k1 := by rw [IntKind.wrap_i64]; omega
  clear h hn h0 h1
  go_enter Tryz.func4, Tryz.ntmps4
  go_wp2_with (first | (go_at_call 5; (with_reducible refine (awake_ok _).mono ?_); rintro e w1 ⟨rfl, hB1⟩; have H1 := H.out.below hB1; clear hB1 H; have p1' := Lib.cell_of_heap H1.b0 0; have p2' := Lib.cell_of_heap H1.b0 1; have p3' := Lib.cell_of_heap H1.b1 0; have p4' := Lib.cell_of_heap H1.b1 1; have H := Lib.hid H1; clear H1) | (go_at_call 6; (with_reducible refine (few_ok s a l.length c _ _ (World.alloc_heap_new _ _)).mono ?_); rw [hd]; rintro e w2 ⟨rfl, hB2⟩; have H1 := (H.out.below ((Below.refl _ _).alloc (Nat.le_refl _) _)).below hB2; clear hB2 H p1' p2' p3' p4'; have p3' := Lib.cell_of_heap H1.b1 0; have p4' := Lib.cell_of_heap H1.b1 1; have HQ := Lib.hid (QV.start H1); have p1' := Lib.cell_of_heap HQ.out.sv.b0 0; have p2' := Lib.cell_of_heap HQ.out.sv.b0 1; clear H1))
  generalize w2.heap.size = xa at *
  with_reducible refine (k3 _ HQ.out.sv.sl).mono ?_
  rintro e w3 ⟨rfl, hB3⟩
  have HT := Lib.hid (TB.new (s := 0) (.inl ⟨rfl, none, 0, rfl⟩ : SL w3 (.slice none 0 0) []))
  have HQ3 := Lib.hid ((HQ.out.below hB3).below ((Below.refl _ _).alloc (Nat.le_refl _) (.cells #[cN 0, .slice none 0 0] 24)))
  clear HQ hB3 k3 p1' p2' p3' p4'
  have p1' := Lib.cell_of_heap HQ3.out.sv.b0 0
  have p2' := Lib.cell_of_heap HQ3.out.sv.b0 1
  go_wp2_with fail
  generalize w3.heap.size = x3 at *
  with_reducible refine (supd2_ok s _ l k0 k1 xa _ HQ3.out.sv.sl HQ3.out.row).mono ?_
  rintro e w4 ⟨v4, rfl, -, hB4⟩
  have HQ4 := Lib.hid (HQ3.out.below hB4)
  have HT4 := Lib.hid (HT.out.below hB4)
  clear HQ3 HT hB4 p1' p2'
  have p1' := Lib.cell_of_heap HT4.out.b 0
  have p2' := Lib.cell_of_heap HT4.out.b 1
  go_wp2_with fail
  with_reducible refine (supd2_ok 0 _ [] k0 k1 xa _ HT4.out.sl HQ4.out.row).mono ?_
  rintro e w5 ⟨v5, rfl, -, hB5⟩
  go_wp2
  go_ret
  exact ⟨rfl, bthen HQ4.out.sv.bel hB5⟩
end Go.Proofs.YtocncjimepnlcaaGreatDoor
