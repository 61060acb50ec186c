/- Sparing tables: the law SparingMoves, walked. -/
import Derived.Test.YtocncjimepnlcaaSpl
namespace Go.Proofs.Ytocncjimepnlcaa
set_option linter.unusedSimpArgs false
set_option linter.unusedVariables false
open Go Go.RowKit
/-- The world in the course of the law. -/
structure MW (w : World) (s : Int) (v : Value) (p0 p1 : Int) (W : World) : Prop where
  b0 : W.heap[w.heap.size]? = some (.cells #[cN s, v] 29 (0, 0))
  b1 : W.heap[w.heap.size + 1]? = some (.cells #[cN p0, cN p1] 23 (0, 0))
  bel : Below w.heap.size w W
theorem MW.below {w : World} {s : Int} {v : Value} {p0 p1 : Int} {W W' : World} (h : MW w s v p0 p1 W) (k : Below W.heap.size W W') : MW w s v p0 p1 W' :=
  ⟨(k.block _ (lt_of_block h.b0)).trans h.b0, (k.block _ (lt_of_block h.b1)).trans h.b1, bthen h.bel k⟩
theorem MW.start (w : World) (s : Int) (v : Value) (p0 p1 : Int) : MW w s v p0 p1 ((w.alloc (.cells #[cN s, v] 29)).alloc (.cells #[cN p0, cN p1] 23)) := by
  refine ⟨(Lib.alloc_old _ _ _ (by simp)).trans (World.alloc_heap_new w _), ?_, bal (bal (Below.refl _ w) _) _⟩
  have := World.alloc_heap_new (w.alloc (.cells #[cN s, v] 29)) (.cells #[cN p0, cN p1] 23)
  rwa [World.size_alloc] at this
def RM (s x : Int) (l : List Sp) (W : World) (e : Ending) (w' : World) : Prop := Below W.heap.size W w' ∧
  ((∃ z : Int, (z != 0) = true ∧ e = .returned (.tuple #[.agg #[cN 0, .slice none 0 0], cN 0, cN z])) ∨
   ∃ a c u m, e = .returned (.tuple #[.agg #[cN (s + 1), .slice a (List.length u) c], cN m, cN 0]) ∧ SL w' (.slice a u.length c) u ∧ Rep l (x - x % 8) m u ∧ s ≠ 4294967295 ∧ Valid s l)
theorem rm_ok (s x : Int) (v : Value) (l : List Sp) (W : World) (h : SL W v l) (h0 : 0 ≤ x) (h1 : x ≤ 65535) : Calls Try.prog 7 #[.agg #[cN s, v], cN x] W (RM s x l W) := by
  cases hv : validB s l
  · exact (replace_bad s x v l W h hv).mono fun e w' ⟨he, hb⟩ => ⟨hb, .inl ⟨1, rfl, he⟩⟩
  · refine (replace_walk s x v l W h hv h0 (by omega)).mono fun e w' ⟨hb, hh⟩ => ⟨hb, ?_⟩
    rcases hh with ⟨he, -⟩ | ⟨he, -⟩ | ⟨v', u, m, he, hs, hr, hne⟩
    · exact .inl ⟨12, rfl, he⟩
    · exact .inl ⟨7, rfl, he⟩
    · obtain ⟨a, c, rfl⟩ := hs.form
      exact .inr ⟨a, c, u, m, he, hs, hr, hne, (valid_iff s l).1 hv⟩
set_option maxRecDepth 100000 in
set_option maxHeartbeats 2000000 in
theorem moves_big (s : Int) (a : Option Addr) (c : Nat) (p0 p1 x y : Int) (l : List Sp) (w : World) (hn : (20 : Int) < (l.length : Int)) (x0 : 0 ≤ x) (x1 : x ≤ 65535) (y0 : 0 ≤ y) (y1 : y ≤ 65535) :
    Calls Try.prog 4 #[.agg #[cN s, .slice a l.length c], .agg #[cN p0, cN p1], .int .u16 x, .int .u16 y] w fun e w' => e = .returned (.bool true) ∧ Below w.heap.size w w' := by
  have hd := decide_eq_true hn
  have hw1 : IntKind.i64.wrap x = x := by rw [IntKind.wrap_i64]; omega
  have hw2 : IntKind.i64.wrap y = y := by rw [IntKind.wrap_i64]; omega
  go_enter Try.func4, Try.ntmps4
  go_wp2_with (first | (go_at_call 5; (with_reducible refine (awake_ok _).mono ?_); rintro e w1 ⟨rfl, hB1⟩; have H := (MW.start w s (.slice a l.length c) p0 p1).below hB1; clear hB1; have p00 := Lib.cell_of_heap H.b0 0; have p01 := Lib.cell_of_heap H.b0 1; have p10 := Lib.cell_of_heap H.b1 0; have p11 := Lib.cell_of_heap H.b1 1; have HH := Lib.hid H; clear H) | (go_at_call 9; (with_reducible refine (few_ok s a l.length c _ _ (World.alloc_heap_new _ _)).mono ?_); rw [hd]; rintro e w2 ⟨rfl, hB2⟩; have H := (HH.out.below ((Below.refl _ _).alloc (Nat.le_refl _) _)).below hB2; clear hB2; clear HH p00 p01 p10 p11; have p00 := Lib.cell_of_heap H.b0 0; have p01 := Lib.cell_of_heap H.b0 1; have p10 := Lib.cell_of_heap H.b1 0; have p11 := Lib.cell_of_heap H.b1 1; have HH := Lib.hid H; clear H))
  go_ret
  exact ⟨rfl, HH.out.bel⟩
set_option maxRecDepth 100000 in
set_option maxHeartbeats 4000000 in
theorem moves_early (s : Int) (a : Option Addr) (c : Nat) (p0 p1 x y : Int) (l : List Sp) (w : World) (hn : ¬ (20 : Int) < (l.length : Int)) (x0 : 0 ≤ x) (x1 : x ≤ 65535) (y0 : 0 ≤ y) (y1 : y ≤ 65535)
    (h : p0 < 0 ∨ (0 ≤ p0 ∧ 1099511627776 < p0) ∨ (0 ≤ p0 ∧ p0 ≤ 1099511627776 ∧ p1 ≤ x) ∨ (0 ≤ p0 ∧ p0 ≤ 1099511627776 ∧ x < p1 ∧ p1 ≤ y)) :
    Calls Try.prog 4 #[.agg #[cN s, .slice a l.length c], .agg #[cN p0, cN p1], .int .u16 x, .int .u16 y] w fun e w' => e = .returned (.bool true) ∧ Below w.heap.size w w' := by
  have hd := decide_eq_false hn
  rcases h with h | ⟨h1, h2⟩ | ⟨h1, h2, h3⟩ | ⟨h1, h2, h3, h4⟩
  · have hw1 : IntKind.i64.wrap x = x := by rw [IntKind.wrap_i64]; omega
    have hw2 : IntKind.i64.wrap y = y := by rw [IntKind.wrap_i64]; omega
    go_enter Try.func4, Try.ntmps4
    go_wp2_with (first | (go_at_call 5; (with_reducible refine (awake_ok _).mono ?_); rintro e w1 ⟨rfl, hB1⟩; have H := (MW.start w s (.slice a l.length c) p0 p1).below hB1; clear hB1; have p00 := Lib.cell_of_heap H.b0 0; have p01 := Lib.cell_of_heap H.b0 1; have p10 := Lib.cell_of_heap H.b1 0; have p11 := Lib.cell_of_heap H.b1 1; have HH := Lib.hid H; clear H) | (go_at_call 9; (with_reducible refine (few_ok s a l.length c _ _ (World.alloc_heap_new _ _)).mono ?_); rw [hd]; rintro e w2 ⟨rfl, hB2⟩; have H := (HH.out.below ((Below.refl _ _).alloc (Nat.le_refl _) _)).below hB2; clear hB2; clear HH p00 p01 p10 p11; have p00 := Lib.cell_of_heap H.b0 0; have p01 := Lib.cell_of_heap H.b0 1; have p10 := Lib.cell_of_heap H.b1 0; have p11 := Lib.cell_of_heap H.b1 1; have HH := Lib.hid H; clear H))
    go_ret
    exact ⟨rfl, HH.out.bel⟩
  · have hw1 : IntKind.i64.wrap x = x := by rw [IntKind.wrap_i64]; omega
    have hw2 : IntKind.i64.wrap y = y := by rw [IntKind.wrap_i64]; omega
    go_enter Try.func4, Try.ntmps4
    go_wp2_with (first | (go_at_call 5; (with_reducible refine (awake_ok _).mono ?_); rintro e w1 ⟨rfl, hB1⟩; have H := (MW.start w s (.slice a l.length c) p0 p1).below hB1; clear hB1; have p00 := Lib.cell_of_heap H.b0 0; have p01 := Lib.cell_of_heap H.b0 1; have p10 := Lib.cell_of_heap H.b1 0; have p11 := Lib.cell_of_heap H.b1 1; have HH := Lib.hid H; clear H) | (go_at_call 9; (with_reducible refine (few_ok s a l.length c _ _ (World.alloc_heap_new _ _)).mono ?_); rw [hd]; rintro e w2 ⟨rfl, hB2⟩; have H := (HH.out.below ((Below.refl _ _).alloc (Nat.le_refl _) _)).below hB2; clear hB2; clear HH p00 p01 p10 p11; have p00 := Lib.cell_of_heap H.b0 0; have p01 := Lib.cell_of_heap H.b0 1; have p10 := Lib.cell_of_heap H.b1 0; have p11 := Lib.cell_of_heap H.b1 1; have HH := Lib.hid H; clear H))
    go_ret
    exact ⟨rfl, HH.out.bel⟩
  · have hw1 : IntKind.i64.wrap x = x := by rw [IntKind.wrap_i64]; omega
    have hw2 : IntKind.i64.wrap y = y := by rw [IntKind.wrap_i64]; omega
    go_enter Try.func4, Try.ntmps4
    go_wp2_with (first | (go_at_call 5; (with_reducible refine (awake_ok _).mono ?_); rintro e w1 ⟨rfl, hB1⟩; have H := (MW.start w s (.slice a l.length c) p0 p1).below hB1; clear hB1; have p00 := Lib.cell_of_heap H.b0 0; have p01 := Lib.cell_of_heap H.b0 1; have p10 := Lib.cell_of_heap H.b1 0; have p11 := Lib.cell_of_heap H.b1 1; have HH := Lib.hid H; clear H) | (go_at_call 9; (with_reducible refine (few_ok s a l.length c _ _ (World.alloc_heap_new _ _)).mono ?_); rw [hd]; rintro e w2 ⟨rfl, hB2⟩; have H := (HH.out.below ((Below.refl _ _).alloc (Nat.le_refl _) _)).below hB2; clear hB2; clear HH p00 p01 p10 p11; have p00 := Lib.cell_of_heap H.b0 0; have p01 := Lib.cell_of_heap H.b0 1; have p10 := Lib.cell_of_heap H.b1 0; have p11 := Lib.cell_of_heap H.b1 1; have HH := Lib.hid H; clear H))
    go_ret
    exact ⟨rfl, HH.out.bel⟩
  · have hw1 : IntKind.i64.wrap x = x := by rw [IntKind.wrap_i64]; omega
    have hw2 : IntKind.i64.wrap y = y := by rw [IntKind.wrap_i64]; omega
    go_enter Try.func4, Try.ntmps4
    go_wp2_with (first | (go_at_call 5; (with_reducible refine (awake_ok _).mono ?_); rintro e w1 ⟨rfl, hB1⟩; have H := (MW.start w s (.slice a l.length c) p0 p1).below hB1; clear hB1; have p00 := Lib.cell_of_heap H.b0 0; have p01 := Lib.cell_of_heap H.b0 1; have p10 := Lib.cell_of_heap H.b1 0; have p11 := Lib.cell_of_heap H.b1 1; have HH := Lib.hid H; clear H) | (go_at_call 9; (with_reducible refine (few_ok s a l.length c _ _ (World.alloc_heap_new _ _)).mono ?_); rw [hd]; rintro e w2 ⟨rfl, hB2⟩; have H := (HH.out.below ((Below.refl _ _).alloc (Nat.le_refl _) _)).below hB2; clear hB2; clear HH p00 p01 p10 p11; have p00 := Lib.cell_of_heap H.b0 0; have p01 := Lib.cell_of_heap H.b0 1; have p10 := Lib.cell_of_heap H.b1 0; have p11 := Lib.cell_of_heap H.b1 1; have HH := Lib.hid H; clear H))
    go_ret
    exact ⟨rfl, HH.out.bel⟩
end Go.Proofs.Ytocncjimepnlcaa
