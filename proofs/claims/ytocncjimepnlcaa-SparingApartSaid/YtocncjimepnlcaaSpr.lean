/- Sparing tables: the law SparingApart, walked: what comes before the loop. -/
import Derived.Test.YtocncjimepnlcaaSpl
import Derived.Test.YtocncjimepnlcaaRgx
namespace Go.Proofs.Ytocncjimepnlcaa
set_option linter.unusedSimpArgs false
set_option linter.unusedVariables false
open Go Go.RowKit
structure PW (w : World) (ps pc ss sc : Int) (W : World) : Prop where
  b0 : W.heap[w.heap.size]? = some (.cells #[cN ps, cN pc] 23 (0, 0))
  b1 : W.heap[w.heap.size + 1]? = some (.cells #[cN ss, cN sc] 23 (0, 0))
  bel : Below w.heap.size w W
theorem PW.below {w : World} {ps pc ss sc : Int} {W W' : World} (h : PW w ps pc ss sc W) (k : Below W.heap.size W W') : PW w ps pc ss sc W' :=
  ⟨(k.block _ (lt_of_block h.b0)).trans h.b0, (k.block _ (lt_of_block h.b1)).trans h.b1, bthen h.bel k⟩
theorem PW.start (w : World) (ps pc ss sc : Int) : PW w ps pc ss sc ((w.alloc (.cells #[cN ps, cN pc] 23)).alloc (.cells #[cN ss, cN sc] 23)) := by
  refine ⟨(Lib.alloc_old _ _ _ (by simp)).trans (World.alloc_heap_new w _), ?_, bal (bal (Below.refl _ w) _) _⟩
  have := World.alloc_heap_new (w.alloc (.cells #[cN ps, cN pc] 23)) (.cells #[cN ss, cN sc] 23)
  rwa [World.size_alloc] at this
set_option maxRecDepth 100000 in
set_option maxHeartbeats 4000000 in
theorem apart_early (ps pc ss sc x y : Int) (wa : Option Addr) (n wc : Nat) (w : World)
    (h : ps < 0 ∨ (0 ≤ ps ∧ 4096 < ps) ∨ (0 ≤ ps ∧ ps ≤ 4096 ∧ pc < 1) ∨ (0 ≤ ps ∧ ps ≤ 4096 ∧ 1 ≤ pc ∧ 4096 < pc) ∨ (0 ≤ ps ∧ ps ≤ 4096 ∧ 1 ≤ pc ∧ pc ≤ 4096 ∧ (20 : Int) < (n : Int))) :
    Calls Try.prog 3 #[.agg #[cN ps, cN pc], .agg #[cN ss, cN sc], .slice wa n wc, .int .u16 x, .int .u16 y] w fun e w' => e = .returned (.bool true) ∧ Below w.heap.size w w' := by
  rcases h with h | ⟨h1, h2⟩ | ⟨h1, h2, h3⟩ | ⟨h1, h2, h3, h4⟩ | ⟨h1, h2, h3, h4, h5⟩
  · go_enter Try.func3, Try.ntmps3
    go_wp2_with (first | (go_at_call 5; (with_reducible refine (awake_ok _).mono ?_); rintro e w1 ⟨rfl, hB1⟩; have H := (PW.start w ps pc ss sc).below hB1; clear hB1; have p00 := Lib.cell_of_heap H.b0 0; have p01 := Lib.cell_of_heap H.b0 1; have p10 := Lib.cell_of_heap H.b1 0; have p11 := Lib.cell_of_heap H.b1 1; have HH := Lib.hid H; clear H) | (go_at_call 6; (with_reducible refine (c6 _).mono ?_); rintro e w2 ⟨rfl, hB2⟩; have H := HH.out.below hB2; clear hB2 HH p00 p01 p10 p11; have p00 := Lib.cell_of_heap H.b0 0; have p01 := Lib.cell_of_heap H.b0 1; have p10 := Lib.cell_of_heap H.b1 0; have p11 := Lib.cell_of_heap H.b1 1; have HH := Lib.hid H; clear H) | (go_at_call 6; (with_reducible refine (c6g _).mono ?_); rintro e w2 ⟨v2, rfl, ho, hB2⟩; obtain ⟨a2, k2, rfl⟩ := ho.form; have H := (HH.out.below hB2).below ((Below.refl _ _).alloc (Nat.le_refl _) (.cells #[cN 1, .slice a2 l.length k2] 29)); clear ho hB2 HH p00 p01 p10 p11; have p00 := Lib.cell_of_heap H.b0 0; have p01 := Lib.cell_of_heap H.b0 1; have p10 := Lib.cell_of_heap H.b1 0; have p11 := Lib.cell_of_heap H.b1 1; have HH := Lib.hid H; clear H))
    go_ret
    first | exact ⟨rfl, HH.out.bel⟩ | exact ⟨rfl, bal HH.out.bel _⟩
  · go_enter Try.func3, Try.ntmps3
    go_wp2_with (first | (go_at_call 5; (with_reducible refine (awake_ok _).mono ?_); rintro e w1 ⟨rfl, hB1⟩; have H := (PW.start w ps pc ss sc).below hB1; clear hB1; have p00 := Lib.cell_of_heap H.b0 0; have p01 := Lib.cell_of_heap H.b0 1; have p10 := Lib.cell_of_heap H.b1 0; have p11 := Lib.cell_of_heap H.b1 1; have HH := Lib.hid H; clear H) | (go_at_call 6; (with_reducible refine (c6 _).mono ?_); rintro e w2 ⟨rfl, hB2⟩; have H := HH.out.below hB2; clear hB2 HH p00 p01 p10 p11; have p00 := Lib.cell_of_heap H.b0 0; have p01 := Lib.cell_of_heap H.b0 1; have p10 := Lib.cell_of_heap H.b1 0; have p11 := Lib.cell_of_heap H.b1 1; have HH := Lib.hid H; clear H) | (go_at_call 6; (with_reducible refine (c6g _).mono ?_); rintro e w2 ⟨v2, rfl, ho, hB2⟩; obtain ⟨a2, k2, rfl⟩ := ho.form; have H := (HH.out.below hB2).below ((Below.refl _ _).alloc (Nat.le_refl _) (.cells #[cN 1, .slice a2 l.length k2] 29)); clear ho hB2 HH p00 p01 p10 p11; have p00 := Lib.cell_of_heap H.b0 0; have p01 := Lib.cell_of_heap H.b0 1; have p10 := Lib.cell_of_heap H.b1 0; have p11 := Lib.cell_of_heap H.b1 1; have HH := Lib.hid H; clear H))
    go_ret
    first | exact ⟨rfl, HH.out.bel⟩ | exact ⟨rfl, bal HH.out.bel _⟩
  · go_enter Try.func3, Try.ntmps3
    go_wp2_with (first | (go_at_call 5; (with_reducible refine (awake_ok _).mono ?_); rintro e w1 ⟨rfl, hB1⟩; have H := (PW.start w ps pc ss sc).below hB1; clear hB1; have p00 := Lib.cell_of_heap H.b0 0; have p01 := Lib.cell_of_heap H.b0 1; have p10 := Lib.cell_of_heap H.b1 0; have p11 := Lib.cell_of_heap H.b1 1; have HH := Lib.hid H; clear H) | (go_at_call 6; (with_reducible refine (c6 _).mono ?_); rintro e w2 ⟨rfl, hB2⟩; have H := HH.out.below hB2; clear hB2 HH p00 p01 p10 p11; have p00 := Lib.cell_of_heap H.b0 0; have p01 := Lib.cell_of_heap H.b0 1; have p10 := Lib.cell_of_heap H.b1 0; have p11 := Lib.cell_of_heap H.b1 1; have HH := Lib.hid H; clear H) | (go_at_call 6; (with_reducible refine (c6g _).mono ?_); rintro e w2 ⟨v2, rfl, ho, hB2⟩; obtain ⟨a2, k2, rfl⟩ := ho.form; have H := (HH.out.below hB2).below ((Below.refl _ _).alloc (Nat.le_refl _) (.cells #[cN 1, .slice a2 l.length k2] 29)); clear ho hB2 HH p00 p01 p10 p11; have p00 := Lib.cell_of_heap H.b0 0; have p01 := Lib.cell_of_heap H.b0 1; have p10 := Lib.cell_of_heap H.b1 0; have p11 := Lib.cell_of_heap H.b1 1; have HH := Lib.hid H; clear H))
    go_ret
    first | exact ⟨rfl, HH.out.bel⟩ | exact ⟨rfl, bal HH.out.bel _⟩
  · go_enter Try.func3, Try.ntmps3
    go_wp2_with (first | (go_at_call 5; (with_reducible refine (awake_ok _).mono ?_); rintro e w1 ⟨rfl, hB1⟩; have H := (PW.start w ps pc ss sc).below hB1; clear hB1; have p00 := Lib.cell_of_heap H.b0 0; have p01 := Lib.cell_of_heap H.b0 1; have p10 := Lib.cell_of_heap H.b1 0; have p11 := Lib.cell_of_heap H.b1 1; have HH := Lib.hid H; clear H) | (go_at_call 6; (with_reducible refine (c6 _).mono ?_); rintro e w2 ⟨rfl, hB2⟩; have H := HH.out.below hB2; clear hB2 HH p00 p01 p10 p11; have p00 := Lib.cell_of_heap H.b0 0; have p01 := Lib.cell_of_heap H.b0 1; have p10 := Lib.cell_of_heap H.b1 0; have p11 := Lib.cell_of_heap H.b1 1; have HH := Lib.hid H; clear H) | (go_at_call 6; (with_reducible refine (c6g _).mono ?_); rintro e w2 ⟨v2, rfl, ho, hB2⟩; obtain ⟨a2, k2, rfl⟩ := ho.form; have H := (HH.out.below hB2).below ((Below.refl _ _).alloc (Nat.le_refl _) (.cells #[cN 1, .slice a2 l.length k2] 29)); clear ho hB2 HH p00 p01 p10 p11; have p00 := Lib.cell_of_heap H.b0 0; have p01 := Lib.cell_of_heap H.b0 1; have p10 := Lib.cell_of_heap H.b1 0; have p11 := Lib.cell_of_heap H.b1 1; have HH := Lib.hid H; clear H))
    go_ret
    first | exact ⟨rfl, HH.out.bel⟩ | exact ⟨rfl, bal HH.out.bel _⟩
  · go_enter Try.func3, Try.ntmps3
    go_wp2_with (first | (go_at_call 5; (with_reducible refine (awake_ok _).mono ?_); rintro e w1 ⟨rfl, hB1⟩; have H := (PW.start w ps pc ss sc).below hB1; clear hB1; have p00 := Lib.cell_of_heap H.b0 0; have p01 := Lib.cell_of_heap H.b0 1; have p10 := Lib.cell_of_heap H.b1 0; have p11 := Lib.cell_of_heap H.b1 1; have HH := Lib.hid H; clear H) | (go_at_call 6; (with_reducible refine (c6 _).mono ?_); rintro e w2 ⟨rfl, hB2⟩; have H := HH.out.below hB2; clear hB2 HH p00 p01 p10 p11; have p00 := Lib.cell_of_heap H.b0 0; have p01 := Lib.cell_of_heap H.b0 1; have p10 := Lib.cell_of_heap H.b1 0; have p11 := Lib.cell_of_heap H.b1 1; have HH := Lib.hid H; clear H) | (go_at_call 6; (with_reducible refine (c6g _).mono ?_); rintro e w2 ⟨v2, rfl, ho, hB2⟩; obtain ⟨a2, k2, rfl⟩ := ho.form; have H := (HH.out.below hB2).below ((Below.refl _ _).alloc (Nat.le_refl _) (.cells #[cN 1, .slice a2 l.length k2] 29)); clear ho hB2 HH p00 p01 p10 p11; have p00 := Lib.cell_of_heap H.b0 0; have p01 := Lib.cell_of_heap H.b0 1; have p10 := Lib.cell_of_heap H.b1 0; have p11 := Lib.cell_of_heap H.b1 1; have HH := Lib.hid H; clear H))
    go_ret
    first | exact ⟨rfl, HH.out.bel⟩ | exact ⟨rfl, bal HH.out.bel _⟩
set_option maxRecDepth 100000 in
set_option maxHeartbeats 4000000 in
theorem apart_bad (ps pc ss sc x y : Int) (wa : Option Addr) (n wc : Nat) (w : World) (h1 : 0 ≤ ps) (h2 : ps ≤ 4096) (h3 : 1 ≤ pc) (h4 : pc ≤ 4096) (h5 : ¬ (20 : Int) < (n : Int))
    (c6 : ∀ W : World, Calls Try.prog 6 #[.agg #[cN ss, cN sc]] W fun e w' => e = .returned (.tuple #[.agg #[cN 0, .slice none 0 0], cN 2]) ∧ Below W.heap.size W w') :
    Calls Try.prog 3 #[.agg #[cN ps, cN pc], .agg #[cN ss, cN sc], .slice wa n wc, .int .u16 x, .int .u16 y] w fun e w' => e = .returned (.bool true) ∧ Below w.heap.size w w' := by
  go_enter Try.func3, Try.ntmps3
  go_wp2_with (first | (go_at_call 5; (with_reducible refine (awake_ok _).mono ?_); rintro e w1 ⟨rfl, hB1⟩; have H := (PW.start w ps pc ss sc).below hB1; clear hB1; have p00 := Lib.cell_of_heap H.b0 0; have p01 := Lib.cell_of_heap H.b0 1; have p10 := Lib.cell_of_heap H.b1 0; have p11 := Lib.cell_of_heap H.b1 1; have HH := Lib.hid H; clear H) | (go_at_call 6; (with_reducible refine (c6 _).mono ?_); rintro e w2 ⟨rfl, hB2⟩; have H := HH.out.below hB2; clear hB2 HH p00 p01 p10 p11; have p00 := Lib.cell_of_heap H.b0 0; have p01 := Lib.cell_of_heap H.b0 1; have p10 := Lib.cell_of_heap H.b1 0; have p11 := Lib.cell_of_heap H.b1 1; have HH := Lib.hid H; clear H) | (go_at_call 6; (with_reducible refine (c6g _).mono ?_); rintro e w2 ⟨v2, rfl, ho, hB2⟩; obtain ⟨a2, k2, rfl⟩ := ho.form; have H := (HH.out.below hB2).below ((Below.refl _ _).alloc (Nat.le_refl _) (.cells #[cN 1, .slice a2 l.length k2] 29)); clear ho hB2 HH p00 p01 p10 p11; have p00 := Lib.cell_of_heap H.b0 0; have p01 := Lib.cell_of_heap H.b0 1; have p10 := Lib.cell_of_heap H.b1 0; have p11 := Lib.cell_of_heap H.b1 1; have HH := Lib.hid H; clear H))
  go_ret
  first | exact ⟨rfl, HH.out.bel⟩ | exact ⟨rfl, bal HH.out.bel _⟩
set_option maxRecDepth 100000 in
set_option maxHeartbeats 4000000 in
theorem apart_over (ps pc ss sc x y : Int) (wa : Option Addr) (n wc : Nat) (l : List Sp) (w : World) (h1 : 0 ≤ ps) (h2 : ps ≤ 4096) (h3 : 1 ≤ pc) (h4 : pc ≤ 4096) (h5 : ¬ (20 : Int) < (n : Int)) (h6 : 0 ≤ ss) (h7 : ss ≤ 4096) (h8 : 0 ≤ sc) (h9 : sc ≤ 64)
    (c6g : ∀ W : World, Calls Try.prog 6 #[.agg #[cN ss, cN sc]] W fun e w' => ∃ v, e = .returned (.tuple #[.agg #[cN 1, v], cN 0]) ∧ OW W.heap.size v l w' ∧ Below W.heap.size W w') (ho1 : ss < ps + pc) (ho2 : ps < ss + sc) :
    Calls Try.prog 3 #[.agg #[cN ps, cN pc], .agg #[cN ss, cN sc], .slice wa n wc, .int .u16 x, .int .u16 y] w fun e w' => e = .returned (.bool true) ∧ Below w.heap.size w w' := by
  have e1 : IntKind.i64.wrap (ps + pc) = ps + pc := by rw [IntKind.wrap_i64]; omega
  have e2 : IntKind.i64.wrap (ss + sc) = ss + sc := by rw [IntKind.wrap_i64]; omega
  go_enter Try.func3, Try.ntmps3
  go_wp2_with (first | (go_at_call 5; (with_reducible refine (awake_ok _).mono ?_); rintro e w1 ⟨rfl, hB1⟩; have H := (PW.start w ps pc ss sc).below hB1; clear hB1; have p00 := Lib.cell_of_heap H.b0 0; have p01 := Lib.cell_of_heap H.b0 1; have p10 := Lib.cell_of_heap H.b1 0; have p11 := Lib.cell_of_heap H.b1 1; have HH := Lib.hid H; clear H) | (go_at_call 6; (with_reducible refine (c6 _).mono ?_); rintro e w2 ⟨rfl, hB2⟩; have H := HH.out.below hB2; clear hB2 HH p00 p01 p10 p11; have p00 := Lib.cell_of_heap H.b0 0; have p01 := Lib.cell_of_heap H.b0 1; have p10 := Lib.cell_of_heap H.b1 0; have p11 := Lib.cell_of_heap H.b1 1; have HH := Lib.hid H; clear H) | (go_at_call 6; (with_reducible refine (c6g _).mono ?_); rintro e w2 ⟨v2, rfl, ho, hB2⟩; obtain ⟨a2, k2, rfl⟩ := ho.form; have H := (HH.out.below hB2).below ((Below.refl _ _).alloc (Nat.le_refl _) (.cells #[cN 1, .slice a2 l.length k2] 29)); clear ho hB2 HH p00 p01 p10 p11; have p00 := Lib.cell_of_heap H.b0 0; have p01 := Lib.cell_of_heap H.b0 1; have p10 := Lib.cell_of_heap H.b1 0; have p11 := Lib.cell_of_heap H.b1 1; have HH := Lib.hid H; clear H))
  go_ret
  first | exact ⟨rfl, HH.out.bel⟩ | exact ⟨rfl, bal HH.out.bel _⟩
/-- Replace in the law: full, or a replacement. -/
def RP (s r : Int) (l : List Sp) (W : World) (e : Ending) (w' : World) : Prop := Below W.heap.size W w' ∧
  (e = .returned (.tuple #[.agg #[cN 0, .slice none 0 0], cN 0, cN 12]) ∨
   ∃ a c u m, e = .returned (.tuple #[.agg #[cN (s + 1), .slice a (List.length u) c], cN m, cN 0]) ∧ SL w' (.slice a u.length c) u ∧ Rep l (r - r % 8) m u)
theorem rp_ok (s r : Int) (v : Value) (l : List Sp) (W : World) (h : SL W v l) (hV : Valid s l) (h0 : 0 ≤ r) (h1 : r ≤ 65535) (hs : s < 1000) : Calls Try.prog 7 #[.agg #[cN s, v], cN r] W (RP s r l W) := by
  refine (replace_walk s r v l W h ((valid_iff s l).2 hV) h0 (by omega)).mono fun e w' ⟨hb, hh⟩ => ⟨hb, ?_⟩
  rcases hh with ⟨he, -⟩ | ⟨he, h2⟩ | ⟨v', u, m, he, hs, hr, hne⟩
  · exact .inl he
  · omega
  · obtain ⟨a, c, rfl⟩ := hs.form
    exact .inr ⟨a, c, u, m, he, hs, hr⟩
/-- A store to the cell of a table leaves the entries of another. -/
theorem SL.put {W : World} {v : Value} {l : List Sp} {X n c : Nat} {s : Int} {a : Option Addr} {fr : Nat × Nat} {i : Nat} {u : Value} (h : SL W v l) (hX : W.heap[X]? = some (.cells #[cN s, .slice a n c] 29 fr)) : SL (W.setCell ⟨X, i, none⟩ u) v l := by
  rcases h with h | ⟨b, off, c', hv, hc, hb, hr⟩
  · exact .inl h
  · by_cases h0 : l.length = 0
    · obtain rfl := List.length_eq_zero_iff.1 h0
      exact .inl ⟨rfl, _, _, hv⟩
    have hbX : b ≠ X := fun e => by
      subst e
      obtain ⟨q0, q1⟩ := hr 0 (by omega)
      rw [Lib.cell_of_heap hX] at q0 q1
      have h1 : off = 0 := by
        rcases Nat.lt_or_ge off 1 with h | h
        · omega
        · exfalso
          rw [Array.getElem?_eq_none (by simp; omega)] at q1
          cases q1
      subst h1
      simp at q1
    refine .inr ⟨b, off, c', hv, hc, by simpa using hb, fun i' hi => ?_⟩
    rw [World.cell?_setCell_other _ _ _ _ (by simp [hbX]), World.cell?_setCell_other _ _ _ _ (by simp [hbX])]
    exact hr i' hi
end Go.Proofs.Ytocncjimepnlcaa
