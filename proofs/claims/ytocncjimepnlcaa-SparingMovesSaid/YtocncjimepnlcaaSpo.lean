/- Sparing tables: the law SparingMoves, walked at tables that are looked at. -/
import Derived.Test.YtocncjimepnlcaaSpn
namespace Go.Proofs.Ytocncjimepnlcaa
set_option linter.unusedSimpArgs false
set_option linter.unusedVariables false
open Go Go.RowKit
/-- What is known behind a replacing. -/
structure GF (s x y p0 m : Int) (l u : List Sp) : Prop where
  v : validB (s + 1) u = true
  len : ¬ (l.length : Int) < (u.length : Int)
  mem : (UN, m) ∈ l
  bl : ∀ t ∈ l, 0 ≤ t.2 ∧ t.2 < 4294967296
  bu : ∀ t ∈ u, 0 ≤ t.2 ∧ t.2 < 4294967296
  l8 : l.length ≤ 8
  u8 : u.length ≤ 8
  ws : IntKind.i64.wrap (s + 1) = s + 1
  wm : IntKind.i64.wrap (m + y % 8) = m + y % 8
  pl : if x / 8 = y / 8 then place u p0 y = m + y % 8 else place l p0 y = place u p0 y
theorem gf {s x m : Int} {l u : List Sp} (p0 y : Int) (V : Valid s l) (h : Rep l (x - x % 8) m u) (x0 : 0 ≤ x) (x1 : x ≤ 65535) (y0 : 0 ≤ y) (hne : s ≠ 4294967295) (y1 : y ≤ 65535) : GF s x y p0 m l u := by
  obtain ⟨h1, h2, h3, h4⟩ := rep_valid V h (by omega) (by show x - x % 8 < 4294967295; omega) (by omega) hne
  have hm := (V.w _ h3).1
  have hs := V.s0
  have hs1 := V.s1
  simp only at hm
  refine ⟨(valid_iff _ _).2 h1, by omega, h3, fun t ht => (V.w t ht).1, fun t ht => (h1.w t ht).1, V.len, h1.len, by rw [IntKind.wrap_i64]; omega, by rw [IntKind.wrap_i64]; omega, ?_⟩
  have h5 := h4 (y - y % 8) (by show y - y % 8 ≠ 4294967295; omega)
  by_cases hq : x / 8 = y / 8
  · rw [if_pos hq]
    rw [if_pos (by omega)] at h5
    unfold place
    rw [h5]
  · rw [if_neg hq]
    rw [if_neg (by omega)] at h5
    unfold place
    rw [h5]
theorem v_ok (s1 : Int) (v : Value) (u : List Sp) (W : World) (hv : validB s1 u = true) (h : SL W v u) : Calls Try.prog 10 #[.agg #[cN s1, v]] W fun e w' => e = .returned (.bool true) ∧ Below W.heap.size W w' := by
  have := valid_ok s1 v u W h
  rwa [hv] at this
structure GW (w : World) (s : Int) (v : Value) (p0 p1 : Int) (x9 : Nat) (s1 : Int) (v9 : Value) (l u : List Sp) (W : World) : Prop where
  mw : MW w s v p0 p1 W
  t9 : W.heap[x9]? = some (.cells #[cN s1, v9] 29 (0, 0))
  sl : SL W v l
  su : SL W v9 u
theorem GW.below {w : World} {s : Int} {v : Value} {p0 p1 : Int} {x9 : Nat} {s1 : Int} {v9 : Value} {l u : List Sp} {W W' : World} (h : GW w s v p0 p1 x9 s1 v9 l u W) (k : Below W.heap.size W W') : GW w s v p0 p1 x9 s1 v9 l u W' :=
  ⟨h.mw.below k, (k.block _ (lt_of_block h.t9)).trans h.t9, h.sl.below k, h.su.below k⟩
set_option maxRecDepth 100000 in
set_option maxHeartbeats 4000000 in
theorem moves_main_eq (s : Int) (a : Option Addr) (c : Nat) (p0 p1 x y : Int) (l : List Sp) (w : World) (hn : ¬ (20 : Int) < (l.length : Int)) (x0 : 0 ≤ x) (x1 : x ≤ 65535) (y0 : 0 ≤ y) (y1 : y ≤ 65535)
    (hp0 : 0 ≤ p0) (hp1 : p0 ≤ 1099511627776) (hx1 : x < p1) (hy1 : y < p1) (hSL : SL w (.slice a l.length c) l) (hq : x / 8 = y / 8) :
    Calls Try.prog 4 #[.agg #[cN s, .slice a l.length c], .agg #[cN p0, cN p1], .int .u16 x, .int .u16 y] w fun e w' => e = .returned (.bool true) ∧ Below w.heap.size w w' := by
  have hd := decide_eq_false hn
  have hw1 : IntKind.i64.wrap x = x := by rw [IntKind.wrap_i64]; omega
  have hw2 : IntKind.i64.wrap y = y := by rw [IntKind.wrap_i64]; omega
  have HS := Lib.hid hSL
  obtain ⟨ry, hry⟩ : ∃ r, r = y % 8 := ⟨_, rfl⟩
  have hty : Int.tmod y 8 = ry := by rw [Int.tmod_eq_emod_of_nonneg y0, hry]
  have HRY := Lib.hid hry
  have hqq : (Int.tdiv x 8 == Int.tdiv y 8) = true := by rw [Int.tdiv_eq_ediv_of_nonneg x0, Int.tdiv_eq_ediv_of_nonneg y0]; simpa using hq
  have hwx : IntKind.i64.wrap (Int.tdiv x 8) = Int.tdiv x 8 := by rw [IntKind.wrap_i64, Int.tdiv_eq_ediv_of_nonneg x0]; omega
  have hwy : IntKind.i64.wrap (Int.tdiv y 8) = Int.tdiv y 8 := by rw [IntKind.wrap_i64, Int.tdiv_eq_ediv_of_nonneg y0]; omega
  have PQ : ∀ (u : List Sp) (m : Int), (if x / 8 = y / 8 then place u p0 y = m + y % 8 else place l p0 y = place u p0 y) → place u p0 y = m + y % 8 := fun u m h => by rwa [if_pos hq] at h
  clear hSL hry
  go_enter Try.func4, Try.ntmps4
  go_wp2_with (first | (go_at_call 5; (with_reducible refine (awake_ok _).mono ?_); rintro e w1 ⟨rfl, hB1⟩; have H := (MW.start w s (.slice a l.length c) p0 p1).below hB1; clear hB1; have p00 := Lib.cell_of_heap H.b0 0; have p01 := Lib.cell_of_heap H.b0 1; have p10 := Lib.cell_of_heap H.b1 0; have p11 := Lib.cell_of_heap H.b1 1; have HH := Lib.hid H; clear H) | (go_at_call 9; (with_reducible refine (few_ok s a l.length c _ _ (World.alloc_heap_new _ _)).mono ?_); rw [hd]; rintro e w2 ⟨rfl, hB2⟩; have H := (HH.out.below ((Below.refl _ _).alloc (Nat.le_refl _) _)).below hB2; clear hB2; clear HH p00 p01 p10 p11; have p00 := Lib.cell_of_heap H.b0 0; have p01 := Lib.cell_of_heap H.b0 1; have p10 := Lib.cell_of_heap H.b1 0; have p11 := Lib.cell_of_heap H.b1 1; have HH := Lib.hid H; clear H) | (go_at_call 7; (with_reducible refine (rm_ok s x _ l _ (HS.out.below HH.out.bel) x0 x1).mono ?_); rintro e w3 ⟨hB3, hh⟩; have H := HH.out.below hB3; clear hB3; clear HH p00 p01 p10 p11; have p00 := Lib.cell_of_heap H.b0 0; have p01 := Lib.cell_of_heap H.b0 1; have p10 := Lib.cell_of_heap H.b1 0; have p11 := Lib.cell_of_heap H.b1 1; have HH := Lib.hid H; clear H; rcases hh with ⟨z, hz, rfl⟩ | ⟨a3, c3, u, m, rfl, hS3, hrep, hne, hV⟩; rotate_left; have HG := Lib.hid (gf p0 y hV hrep x0 x1 y0 hne y1); have g1 := HG.out.len; have g2 := HG.out.ws; have g3 := HG.out.wm; rw [← HRY.out] at g3; have g4 := (PQ _ _ HG.out.pl); (try rw [← HRY.out] at g4); clear hrep hne hV; generalize hpl : place l p0 y = pl at *; generalize hpu : place u p0 y = pu at *; have HPL := Lib.hid hpl; have HPU := Lib.hid hpu; clear hpl hpu; rotate_left) | (go_at_call 10; (with_reducible refine (v_ok _ _ u _ HG.out.v (hS3.below ((Below.refl _ _).alloc (Nat.le_refl _) _))).mono ?_); rintro e w5 ⟨rfl, hB5⟩; have G : GW w s (.slice a l.length c) p0 p1 w3.heap.size (s + 1) (.slice a3 u.length c3) l u _ := (GW.mk (HH.out.below ((Below.refl _ _).alloc (Nat.le_refl _) _)) (World.alloc_heap_new _ _) (HS.out.below (HH.out.below ((Below.refl _ _).alloc (Nat.le_refl _) _)).bel) (hS3.below ((Below.refl _ _).alloc (Nat.le_refl _) _))).below hB5; clear hB5 hS3; clear HH p00 p01 p10 p11; have p00 := Lib.cell_of_heap G.mw.b0 0; have p01 := Lib.cell_of_heap G.mw.b0 1; have p10 := Lib.cell_of_heap G.mw.b1 0; have p11 := Lib.cell_of_heap G.mw.b1 1; have p90 := Lib.cell_of_heap G.t9 0; have p91 := Lib.cell_of_heap G.t9 1; have GG := Lib.hid G; clear G) | (go_at_call 11; (with_reducible refine (contains_ok _ l 4294967295 m _ (by omega) GG.out.sl HG.out.mem).mono ?_); rintro e w6 ⟨rfl, hB6⟩; have G := GG.out.below hB6; clear hB6; clear GG p00 p01 p10 p11 p90 p91; have p00 := Lib.cell_of_heap G.mw.b0 0; have p01 := Lib.cell_of_heap G.mw.b0 1; have p10 := Lib.cell_of_heap G.mw.b1 0; have p11 := Lib.cell_of_heap G.mw.b1 1; have p90 := Lib.cell_of_heap G.t9 0; have p91 := Lib.cell_of_heap G.t9 1; have GG := Lib.hid G; clear G) | (go_at_call 8; (with_reducible refine (lookup_ok (.slice a l.length c) l p0 p1 y _ GG.out.sl y0 hy1 (by omega) hp0 (by omega) HG.out.l8 HG.out.bl).mono ?_); rw [HPL.out]; rintro e w7 ⟨rfl, hB7⟩; have G := GG.out.below hB7; clear hB7; clear GG p00 p01 p10 p11 p90 p91; have p00 := Lib.cell_of_heap G.mw.b0 0; have p01 := Lib.cell_of_heap G.mw.b0 1; have p10 := Lib.cell_of_heap G.mw.b1 0; have p11 := Lib.cell_of_heap G.mw.b1 1; have p90 := Lib.cell_of_heap G.t9 0; have p91 := Lib.cell_of_heap G.t9 1; have GG := Lib.hid G; clear G) | (go_at_call 8; (with_reducible refine (lookup_ok (.slice a3 u.length c3) u p0 p1 y _ GG.out.su y0 hy1 (by omega) hp0 (by omega) HG.out.u8 HG.out.bu).mono ?_); rw [HPU.out]; rintro e w8 ⟨rfl, hB8⟩; have G := GG.out.below hB8; clear hB8; clear GG p00 p01 p10 p11 p90 p91; have p00 := Lib.cell_of_heap G.mw.b0 0; have p01 := Lib.cell_of_heap G.mw.b0 1; have p10 := Lib.cell_of_heap G.mw.b1 0; have p11 := Lib.cell_of_heap G.mw.b1 1; have p90 := Lib.cell_of_heap G.t9 0; have p91 := Lib.cell_of_heap G.t9 1; have GG := Lib.hid G; clear G))
  all_goals (try (go_ret; first | exact ⟨rfl, GG.out.mw.bel⟩ | exact ⟨rfl, HH.out.bel⟩ | exact ⟨rfl, bal HH.out.bel _⟩))
set_option maxRecDepth 100000 in
set_option maxHeartbeats 4000000 in
theorem moves_main_ne (s : Int) (a : Option Addr) (c : Nat) (p0 p1 x y : Int) (l : List Sp) (w : World) (hn : ¬ (20 : Int) < (l.length : Int)) (x0 : 0 ≤ x) (x1 : x ≤ 65535) (y0 : 0 ≤ y) (y1 : y ≤ 65535)
    (hp0 : 0 ≤ p0) (hp1 : p0 ≤ 1099511627776) (hx1 : x < p1) (hy1 : y < p1) (hSL : SL w (.slice a l.length c) l) (hq : ¬ x / 8 = y / 8) :
    Calls Try.prog 4 #[.agg #[cN s, .slice a l.length c], .agg #[cN p0, cN p1], .int .u16 x, .int .u16 y] w fun e w' => e = .returned (.bool true) ∧ Below w.heap.size w w' := by
  have hd := decide_eq_false hn
  have hw1 : IntKind.i64.wrap x = x := by rw [IntKind.wrap_i64]; omega
  have hw2 : IntKind.i64.wrap y = y := by rw [IntKind.wrap_i64]; omega
  have HS := Lib.hid hSL
  obtain ⟨ry, hry⟩ : ∃ r, r = y % 8 := ⟨_, rfl⟩
  have hty : Int.tmod y 8 = ry := by rw [Int.tmod_eq_emod_of_nonneg y0, hry]
  have HRY := Lib.hid hry
  have hqq : (Int.tdiv x 8 == Int.tdiv y 8) = false := by rw [Int.tdiv_eq_ediv_of_nonneg x0, Int.tdiv_eq_ediv_of_nonneg y0]; simpa using hq
  have hwx : IntKind.i64.wrap (Int.tdiv x 8) = Int.tdiv x 8 := by rw [IntKind.wrap_i64, Int.tdiv_eq_ediv_of_nonneg x0]; omega
  have hwy : IntKind.i64.wrap (Int.tdiv y 8) = Int.tdiv y 8 := by rw [IntKind.wrap_i64, Int.tdiv_eq_ediv_of_nonneg y0]; omega
  have PQ : ∀ (u : List Sp) (m : Int), (if x / 8 = y / 8 then place u p0 y = m + y % 8 else place l p0 y = place u p0 y) → place l p0 y = place u p0 y := fun u m h => by rwa [if_neg hq] at h
  clear hSL hry
  go_enter Try.func4, Try.ntmps4
  go_wp2_with (first | (go_at_call 5; (with_reducible refine (awake_ok _).mono ?_); rintro e w1 ⟨rfl, hB1⟩; have H := (MW.start w s (.slice a l.length c) p0 p1).below hB1; clear hB1; have p00 := Lib.cell_of_heap H.b0 0; have p01 := Lib.cell_of_heap H.b0 1; have p10 := Lib.cell_of_heap H.b1 0; have p11 := Lib.cell_of_heap H.b1 1; have HH := Lib.hid H; clear H) | (go_at_call 9; (with_reducible refine (few_ok s a l.length c _ _ (World.alloc_heap_new _ _)).mono ?_); rw [hd]; rintro e w2 ⟨rfl, hB2⟩; have H := (HH.out.below ((Below.refl _ _).alloc (Nat.le_refl _) _)).below hB2; clear hB2; clear HH p00 p01 p10 p11; have p00 := Lib.cell_of_heap H.b0 0; have p01 := Lib.cell_of_heap H.b0 1; have p10 := Lib.cell_of_heap H.b1 0; have p11 := Lib.cell_of_heap H.b1 1; have HH := Lib.hid H; clear H) | (go_at_call 7; (with_reducible refine (rm_ok s x _ l _ (HS.out.below HH.out.bel) x0 x1).mono ?_); rintro e w3 ⟨hB3, hh⟩; have H := HH.out.below hB3; clear hB3; clear HH p00 p01 p10 p11; have p00 := Lib.cell_of_heap H.b0 0; have p01 := Lib.cell_of_heap H.b0 1; have p10 := Lib.cell_of_heap H.b1 0; have p11 := Lib.cell_of_heap H.b1 1; have HH := Lib.hid H; clear H; rcases hh with ⟨z, hz, rfl⟩ | ⟨a3, c3, u, m, rfl, hS3, hrep, hne, hV⟩; rotate_left; have HG := Lib.hid (gf p0 y hV hrep x0 x1 y0 hne y1); have g1 := HG.out.len; have g2 := HG.out.ws; have g3 := HG.out.wm; rw [← HRY.out] at g3; have g4 := (PQ _ _ HG.out.pl); (try rw [← HRY.out] at g4); clear hrep hne hV; generalize hpl : place l p0 y = pl at *; generalize hpu : place u p0 y = pu at *; have HPL := Lib.hid hpl; have HPU := Lib.hid hpu; clear hpl hpu; rotate_left) | (go_at_call 10; (with_reducible refine (v_ok _ _ u _ HG.out.v (hS3.below ((Below.refl _ _).alloc (Nat.le_refl _) _))).mono ?_); rintro e w5 ⟨rfl, hB5⟩; have G : GW w s (.slice a l.length c) p0 p1 w3.heap.size (s + 1) (.slice a3 u.length c3) l u _ := (GW.mk (HH.out.below ((Below.refl _ _).alloc (Nat.le_refl _) _)) (World.alloc_heap_new _ _) (HS.out.below (HH.out.below ((Below.refl _ _).alloc (Nat.le_refl _) _)).bel) (hS3.below ((Below.refl _ _).alloc (Nat.le_refl _) _))).below hB5; clear hB5 hS3; clear HH p00 p01 p10 p11; have p00 := Lib.cell_of_heap G.mw.b0 0; have p01 := Lib.cell_of_heap G.mw.b0 1; have p10 := Lib.cell_of_heap G.mw.b1 0; have p11 := Lib.cell_of_heap G.mw.b1 1; have p90 := Lib.cell_of_heap G.t9 0; have p91 := Lib.cell_of_heap G.t9 1; have GG := Lib.hid G; clear G) | (go_at_call 11; (with_reducible refine (contains_ok _ l 4294967295 m _ (by omega) GG.out.sl HG.out.mem).mono ?_); rintro e w6 ⟨rfl, hB6⟩; have G := GG.out.below hB6; clear hB6; clear GG p00 p01 p10 p11 p90 p91; have p00 := Lib.cell_of_heap G.mw.b0 0; have p01 := Lib.cell_of_heap G.mw.b0 1; have p10 := Lib.cell_of_heap G.mw.b1 0; have p11 := Lib.cell_of_heap G.mw.b1 1; have p90 := Lib.cell_of_heap G.t9 0; have p91 := Lib.cell_of_heap G.t9 1; have GG := Lib.hid G; clear G) | (go_at_call 8; (with_reducible refine (lookup_ok (.slice a l.length c) l p0 p1 y _ GG.out.sl y0 hy1 (by omega) hp0 (by omega) HG.out.l8 HG.out.bl).mono ?_); rw [HPL.out]; rintro e w7 ⟨rfl, hB7⟩; have G := GG.out.below hB7; clear hB7; clear GG p00 p01 p10 p11 p90 p91; have p00 := Lib.cell_of_heap G.mw.b0 0; have p01 := Lib.cell_of_heap G.mw.b0 1; have p10 := Lib.cell_of_heap G.mw.b1 0; have p11 := Lib.cell_of_heap G.mw.b1 1; have p90 := Lib.cell_of_heap G.t9 0; have p91 := Lib.cell_of_heap G.t9 1; have GG := Lib.hid G; clear G) | (go_at_call 8; (with_reducible refine (lookup_ok (.slice a3 u.length c3) u p0 p1 y _ GG.out.su y0 hy1 (by omega) hp0 (by omega) HG.out.u8 HG.out.bu).mono ?_); rw [HPU.out]; rintro e w8 ⟨rfl, hB8⟩; have G := GG.out.below hB8; clear hB8; clear GG p00 p01 p10 p11 p90 p91; have p00 := Lib.cell_of_heap G.mw.b0 0; have p01 := Lib.cell_of_heap G.mw.b0 1; have p10 := Lib.cell_of_heap G.mw.b1 0; have p11 := Lib.cell_of_heap G.mw.b1 1; have p90 := Lib.cell_of_heap G.t9 0; have p91 := Lib.cell_of_heap G.t9 1; have GG := Lib.hid G; clear G))
  all_goals (try (go_ret; first | exact ⟨rfl, GG.out.mw.bel⟩ | exact ⟨rfl, HH.out.bel⟩ | exact ⟨rfl, bal HH.out.bel _⟩))
theorem moves_ok (s : Int) (v : Value) (p0 p1 x y : Int) (l : List Sp) (w : World) (x0 : 0 ≤ x) (x1 : x ≤ 65535) (y0 : 0 ≤ y) (y1 : y ≤ 65535) (h : SL w v l) :
    Calls Try.prog 4 #[.agg #[cN s, v], .agg #[cN p0, cN p1], .int .u16 x, .int .u16 y] w fun e w' => e = .returned (.bool true) ∧ Below w.heap.size w w' := by
  obtain ⟨a, c, rfl⟩ := h.form
  by_cases hn : (20 : Int) < (l.length : Int)
  · exact moves_big s a c p0 p1 x y l w hn x0 x1 y0 y1
  by_cases he : p0 < 0 ∨ (0 ≤ p0 ∧ 1099511627776 < p0) ∨ (0 ≤ p0 ∧ p0 ≤ 1099511627776 ∧ p1 ≤ x) ∨ (0 ≤ p0 ∧ p0 ≤ 1099511627776 ∧ x < p1 ∧ p1 ≤ y)
  · exact moves_early s a c p0 p1 x y l w hn x0 x1 y0 y1 he
  by_cases hq : x / 8 = y / 8
  · exact moves_main_eq s a c p0 p1 x y l w hn x0 x1 y0 y1 (by omega) (by omega) (by omega) (by omega) h hq
  · exact moves_main_ne s a c p0 p1 x y l w hn x0 x1 y0 y1 (by omega) (by omega) (by omega) (by omega) h hq
end Go.Proofs.Ytocncjimepnlcaa
