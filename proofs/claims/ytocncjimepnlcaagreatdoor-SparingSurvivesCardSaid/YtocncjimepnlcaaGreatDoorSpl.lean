/- Sparing tables: awake. -/
import Derived.Test.YtocncjimepnlcaaGreatDoorSpi
import Derived.Test.YtocncjimepnlcaaGreatDoorSpj
namespace Go.Proofs.YtocncjimepnlcaaGreatDoor
set_option linter.unusedSimpArgs false
set_option linter.unusedVariables false
open Go Go.RowKit
/-- A single outcome: sorted lists with the same entries are one. -/
theorem sorted_unique {u v : List Sp} (h : u.Perm v) (hu : u.Pairwise fun y x => ltS x y = false) (hv : v.Pairwise fun y x => ltS x y = false) : u = v := by
  refine List.Perm.eq_of_pairwise (fun a b _ _ h1 h2 => ?_) hu hv h
  unfold ltS at h1 h2
  split at h1 <;> split at h2 <;> simp_all <;> (apply Prod.ext <;> omega)
theorem rep_unique {l : List Sp} {f m m' : Int} {u v : List Sp} (h : Rep l f m u) (h' : Rep l f m' v) : m = m' ∧ u = v := by
  obtain ⟨b, h1, h2, h3, h4⟩ := h.best
  obtain ⟨b', h1', h2', h3', h4'⟩ := h'.best
  obtain rfl : b = b' := by omega
  rw [h3] at h3'
  obtain rfl : m = m' := congrArg Prod.snd h3'
  exact ⟨rfl, sorted_unique (h4.trans h4'.symm) h.sorted h'.sorted⟩
theorem rep1 : Rep [(UN, 600), (UN, 608)] 8 600 [(8, 600), (UN, 608)] := ⟨⟨0, by decide, by decide, rfl, List.Perm.refl _⟩, by simp [ltS, UN]⟩
theorem rep2 : Rep [(8, 600), (UN, 608)] 8 608 [(8, 608)] := ⟨⟨0, by decide, by decide, rfl, List.Perm.refl _⟩, by simp⟩
/-- A slice of entries, not empty. -/
def SN (w : World) (v : Value) (l : List Sp) : Prop := ∃ b off c, v = .slice (some ⟨b, off, none⟩) l.length c ∧ l.length ≤ c ∧ b < w.heap.size ∧ Row w b off l
theorem SL.sn {w : World} {v : Value} {l : List Sp} (h : SL w v l) (hl : l ≠ []) : SN w v l := h.resolve_left fun h => hl h.1
theorem SN.sl {w : World} {v : Value} {l : List Sp} (h : SN w v l) : SL w v l := .inr h
theorem SN.below {w w' : World} {v : Value} {l : List Sp} (h : SN w v l) (k : Below w.heap.size w w') : SN w' v l := by
  obtain ⟨b, off, c, hv, hc, hb, hr⟩ := h
  exact ⟨b, off, c, hv, hc, Nat.lt_of_lt_of_le hb k.size, hr.below hb k⟩
abbrev l1 : List Sp := [(UN, 600), (UN, 608)]
abbrev l2 : List Sp := [(8, 600), (UN, 608)]
abbrev l3 : List Sp := [(8, 608)]
theorem new_a (W : World) : Calls Tryz.prog 14 #[.agg #[cN 600, cN 16]] W fun e w' => ∃ b o c, e = .returned (.tuple #[.agg #[cN 1, .slice (some ⟨b, o, none⟩) 2 c], cN 0]) ∧ SN w' (.slice (some ⟨b, o, none⟩) 2 c) l1 ∧ Below W.heap.size W w' := by
  refine (new_good 600 2 W (by decide) (by decide) (by decide) (by decide)).mono fun e w' ⟨v, he, ho, hb⟩ => ?_
  have hs : SN w' v l1 := SL.sn (show SL w' v l1 from ho.sl) (by simp)
  obtain ⟨b, o, c, rfl, r⟩ := id hs
  exact ⟨b, o, c, he, hs, hb⟩
theorem rep_a (v : Value) (W : World) (h : SN W v l1) : Calls Tryz.prog 11 #[.agg #[cN 1, v], cN 11] W fun e w' => ∃ b o c, e = .returned (.tuple #[.agg #[cN 2, .slice (some ⟨b, o, none⟩) 2 c], cN 600, cN 0]) ∧ SN w' (.slice (some ⟨b, o, none⟩) 2 c) l2 ∧ Below W.heap.size W w' := by
  refine (replace_walk 1 11 v l1 W h.sl (by decide) (by decide) (by decide)).mono fun e w' ⟨hb, h⟩ => ?_
  rcases h with ⟨-, h⟩ | ⟨-, h⟩ | ⟨v', u, m, he, hs, hr, -⟩
  · exact absurd rfl (h 0 (by decide))
  · cases h.1
  · obtain ⟨rfl, rfl⟩ := rep_unique hr rep1
    obtain ⟨b, o, c, rfl, r⟩ := id (hs.sn (by simp))
    exact ⟨b, o, c, he, hs.sn (by simp), hb⟩
theorem rep_b (v : Value) (W : World) (h : SN W v l2) : Calls Tryz.prog 11 #[.agg #[cN 2, v], cN 15] W fun e w' => ∃ b o c, e = .returned (.tuple #[.agg #[cN 3, .slice (some ⟨b, o, none⟩) 1 c], cN 608, cN 0]) ∧ SN w' (.slice (some ⟨b, o, none⟩) 1 c) l3 ∧ Below W.heap.size W w' := by
  refine (replace_walk 2 15 v l2 W h.sl (by decide) (by decide) (by decide)).mono fun e w' ⟨hb, h⟩ => ?_
  rcases h with ⟨-, h⟩ | ⟨-, h⟩ | ⟨v', u, m, he, hs, hr, -⟩
  · exact absurd rfl (h 0 (by decide))
  · cases h.1
  · obtain ⟨rfl, rfl⟩ := rep_unique hr rep2
    obtain ⟨b, o, c, rfl, r⟩ := id (hs.sn (by simp))
    exact ⟨b, o, c, he, hs.sn (by simp), hb⟩
theorem look_a (v : Value) (W : World) (h : SN W v l2) : Calls Tryz.prog 15 #[v, .agg #[cN 257, cN 100], cN 11] W fun e w' => e = .returned (.tuple #[cN 603, cN 0]) ∧ Below W.heap.size W w' :=
  lookup_ok v l2 257 100 11 W h.sl (by decide) (by decide) (by decide) (by decide) (by decide) (by decide) (by decide)
theorem same_a (s : Int) (v v' : Value) (l : List Sp) (W : World) (hl : l.length ≤ 1000) (h : SN W v l) (h' : SN W v' l) : Calls Tryz.prog 9 #[.agg #[cN s, v], .agg #[cN s, v']] W fun e w' => e = .returned (.bool true) ∧ Below W.heap.size W w' := by
  obtain ⟨b, o, c, rfl, hc, hb, hr⟩ := h
  obtain ⟨b', o', c', rfl, hc', hb', hr'⟩ := h'
  exact same_row s b o c b' o' c' l W hl hb hb' hc hc' hr hr'
theorem lit2 (a b c d : Int) (W : World) : SN (W.alloc (.cells #[cN a, cN b, cN c, cN d] 54)) (.slice (some ⟨W.heap.size, 0, none⟩) 2 2) [(a, b), (c, d)] := by
  refine ⟨_, _, _, rfl, Nat.le_refl _, by simp, fun i hi => ?_⟩
  have h := World.alloc_heap_new W (.cells #[cN a, cN b, cN c, cN d] 54)
  match i, hi with
  | 0, _ => exact ⟨Lib.cell_of_heap h 0, Lib.cell_of_heap h 1⟩
  | 1, _ => exact ⟨Lib.cell_of_heap h 2, Lib.cell_of_heap h 3⟩
theorem lit1 (a b : Int) (W : World) : SN (W.alloc (.cells #[cN a, cN b] 54)) (.slice (some ⟨W.heap.size, 0, none⟩) 1 1) [(a, b)] := by
  refine ⟨_, _, _, rfl, Nat.le_refl _, by simp, fun i hi => ?_⟩
  have h := World.alloc_heap_new W (.cells #[cN a, cN b] 54)
  match i, hi with
  | 0, _ => exact ⟨Lib.cell_of_heap h 0, Lib.cell_of_heap h 1⟩
structure AW (w : World) (x1 x2 x3 : Nat) (v1 v2 v3 : Value) (W : World) : Prop where
  t1 : W.heap[x1]? = some (.cells #[cN 1, v1] 24 (0, 0))
  t2 : W.heap[x2]? = some (.cells #[cN 2, v2] 24 (0, 0))
  t3 : W.heap[x3]? = some (.cells #[cN 3, v3] 24 (0, 0))
  s1 : SN W v1 l1
  s2 : SN W v2 l2
  s3 : SN W v3 l3
  bel : Below w.heap.size w W
theorem AW.below {w : World} {x1 x2 x3 : Nat} {v1 v2 v3 : Value} {W W' : World} (h : AW w x1 x2 x3 v1 v2 v3 W) (k : Below W.heap.size W W') : AW w x1 x2 x3 v1 v2 v3 W' :=
  ⟨(k.block _ (lt_of_block h.t1)).trans h.t1, (k.block _ (lt_of_block h.t2)).trans h.t2, (k.block _ (lt_of_block h.t3)).trans h.t3, h.s1.below k, h.s2.below k, h.s3.below k, bthen h.bel k⟩
set_option maxRecDepth 100000 in
set_option maxHeartbeats 4000000 in
theorem awake_ok (w : World) : Calls Tryz.prog 5 #[] w fun e w' => e = .returned (.bool true) ∧ Below w.heap.size w w' := by
  go_enter Tryz.func5, Tryz.ntmps5
  go_wp2_with (first | (go_at_call 14; (with_reducible refine (new_a _).mono ?_); rintro e w1 ⟨b1, o1, k1, rfl, hS1, hB1⟩) | (go_at_call 11; (with_reducible refine (rep_a _ _ (hS1.below ((Below.refl _ _).alloc (Nat.le_refl _) _))).mono ?_); rintro e w2 ⟨b2, o2, k2, rfl, hS2, hB2⟩; have T1 := (hB2.block _ (lt_of_block (World.alloc_heap_new w1 (.cells #[cN 1, .slice (some ⟨b1, o1, none⟩) 2 k1] 24)))).trans (World.alloc_heap_new w1 _); have S1 := (hS1.below ((Below.refl _ _).alloc (Nat.le_refl _) _)).below hB2; have B2 := bthen (bal hB1 _) hB2; clear hB2 hB1 hS1) | (go_at_call 11; (with_reducible refine (rep_b _ _ (hS2.below ((Below.refl _ _).alloc (Nat.le_refl _) _))).mono ?_); rintro e w3 ⟨b3, o3, k3, rfl, hS3, hB3⟩; have T2 := (hB3.block _ (lt_of_block (World.alloc_heap_new w2 (.cells #[cN 2, .slice (some ⟨b2, o2, none⟩) 2 k2] 24)))).trans (World.alloc_heap_new w2 _); have T1 := (hB3.block _ (Nat.lt_of_lt_of_le (lt_of_block T1) (Below.size ((Below.refl _ _).alloc (Nat.le_refl _) _)))).trans ((Lib.alloc_old _ _ _ (lt_of_block T1)).trans T1); have S1 := (S1.below ((Below.refl _ _).alloc (Nat.le_refl _) _)).below hB3; have S2 := (hS2.below ((Below.refl _ _).alloc (Nat.le_refl _) _)).below hB3; have B3 := bthen (bal B2 _) hB3; have T2a := (Lib.alloc_old w3 (.cells #[cN 3, .slice (some ⟨b3, o3, none⟩) 1 k3] 24) _ (lt_of_block T2)).trans T2; have q1 := Lib.cell_of_heap T2a 1; clear hB3 B2 hS2) | (go_at_call 15; (with_reducible refine (look_a _ _ (S2.below ((Below.refl _ _).alloc (Nat.le_refl _) _))).mono ?_); rintro e w4 ⟨rfl, hB4⟩; have H : AW w w1.heap.size w2.heap.size w3.heap.size _ _ _ (w3.alloc (.cells #[cN 3, .slice (some ⟨b3, o3, none⟩) 1 k3] 24)) := ⟨(Lib.alloc_old _ _ _ (lt_of_block T1)).trans T1, T2a, World.alloc_heap_new _ _, S1.below ((Below.refl _ _).alloc (Nat.le_refl _) _), S2.below ((Below.refl _ _).alloc (Nat.le_refl _) _), hS3.below ((Below.refl _ _).alloc (Nat.le_refl _) _), bal B3 _⟩; have H := H.below hB4; clear hB4 q1 T2a T2 T1 S1 S2 hS3 B3; have p10 := Lib.cell_of_heap H.t1 0; have p11 := Lib.cell_of_heap H.t1 1; have p20 := Lib.cell_of_heap H.t2 0; have p21 := Lib.cell_of_heap H.t2 1; have p30 := Lib.cell_of_heap H.t3 0; have p31 := Lib.cell_of_heap H.t3 1; have HH := Lib.hid H; clear H) | (go_at_call 9; (with_reducible refine (same_a 1 _ _ _ _ (by decide) (HH.out.below ((Below.refl _ _).alloc (Nat.le_refl _) _)).s1 (lit2 4294967295 600 4294967295 608 _)).mono ?_); rintro e w5 ⟨rfl, hB5⟩; have H := (HH.out.below ((Below.refl _ _).alloc (Nat.le_refl _) _)).below hB5; clear hB5 HH p10 p11 p20 p21 p30 p31; have p10 := Lib.cell_of_heap H.t1 0; have p11 := Lib.cell_of_heap H.t1 1; have p20 := Lib.cell_of_heap H.t2 0; have p21 := Lib.cell_of_heap H.t2 1; have p30 := Lib.cell_of_heap H.t3 0; have p31 := Lib.cell_of_heap H.t3 1; have HH := Lib.hid H; clear H) | (go_at_call 9; (with_reducible refine (same_a 2 _ _ _ _ (by decide) (HH.out.below ((Below.refl _ _).alloc (Nat.le_refl _) _)).s2 (lit2 8 600 4294967295 608 _)).mono ?_); rintro e w5 ⟨rfl, hB5⟩; have H := (HH.out.below ((Below.refl _ _).alloc (Nat.le_refl _) _)).below hB5; clear hB5 HH p10 p11 p20 p21 p30 p31; have p10 := Lib.cell_of_heap H.t1 0; have p11 := Lib.cell_of_heap H.t1 1; have p20 := Lib.cell_of_heap H.t2 0; have p21 := Lib.cell_of_heap H.t2 1; have p30 := Lib.cell_of_heap H.t3 0; have p31 := Lib.cell_of_heap H.t3 1; have HH := Lib.hid H; clear H) | (go_at_call 9; (with_reducible refine (same_a 3 _ _ _ _ (by decide) (HH.out.below ((Below.refl _ _).alloc (Nat.le_refl _) _)).s3 (lit1 8 608 _)).mono ?_); rintro e w5 ⟨rfl, hB5⟩; have H := (HH.out.below ((Below.refl _ _).alloc (Nat.le_refl _) _)).below hB5; clear hB5 HH p10 p11 p20 p21 p30 p31; have p10 := Lib.cell_of_heap H.t1 0; have p11 := Lib.cell_of_heap H.t1 1; have p20 := Lib.cell_of_heap H.t2 0; have p21 := Lib.cell_of_heap H.t2 1; have p30 := Lib.cell_of_heap H.t3 0; have p31 := Lib.cell_of_heap H.t3 1; have HH := Lib.hid H; clear H) | (go_at_call 10; (with_reducible refine (valid_ok 3 _ l3 _ HH.out.s3.sl).mono ?_); rintro e w5 ⟨rfl, hB5⟩; have H := HH.out.below hB5))
  go_ret
  exact ⟨rfl, H.bel⟩
end Go.Proofs.YtocncjimepnlcaaGreatDoor
