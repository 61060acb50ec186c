/- sparing.Prevailing at two blocks. -/
import Derived.Test.YtocncjimepnlcaaGreatDoorDzf
namespace Go.Proofs.YtocncjimepnlcaaGreatDoor
set_option linter.unusedSimpArgs false
set_option linter.unusedVariables false
open Go Go.RowKit
/-- The blocks of Prevailing. -/
structure PV (w : World) (sq : Int) (v : Value) (l : List Sp) (W : World) : Prop where
  b4 : W.heap[w.heap.size]? = some (.cells #[.int .i64 0, .slice none 0 0] 24 (0, 0))
  b7 : W.heap[w.heap.size + 1]? = some (.cells #[cN sq, v] 24 (0, 0))
  own : OW (w.heap.size + 1 + 1) v l W
  bel : Below w.heap.size w W
theorem PV.below {w : World} {sq : Int} {v : Value} {l : List Sp} {W W' : World} (h : PV w sq v l W) (k : Below W.heap.size W W') : PV w sq v l W' :=
  ⟨(k.block _ (lt_of_block h.b4)).trans h.b4, (k.block _ (lt_of_block h.b7)).trans h.b7, h.own.keep k, bthen h.bel k⟩
theorem PV.start (w : World) : PV w 0 (.slice none 0 0) [] ((w.alloc (.cells #[.int .i64 0, .slice none 0 0] 24)).alloc (.cells #[.int .i64 0, .slice none 0 0] 24)) := by
  refine ⟨(Lib.alloc_old _ _ _ (by simp)).trans (World.alloc_heap_new w _), ?_, OW.nil _ _, bal (bal (Below.refl _ w) _) _⟩
  have := World.alloc_heap_new (w.alloc (.cells #[.int .i64 0, .slice none 0 0] 24)) (.cells #[.int .i64 0, .slice none 0 0] 24)
  rwa [World.size_alloc] at this
theorem PV.take {w : World} {sq : Int} {v : Value} {l : List Sp} {W : World} (h : PV w sq v l W) {W5 : World} {S : Int} {v5 : Value} {L : List Sp} (k : Below W.heap.size W W5) (ho : OW W.heap.size v5 L W5) :
    PV w S v5 L (((W5.alloc (.cells #[cN S, v5] 24)).setCell ⟨w.heap.size + 1, 0, none⟩ (cN S)).setCell ⟨w.heap.size + 1, 1, none⟩ v5) := by
  have h2 := h.below (k.trans ((Below.refl _ W5).alloc k.size (.cells #[cN S, v5] 24)))
  have hl := lt_of_block h.b7
  have ho2 : OW (w.heap.size + 1 + 1) v5 L (W5.alloc (.cells #[cN S, v5] 24)) := (ho.base (by omega)).keep ((Below.refl _ W5).alloc (Nat.le_refl _) _)
  exact ⟨row_other 1 v5 (row_other 0 _ h2.b4 (by omega)) (by omega), row_set 1 v5 (row_set 0 _ h2.b7), (ho2.other (i := 0) (u := cN S) (g := w.heap.size + 1) (by omega)).other (i := 1) (u := v5) (g := w.heap.size + 1) (by omega), (h2.bel.setCell (p := ⟨w.heap.size + 1, 0, none⟩) (by simp only; omega) _).setCell (p := ⟨w.heap.size + 1, 1, none⟩) (by simp only; omega) _⟩
theorem PV.fin {w : World} {sq : Int} {v : Value} {l : List Sp} {W : World} (h : PV w sq v l W) : let W2 := (W.setCell ⟨w.heap.size, 0, none⟩ (.int .i64 sq)).setCell ⟨w.heap.size, 1, none⟩ v
    W2.cell? ⟨w.heap.size, 0, none⟩ = some (cN sq) ∧ W2.cell? ⟨w.heap.size, 1, none⟩ = some v ∧ Below w.heap.size w W2 ∧ SL W2 v l := by
  have h1 := row_set 0 (.int .i64 sq) h.b4
  have h2 := row_set 1 v h1
  exact ⟨Lib.cell_of_heap h2 0, Lib.cell_of_heap h2 1, (h.bel.setCell (p := ⟨w.heap.size, 0, none⟩) (Nat.le_refl _) _).setCell (p := ⟨w.heap.size, 1, none⟩) (Nat.le_refl _) _, ((h.own.other (i := 0) (u := .int .i64 sq) (g := w.heap.size) (by omega)).other (i := 1) (u := v) (g := w.heap.size) (by omega)).sl⟩
/-- What Decode gives. -/
def DN (b : ByteArray) (k : Int) : Prop := ∀ W, Calls Tryz.prog 8 #[.string b, cN k] W fun e w' => e = .returned (.tuple #[.agg #[cN 0, .slice none 0 0], cN 10]) ∧ Below W.heap.size W w'
def DY (b : ByteArray) (k S : Int) (L : List Sp) : Prop := ∀ W, Calls Tryz.prog 8 #[.string b, cN k] W fun e w' => (∃ v, e = .returned (.tuple #[.agg #[cN S, v], cN 0]) ∧ OW W.heap.size v L w') ∧ Below W.heap.size W w'
def PrevR (S B : Int) (L : List Sp) (w : World) (e : Ending) (w' : World) : Prop := (∃ v, e = .returned (.tuple #[.agg #[cN S, v], cN B, cN 0]) ∧ SL w' v L) ∧ Below w.heap.size w w'
set_option maxRecDepth 100000 in
set_option maxHeartbeats 4000000 in
theorem prev_second (g c h0 ch : Nat) (b0 b1 : ByteArray) (x0 x1 S : Int) (L : List Sp) (w : World) (hg : g < w.heap.size) (hh : h0 < w.heap.size) (g0 : w.cell? ⟨g, 0, none⟩ = some (.string b0)) (g1 : w.cell? ⟨g, 1, none⟩ = some (.string b1)) (k0 : w.cell? ⟨h0, 0, none⟩ = some (cN x0)) (k1 : w.cell? ⟨h0, 1, none⟩ = some (cN x1)) (d0 : DN b0 x0) (d1 : DY b1 x1 S L) :
    Calls Tryz.prog 13 #[.slice (some ⟨g, 0, none⟩) 2 c, .slice (some ⟨h0, 0, none⟩) 2 ch] w (PrevR S 1 L w) := by
  have G0 := Lib.hid (fun (W : World) (h : Below w.heap.size w W) => (h.cell (p := ⟨g, 0, none⟩) hg).trans g0)
  have G1 := Lib.hid (fun (W : World) (h : Below w.heap.size w W) => (h.cell (p := ⟨g, 1, none⟩) hg).trans g1)
  have K0 := Lib.hid (fun (W : World) (h : Below w.heap.size w W) => (h.cell (p := ⟨h0, 0, none⟩) hh).trans k0)
  have K1 := Lib.hid (fun (W : World) (h : Below w.heap.size w W) => (h.cell (p := ⟨h0, 1, none⟩) hh).trans k1)
  unfold DN DY at *
  clear g0 g1 k0 k1
  go_enter Tryz.func13, Tryz.ntmps13
  go_wp2
  go_loopw [21, 8, 9, 10, 12] (fun i b _ _ _ wr => (i = cN 0 ∧ b = cN (-1) ∧ PV w 0 (.slice none 0 0) [] wr) ∨ (i = cN 1 ∧ b = cN (-1) ∧ PV w 0 (.slice none 0 0) [] wr) ∨ (i = cN 2 ∧ b = cN 1 ∧ ∃ v, PV w S v L wr)) (fun i _ _ _ _ _ => 2 - (intOf i).toNat)
  case atStart => exact .inl ⟨rfl, rfl, PV.start w⟩
  case round =>
    rcases hrel with ⟨rfl, rfl, hV⟩ | ⟨rfl, rfl, hV⟩ | ⟨rfl, rfl, v, hV⟩
    · have q0 := G0.out _ hV.bel
      have q1 := K0.out _ hV.bel
      have HV := Lib.hid hV
      clear hV
      go_wp2_with fail
      with_reducible refine (d0 _).mono ?_
      rintro e w5 ⟨rfl, hB5⟩
      have HV5 := Lib.hid ((HV.out.below hB5).below ((Below.refl _ _).alloc (Nat.le_refl _) (.cells #[cN 0, .slice none 0 0] 24)))
      clear hB5 q0 q1
      go_wp2
      go_roundw
      case rel => exact .inr (.inl ⟨rfl, rfl, HV5.out⟩)
      case measure => simp [intOf]
    · have q0 := G1.out _ hV.bel
      have q1 := K1.out _ hV.bel
      have HV := Lib.hid hV
      clear hV
      go_wp2_with fail
      with_reducible refine (d1 _).mono ?_
      rintro e w5 ⟨⟨v5, rfl, ho5⟩, hB5⟩
      obtain ⟨a5, c5, rfl⟩ := ho5.form
      have h6 := (HV.out.below hB5).below ((Below.refl _ _).alloc (Nat.le_refl _) (.cells #[cN S, .slice a5 L.length c5] 24))
      have HV6 := Lib.hid (HV.out.take (S := S) hB5 ho5)
      have p0 := Lib.cell_of_heap h6.b7 0
      have p1 := Lib.cell_of_heap h6.b7 1
      have pf := fun j => Lib.frozen_of_heap h6.b7 j
      have hn := World.alloc_heap_new w5 (.cells #[cN S, .slice a5 L.length c5] 24)
      have n0 := Lib.cell_of_heap hn 0
      have n1 := Lib.cell_of_heap hn 1
      clear hB5 q0 q1 ho5 h6 hn
      go_wp2
      go_roundw
      case rel => exact .inr (.inr ⟨rfl, rfl, _, HV6.out⟩)
      case measure => simp [intOf]
    · obtain ⟨a9, c9, rfl⟩ := hV.own.form
      have HV := Lib.hid hV
      have p0 := Lib.cell_of_heap hV.b7 0
      have p1 := Lib.cell_of_heap hV.b7 1
      have p4 := Lib.cell_of_heap hV.b4 0
      have p5 := Lib.cell_of_heap hV.b4 1
      have pf := fun j => Lib.frozen_of_heap hV.b4 j
      clear hV
      go_wp2
      obtain ⟨z0, z1, hb, hsl⟩ := HV.out.fin
      refine bodyPost_ret (v := .tuple #[.agg #[cN S, .slice a9 L.length c9], cN 1, cN 0]) ?_ rfl ⟨⟨_, rfl, hsl⟩, hb⟩
      simp [results, Tryz.results13, go_sem, z0, z1]
set_option maxRecDepth 100000 in
set_option maxHeartbeats 4000000 in
theorem prev_first (g c h0 ch : Nat) (b0 b1 : ByteArray) (x0 x1 S : Int) (L : List Sp) (w : World) (hg : g < w.heap.size) (hh : h0 < w.heap.size) (g0 : w.cell? ⟨g, 0, none⟩ = some (.string b0)) (g1 : w.cell? ⟨g, 1, none⟩ = some (.string b1)) (k0 : w.cell? ⟨h0, 0, none⟩ = some (cN x0)) (k1 : w.cell? ⟨h0, 1, none⟩ = some (cN x1)) (d0 : DY b0 x0 S L) (d1 : DN b1 x1) :
    Calls Tryz.prog 13 #[.slice (some ⟨g, 0, none⟩) 2 c, .slice (some ⟨h0, 0, none⟩) 2 ch] w (PrevR S 0 L w) := by
  have G0 := Lib.hid (fun (W : World) (h : Below w.heap.size w W) => (h.cell (p := ⟨g, 0, none⟩) hg).trans g0)
  have G1 := Lib.hid (fun (W : World) (h : Below w.heap.size w W) => (h.cell (p := ⟨g, 1, none⟩) hg).trans g1)
  have K0 := Lib.hid (fun (W : World) (h : Below w.heap.size w W) => (h.cell (p := ⟨h0, 0, none⟩) hh).trans k0)
  have K1 := Lib.hid (fun (W : World) (h : Below w.heap.size w W) => (h.cell (p := ⟨h0, 1, none⟩) hh).trans k1)
  unfold DN DY at *
  clear g0 g1 k0 k1
  go_enter Tryz.func13, Tryz.ntmps13
  go_wp2
  go_loopw [21, 8, 9, 10, 12] (fun i b _ _ _ wr => (i = cN 0 ∧ b = cN (-1) ∧ PV w 0 (.slice none 0 0) [] wr) ∨ (i = cN 1 ∧ b = cN 0 ∧ ∃ v, PV w S v L wr) ∨ (i = cN 2 ∧ b = cN 0 ∧ ∃ v, PV w S v L wr)) (fun i _ _ _ _ _ => 2 - (intOf i).toNat)
  case atStart => exact .inl ⟨rfl, rfl, PV.start w⟩
  case round =>
    rcases hrel with ⟨rfl, rfl, hV⟩ | ⟨rfl, rfl, v, hV⟩ | ⟨rfl, rfl, v, hV⟩
    · have q0 := G0.out _ hV.bel
      have q1 := K0.out _ hV.bel
      have HV := Lib.hid hV
      clear hV
      go_wp2_with fail
      with_reducible refine (d0 _).mono ?_
      rintro e w5 ⟨⟨v5, rfl, ho5⟩, hB5⟩
      obtain ⟨a5, c5, rfl⟩ := ho5.form
      have h6 := (HV.out.below hB5).below ((Below.refl _ _).alloc (Nat.le_refl _) (.cells #[cN S, .slice a5 L.length c5] 24))
      have HV6 := Lib.hid (HV.out.take (S := S) hB5 ho5)
      have p0 := Lib.cell_of_heap h6.b7 0
      have p1 := Lib.cell_of_heap h6.b7 1
      have pf := fun j => Lib.frozen_of_heap h6.b7 j
      have hn := World.alloc_heap_new w5 (.cells #[cN S, .slice a5 L.length c5] 24)
      have n0 := Lib.cell_of_heap hn 0
      have n1 := Lib.cell_of_heap hn 1
      clear hB5 q0 q1 ho5 h6 hn
      go_wp2
      go_roundw
      case rel => exact .inr (.inl ⟨rfl, rfl, _, HV6.out⟩)
      case measure => simp [intOf]
    · obtain ⟨a8, c8, rfl⟩ := hV.own.form
      have q0 := G1.out _ hV.bel
      have q1 := K1.out _ hV.bel
      have HV := Lib.hid hV
      clear hV
      go_wp2_with fail
      with_reducible refine (d1 _).mono ?_
      rintro e w5 ⟨rfl, hB5⟩
      have HV5 := Lib.hid ((HV.out.below hB5).below ((Below.refl _ _).alloc (Nat.le_refl _) (.cells #[cN 0, .slice none 0 0] 24)))
      clear hB5 q0 q1
      go_wp2
      go_roundw
      case rel => exact .inr (.inr ⟨rfl, rfl, _, HV5.out⟩)
      case measure => simp [intOf]
    · obtain ⟨a9, c9, rfl⟩ := hV.own.form
      have HV := Lib.hid hV
      have p0 := Lib.cell_of_heap hV.b7 0
      have p1 := Lib.cell_of_heap hV.b7 1
      have p4 := Lib.cell_of_heap hV.b4 0
      have p5 := Lib.cell_of_heap hV.b4 1
      have pf := fun j => Lib.frozen_of_heap hV.b4 j
      clear hV
      go_wp2
      obtain ⟨z0, z1, hb, hsl⟩ := HV.out.fin
      refine bodyPost_ret (v := .tuple #[.agg #[cN S, .slice a9 L.length c9], cN 0, cN 0]) ?_ rfl ⟨⟨_, rfl, hsl⟩, hb⟩
      simp [results, Tryz.results13, go_sem, z0, z1]
set_option maxRecDepth 100000 in
set_option maxHeartbeats 4000000 in
theorem prev_both (g c h0 ch : Nat) (b0 b1 : ByteArray) (x0 x1 S : Int) (L : List Sp) (w : World) (hg : g < w.heap.size) (hh : h0 < w.heap.size) (g0 : w.cell? ⟨g, 0, none⟩ = some (.string b0)) (g1 : w.cell? ⟨g, 1, none⟩ = some (.string b1)) (k0 : w.cell? ⟨h0, 0, none⟩ = some (cN x0)) (k1 : w.cell? ⟨h0, 1, none⟩ = some (cN x1)) (d0 : DY b0 x0 S L) (d1 : DY b1 x1 S L) :
    Calls Tryz.prog 13 #[.slice (some ⟨g, 0, none⟩) 2 c, .slice (some ⟨h0, 0, none⟩) 2 ch] w (PrevR S 0 L w) := by
  have G0 := Lib.hid (fun (W : World) (h : Below w.heap.size w W) => (h.cell (p := ⟨g, 0, none⟩) hg).trans g0)
  have G1 := Lib.hid (fun (W : World) (h : Below w.heap.size w W) => (h.cell (p := ⟨g, 1, none⟩) hg).trans g1)
  have K0 := Lib.hid (fun (W : World) (h : Below w.heap.size w W) => (h.cell (p := ⟨h0, 0, none⟩) hh).trans k0)
  have K1 := Lib.hid (fun (W : World) (h : Below w.heap.size w W) => (h.cell (p := ⟨h0, 1, none⟩) hh).trans k1)
  unfold DN DY at *
  clear g0 g1 k0 k1
  go_enter Tryz.func13, Tryz.ntmps13
  go_wp2
  go_loopw [21, 8, 9, 10, 12] (fun i b _ _ _ wr => (i = cN 0 ∧ b = cN (-1) ∧ PV w 0 (.slice none 0 0) [] wr) ∨ (i = cN 1 ∧ b = cN 0 ∧ ∃ v, PV w S v L wr) ∨ (i = cN 2 ∧ b = cN 0 ∧ ∃ v, PV w S v L wr)) (fun i _ _ _ _ _ => 2 - (intOf i).toNat)
  case atStart => exact .inl ⟨rfl, rfl, PV.start w⟩
  case round =>
    rcases hrel with ⟨rfl, rfl, hV⟩ | ⟨rfl, rfl, v, hV⟩ | ⟨rfl, rfl, v, hV⟩
    · have q0 := G0.out _ hV.bel
      have q1 := K0.out _ hV.bel
      have HV := Lib.hid hV
      clear hV
      go_wp2_with fail
      with_reducible refine (d0 _).mono ?_
      rintro e w5 ⟨⟨v5, rfl, ho5⟩, hB5⟩
      obtain ⟨a5, c5, rfl⟩ := ho5.form
      have h6 := (HV.out.below hB5).below ((Below.refl _ _).alloc (Nat.le_refl _) (.cells #[cN S, .slice a5 L.length c5] 24))
      have HV6 := Lib.hid (HV.out.take (S := S) hB5 ho5)
      have p0 := Lib.cell_of_heap h6.b7 0
      have p1 := Lib.cell_of_heap h6.b7 1
      have pf := fun j => Lib.frozen_of_heap h6.b7 j
      have hn := World.alloc_heap_new w5 (.cells #[cN S, .slice a5 L.length c5] 24)
      have n0 := Lib.cell_of_heap hn 0
      have n1 := Lib.cell_of_heap hn 1
      clear hB5 q0 q1 ho5 h6 hn
      go_wp2
      go_roundw
      case rel => exact .inr (.inl ⟨rfl, rfl, _, HV6.out⟩)
      case measure => simp [intOf]
    · obtain ⟨a8, c8, rfl⟩ := hV.own.form
      have q0 := G1.out _ hV.bel
      have q1 := K1.out _ hV.bel
      have HV := Lib.hid hV
      clear hV
      go_wp2_with fail
      with_reducible refine (d1 _).mono ?_
      rintro e w5 ⟨⟨v5, rfl, ho5⟩, hB5⟩
      obtain ⟨a5, c5, rfl⟩ := ho5.form
      have HV5 := Lib.hid ((HV.out.below hB5).below ((Below.refl _ _).alloc (Nat.le_refl _) (.cells #[cN S, .slice a5 L.length c5] 24)))
      have p0 := Lib.cell_of_heap HV5.out.b7 0
      have hn := World.alloc_heap_new w5 (.cells #[cN S, .slice a5 L.length c5] 24)
      have n0 := Lib.cell_of_heap hn 0
      clear hB5 q0 q1 ho5 hn
      go_wp2
      go_roundw
      case rel => exact .inr (.inr ⟨rfl, rfl, _, HV5.out⟩)
      case measure => simp [intOf]
    · obtain ⟨a9, c9, rfl⟩ := hV.own.form
      have HV := Lib.hid hV
      have p0 := Lib.cell_of_heap hV.b7 0
      have p1 := Lib.cell_of_heap hV.b7 1
      have p4 := Lib.cell_of_heap hV.b4 0
      have p5 := Lib.cell_of_heap hV.b4 1
      have pf := fun j => Lib.frozen_of_heap hV.b4 j
      clear hV
      go_wp2
      obtain ⟨z0, z1, hb, hsl⟩ := HV.out.fin
      refine bodyPost_ret (v := .tuple #[.agg #[cN S, .slice a9 L.length c9], cN 0, cN 0]) ?_ rfl ⟨⟨_, rfl, hsl⟩, hb⟩
      simp [results, Tryz.results13, go_sem, z0, z1]
end Go.Proofs.YtocncjimepnlcaaGreatDoor
