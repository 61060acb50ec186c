/- The law SparingSurvives: what is needed on the road where the packet is replaced. -/
import Derived.Test.YtocncjimepnlcaaGreatDoorDzi
import Derived.Test.YtocncjimepnlcaaGreatDoorDzh
namespace Go.Proofs.YtocncjimepnlcaaGreatDoor
set_option linter.unusedSimpArgs false
set_option linter.unusedVariables false
open Go Go.RowKit
/-- Two writes, read. -/
structure W2C (W : World) (b off g0 g1 : Nat) (k0 k1 : Int) (B0 B1 : ByteArray) : Prop where
  lb : b < W.heap.size
  l0 : g0 < W.heap.size
  l1 : g1 < W.heap.size
  c0 : W.cell? ⟨b, off, none⟩ = some (cN k0)
  c1 : W.cell? ⟨b, off + 1, none⟩ = some (.slice (some ⟨g0, 0, none⟩) 1 1)
  c2 : W.cell? ⟨b, off + 2, none⟩ = some (.bool true)
  c4 : W.cell? ⟨b, off + 4, none⟩ = some (cN k1)
  c5 : W.cell? ⟨b, off + 5, none⟩ = some (.slice (some ⟨g1, 0, none⟩) 1 1)
  c6 : W.cell? ⟨b, off + 6, none⟩ = some (.bool true)
  s0 : W.cell? ⟨g0, 0, none⟩ = some (.string B0)
  s1 : W.cell? ⟨g1, 0, none⟩ = some (.string B1)
theorem W2C.below {W W' : World} {b off g0 g1 : Nat} {k0 k1 : Int} {B0 B1 : ByteArray} (h : W2C W b off g0 g1 k0 k1 B0 B1) (k : Below W.heap.size W W') : W2C W' b off g0 g1 k0 k1 B0 B1 := by
  have hs := k.size
  exact ⟨by have := h.lb; omega, by have := h.l0; omega, by have := h.l1; omega, (k.cell (p := ⟨b, off, none⟩) h.lb).trans h.c0, (k.cell (p := ⟨b, off + 1, none⟩) h.lb).trans h.c1, (k.cell (p := ⟨b, off + 2, none⟩) h.lb).trans h.c2, (k.cell (p := ⟨b, off + 4, none⟩) h.lb).trans h.c4, (k.cell (p := ⟨b, off + 5, none⟩) h.lb).trans h.c5, (k.cell (p := ⟨b, off + 6, none⟩) h.lb).trans h.c6, (k.cell (p := ⟨g0, 0, none⟩) h.l0).trans h.s0, (k.cell (p := ⟨g1, 0, none⟩) h.l1).trans h.s1⟩
theorem WR.two {W : World} {v : Value} {k0 k1 : Int} {B0 B1 : ByteArray} (h : WR W v [(k0, B0), (k1, B1)]) : ∃ b off c g0 g1, v = .slice (some ⟨b, off, none⟩) 2 c ∧ 2 ≤ c ∧ W2C W b off g0 g1 k0 k1 B0 B1 := by
  obtain ⟨a, c, rfl, hr⟩ := h
  obtain ⟨b, off, g0, rfl, hc, hb, hg, p0, p1, p2, p3, p4⟩ := hr 0 _ rfl
  obtain ⟨b', off', g1, e, -, -, hg1, q0, q1, q2, q3, q4⟩ := hr 1 _ rfl
  injection e with e
  injection e with e1 e2 e3
  subst e1 e2
  exact ⟨b, off, c, g0, g1, rfl, hc, hb, hg, hg1, by simpa using p0, by simpa using p1, by simpa using p2, by simpa using q0, by simpa [Nat.add_assoc] using q1, by simpa [Nat.add_assoc] using q2, p4, q4⟩
theorem upd_two {s : Int} {l : List Sp} {n0 n1 : Nat} (hv : validB s l = true) (h0 : n0 < 65536) (h1 : n1 < 65536) : updE s l [(n0 : Int), (n1 : Int)] = 0 ∧ updL s l [(n0 : Int), (n1 : Int)] = [((n0 : Int), blockB n0 (bodyB s.toNat l)), ((n1 : Int), blockB n1 (bodyB s.toNat l))] := by
  have w0 : wordB (n0 : Int) = true := by simp only [wordB, decide_eq_true_eq]; omega
  have w1 : wordB (n1 : Int) = true := by simp only [wordB, decide_eq_true_eq]; omega
  have hE : updE s l [(n0 : Int), (n1 : Int)] = 0 := by
    rw [updE, if_neg (by rw [hv]; decide), if_pos (by simp [w0, w1])]
  refine ⟨hE, ?_⟩
  rw [updL, hE, if_pos rfl]
  simp [encS, hv, w0, w1]
/-- The list of blocks. -/
def BK (wB : World) (g : Nat) (b0 b1 : ByteArray) (W : World) : Prop := ∃ cur : Array Value, W.heap[g]? = some (.cells cur 9 (0, 0)) ∧ cur[0]? = some (.string b0) ∧ cur[1]? = some (.string b1) ∧ wB.heap.size ≤ g ∧ Below wB.heap.size wB W
theorem BK.bel {wB : World} {g : Nat} {b0 b1 : ByteArray} {W : World} (h : BK wB g b0 b1 W) : Below wB.heap.size wB W := by obtain ⟨_, _, _, _, _, h⟩ := h; exact h
theorem BK.lt {wB : World} {g : Nat} {b0 b1 : ByteArray} {W : World} (h : BK wB g b0 b1 W) : g < W.heap.size := by obtain ⟨_, h, _⟩ := h; exact lt_of_block h
theorem BK.cells {wB : World} {g : Nat} {b0 b1 : ByteArray} {W : World} (h : BK wB g b0 b1 W) : W.cell? ⟨g, 0, none⟩ = some (.string b0) ∧ W.cell? ⟨g, 1, none⟩ = some (.string b1) ∧ ∀ j, W.frozen? ⟨g, j, none⟩ = false := by
  obtain ⟨cur, h0, h1, h2, -⟩ := h
  exact ⟨by rw [Lib.cell_of_heap h0, h1], by rw [Lib.cell_of_heap h0, h2], fun j => Lib.frozen_of_heap h0 j⟩
theorem BK.below {wB : World} {g : Nat} {b0 b1 : ByteArray} {W W' : World} (h : BK wB g b0 b1 W) (k : Below W.heap.size W W') : BK wB g b0 b1 W' := by
  obtain ⟨cur, h0, h1, h2, h3, h4⟩ := h
  exact ⟨cur, (k.block _ (lt_of_block h0)).trans h0, h1, h2, h3, bthen h4 k⟩
theorem BK.put0 {wB : World} {g : Nat} {b0 b1 : ByteArray} {W : World} (h : BK wB g b0 b1 W) (b : ByteArray) : BK wB g b b1 (W.setCell ⟨g, 0, none⟩ (.string b)) := by
  obtain ⟨cur, h0, h1, h2, h3, h4⟩ := h
  have hl : 0 < cur.size := (Array.getElem?_eq_some_iff.1 h1).1
  refine ⟨_, row_set 0 (.string b) h0, ?_, ?_, h3, h4.setCell (p := ⟨g, 0, none⟩) (by simp only; omega) _⟩
  · simp [hl]
  · rw [Array.getElem?_setIfInBounds_ne (by decide)]; exact h2
theorem BK.put1 {wB : World} {g : Nat} {b0 b1 : ByteArray} {W : World} (h : BK wB g b0 b1 W) (b : ByteArray) : BK wB g b0 b (W.setCell ⟨g, 1, none⟩ (.string b)) := by
  obtain ⟨cur, h0, h1, h2, h3, h4⟩ := h
  have hl : 1 < cur.size := (Array.getElem?_eq_some_iff.1 h2).1
  refine ⟨_, row_set 1 (.string b) h0, ?_, ?_, h3, h4.setCell (p := ⟨g, 1, none⟩) (by simp only; omega) _⟩
  · rw [Array.getElem?_setIfInBounds_ne (by decide)]; exact h1
  · simp [hl]
theorem BK.start {wB W : World} {v : Value} {b0 b1 : ByteArray} (h : W.ownsRow wB.heap.size 9 1 v 2 [.string b0, .string b1]) (k : Below wB.heap.size wB W) : ∃ g cap, v = .slice (some ⟨g, 0, none⟩) 2 cap ∧ 2 ≤ cap ∧ BK wB g b0 b1 W := by
  rcases h.2 with ⟨-, hn⟩ | ⟨g, cap, cur, rfl, hb, hg, hnc, hcm, hcs, htake⟩
  · exact absurd hn (by decide)
  · have e0 : cur.toList[0]? = some (.string b0) := by
      rw [← List.getElem?_take_of_lt (show 0 < 2 * 1 by decide), htake]; rfl
    have e1 : cur.toList[1]? = some (.string b1) := by
      rw [← List.getElem?_take_of_lt (show 1 < 2 * 1 by decide), htake]; rfl
    rw [Array.getElem?_toList] at e0 e1
    exact ⟨g, cap, rfl, hnc, cur, hg, e0, e1, hb, k⟩
theorem strInfo : (Tryz.prog.info? 9).map (fun i => (i.zero, i.size, i.bytes)) = some (some (.string ByteArray.empty), 1, 16) := by kernel_rfl
theorem bang_dn (k : Int) : DN ⟨#[33]⟩ k := fun W => dec_short ⟨#[33]⟩ k W (by decide)
theorem block_dy {s : Int} {n : Nat} {l : List Sp} (hv : validB s l = true) (h : n < 65536) : DY (blockB n (bodyB s.toNat l)) n s l := fun W => dec_own s n l W hv (by omega)
end Go.Proofs.YtocncjimepnlcaaGreatDoor
