/- pathtable.Path. -/
import Derived.Test.YtnmlephjhcmbhaaPpa
import Derived.Test.YtnmlephjhcmbhaaDkl
namespace Go.Proofs.Ytnmlephjhcmbhaa
set_option linter.unusedSimpArgs false
set_option linter.unusedVariables false
open Go Go.RowKit
def strB (l : List ByteArray) : List Value := l.map fun s => .string s
theorem strB_len (l : List ByteArray) : (strB l).length = l.length := by simp [strB]
theorem strB_snoc (l : List ByteArray) (s : ByteArray) : strB (l ++ [s]) = strB l ++ [.string s] := by simp [strB]
/-- The identifiers on the way up. -/
def upL (l : List PE) : Nat → Nat → Option (List ByteArray)
  | 0, _ => some []
  | f + 1, n =>
    if n ≤ 1 then some []
    else if (l.getD (n - 1) peD).par < 1 ∨ (n : Int) ≤ (l.getD (n - 1) peD).par then none
    else (upL l f (l.getD (n - 1) peD).par.toNat).map ((l.getD (n - 1) peD).id :: ·)
theorem upL_one (l : List PE) (f n : Nat) (h : n ≤ 1) : upL l f n = some [] := by
  cases f with
  | zero => rfl
  | succ f => rw [upL, if_pos h]
def resP : Option (List ByteArray) → List ByteArray × Int
  | none => ([], 13)
  | some u => (u.reverse, 0)
def pathR (l : List PE) (num : Int) : List ByteArray × Int :=
  if num < 1 ∨ (l.length : Int) < num then ([], 2) else resP (upL l num.toNat num.toNat)
def PathEnd (w : World) (r : List ByteArray × Int) (e : Ending) (w' : World) : Prop := ∃ v, e = .returned (.tuple #[v, cN r.2]) ∧ w'.ownsRow w.heap.size 9 1 v r.1.length (strB r.1) ∧ Below w.heap.size w w'
theorem PathEnd.bad {w w' : World} {r : List ByteArray × Int} {z : Int} (h : r = ([], z)) (hB : Below w.heap.size w w') : PathEnd w r (.returned (.tuple #[.slice none 0 0, cN z])) w' := by
  subst h
  exact ⟨_, rfl, ⟨rfl, .inl ⟨rfl, rfl⟩⟩, hB⟩
theorem strs_rev (U : List ByteArray) : (Lib.strsOf (fun i => U.getD i ByteArray.empty) U.length).reverse.map Go.Proofs.encStr = strB U.reverse := by
  have e : Lib.strsOf (fun i => U.getD i ByteArray.empty) U.length = U.map fun s => s.data.toList := by
    apply List.ext_getElem
    · simp [Lib.strsOf]
    · intro i h1 h2
      simp at h2
      simp [Lib.strsOf, List.getD_eq_getElem?_getD, h2]
  rw [e, ← List.map_reverse, List.map_map]
  unfold strB
  apply List.map_congr_left
  intro s _
  simp [Go.Proofs.encStr]
/-- slices.Reverse of a row of strings of the call's own. -/
theorem rev_ok {B : Nat} (U : List ByteArray) {v : Value} {W : World} (h : W.ownsRow B 9 1 v U.length (strB U)) (hl : U.length ≤ 2000) :
    Calls Try.prog 80 #[v] W fun e w' => e = .returned (.tuple #[]) ∧ w'.ownsRow B 9 1 v U.length (strB U.reverse) ∧ W.grownBy w' v.ownBlock := by
  rcases h.2 with ⟨rfl, h0⟩ | ⟨g, cap, cur, rfl, hb, hg, h1, h2, h3, h4⟩
  · have hU : U = [] := List.eq_nil_of_length_eq_zero h0
    subst hU
    refine (Try.slices_Reverse_string_empty none 0 W).mono ?_
    rintro e w' ⟨rfl, rfl⟩
    exact ⟨rfl, ⟨rfl, .inl ⟨rfl, rfl⟩⟩, ⟨rfl, rfl, rfl, Nat.le_refl _, fun _ _ _ => rfl⟩⟩
  · have hcell : ∀ i, i < U.length → W.cell? ⟨g, 0 + i, none⟩ = some (.string ((fun i => U.getD i ByteArray.empty) i)) := fun i hi => by
      rw [Nat.zero_add, World.ownsRow.cellAt h i (by omega)]
      simp [strB, List.getD_eq_getElem?_getD, hi]
    refine (Try.slices_Reverse_string_cells g 0 U.length cap (fun i => U.getD i ByteArray.empty) W (by omega) hcell (fun j _ => Lib.frozen_of_heap hg _)).mono ?_
    rintro e w' ⟨rfl, q, rfl⟩
    have hgq : (W.drewN q).heap[g]? = some (.cells cur 9 (0, 0)) := hg
    have hlen : (strB U.reverse).length = U.length := by rw [strB_len, List.length_reverse]
    have hone : ∀ u ∈ strB U.reverse, u.oneCell' = true := fun u hu => by
      obtain ⟨s, -, rfl⟩ := List.mem_map.1 hu
      rfl
    have hsz : U.length ≤ cur.size := by rw [h3]; omega
    have r1 := run_storeCells_at Try.prog g 0 9 (strB U.reverse) 0 _ (W.drewN q) hgq (by rw [hlen]; simpa using hsz) hone
    have r2 := run_storeCells_cells (P := Try.prog) g 0 (strB U.reverse) 0 (W.drewN q) (fun j hj => by
      rw [Lib.cell_of_heap hgq]
      rw [hlen] at hj
      simp
      omega) (fun j hj => Lib.frozen_of_heap hgq _) hone
    rw [r1] at r2
    simp only [Result.ok.injEq, true_and] at r2
    rw [strs_rev]
    have hw : ((W.drewN q).setCells g 0 (strB U.reverse)) = _ := r2.symm
    rw [hw]
    refine ⟨rfl, ⟨by rw [hlen]; simp, .inr ⟨g, cap, _, rfl, hb, setRow_heap _ g _ _ 9 _ hgq, h1, h2, ?_, ?_⟩⟩, ?_⟩
    · simp [hlen, h3]
      omega
    · simp [hlen]
    · refine ⟨rfl, rfl, rfl, by simp [World.setRow, World.drewN], fun k hk hne => ?_⟩
      refine (setRow_other _ g k _ (fun e => hne (by rw [e]; rfl))).trans rfl
end Go.Proofs.Ytnmlephjhcmbhaa
