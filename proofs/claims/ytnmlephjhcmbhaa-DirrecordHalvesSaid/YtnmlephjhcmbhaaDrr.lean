/- What both Differs give; lists of numbers, compared; the example. -/
import Derived.Test.YtnmlephjhcmbhaaDrq
import Derived.Test.YtnmlephjhcmbhaaShelf
namespace Go.Proofs.Ytnmlephjhcmbhaa
set_option linter.unusedSimpArgs false
set_option linter.unusedVariables false
open Go Go.RowKit
/-- A slice of numbers of the call's own. -/
def IL (w : World) (l : List Nat) (v : Value) (W : World) : Prop := W.ownsRow w.heap.size 3 1 v l.length (ints l) ∧ Below w.heap.size w W
theorem own_base {W : World} {base b' n : Nat} {v : Value} {xs : List Value} {e : TypeId} (h : W.ownsRow base e 1 v n xs) (hb : b' ≤ base) : W.ownsRow b' e 1 v n xs := by
  refine ⟨h.1, ?_⟩
  rcases h.2 with hn | ⟨g, cap, cur, rfl, hbg, rest⟩
  · exact .inl hn
  · exact .inr ⟨g, cap, cur, rfl, Nat.le_trans hb hbg, rest⟩
theorem IL.below {w : World} {l : List Nat} {v : Value} {W W' : World} (h : IL w l v W) (b : Below W.heap.size W W') : IL w l v W' := ⟨own_keep h.1 b, h.2.trans (b.mono h.2.size)⟩
theorem IL.behind {w W0 : World} {l : List Nat} {v : Value} {W : World} (h : Below w.heap.size w W0) (k : IL W0 l v W) : IL w l v W := ⟨own_base k.1 h.size, bthen h k.2⟩
theorem IL.nil (w : World) : IL w [] (.slice none 0 0) w := ⟨⟨by simp [ints], .inl ⟨rfl, rfl⟩⟩, Below.refl _ _⟩
/-- A block of numbers, made just now. -/
theorem IL.mk {w : World} {W : World} (l : List Nat) (cs : Array Value) (n : Nat) (hcs : cs = (ints l).toArray) (hn : n = l.length) (hB : Below w.heap.size w W) (hm : n ≤ maxLen) : IL w l (.slice (some ⟨W.heap.size, 0, none⟩) n n) (W.alloc (.cells cs 3)) := by
  subst hcs hn
  refine ⟨⟨by simp [ints], .inr ⟨W.heap.size, l.length, (ints l).toArray, rfl, hB.size, World.alloc_heap_new _ _, Nat.le_refl _, hm, by simp [ints], (by rw [List.toList_toArray, Nat.mul_one]; exact List.take_of_length_le (by simp [ints]))⟩⟩, hB.alloc hB.size _⟩
theorem own_form {b : Nat} {l : List Nat} {v : Value} {W : World} (h : W.ownsRow b 3 1 v l.length (ints l)) : ∃ a c, v = .slice a l.length c := by
  rcases h.2 with ⟨rfl, h0⟩ | ⟨g, cap, cur, rfl, _⟩
  · exact ⟨none, 0, by rw [h0]⟩
  · exact ⟨_, _, rfl⟩
theorem own_cells {b : Nat} {l : List Nat} {v : Value} {W : World} (h : W.ownsRow b 3 1 v l.length (ints l)) (hl : l ≠ []) : ∃ g c, v = .slice (some ⟨g, 0, none⟩) l.length c ∧ ∀ j, j < l.length → W.cell? ⟨g, 0 + j, none⟩ = some (cN ((l.getD j 0 : Nat) : Int)) := by
  rcases h.2 with ⟨rfl, h0⟩ | ⟨g, cap, cur, rfl, hb, hg, h1, h2, h3, h4⟩
  · exact absurd (List.eq_nil_of_length_eq_zero h0) hl
  · refine ⟨g, cap, rfl, fun j hj => ?_⟩
    rw [Nat.zero_add, Lib.cell_of_heap hg, ← Array.getElem?_toList]
    have : (cur.toList.take (l.length * 1))[j]? = (ints l)[j]? := by rw [h4]
    rw [List.getElem?_take_of_lt (by omega)] at this
    rw [this]
    simp [ints, hj, List.getD]
def toI (l : List Nat) : List Int := l.map fun n : Nat => (n : Int)
theorem toI_getD (l : List Nat) (j : Nat) (h : j < l.length) : (toI l).getD j 0 = ((l.getD j 0 : Nat) : Int) := by simp [toI, h, List.getD]
theorem toI_beq (l m : List Nat) : (toI l == toI m) = (l == m) := by
  rw [Bool.eq_iff_iff, beq_iff_eq, beq_iff_eq]
  constructor
  · intro h
    have := congrArg (List.map Int.toNat) h
    simpa [toI, List.map_map, Function.comp_def] using this
  · rintro rfl; rfl
/-- slices.Equal of two lists of numbers. -/
theorem equal_own {b1 b2 : Nat} {l m : List Nat} {v u : Value} {W : World} (h1 : W.ownsRow b1 3 1 v l.length (ints l)) (h2 : W.ownsRow b2 3 1 u m.length (ints m)) (hl : l.length ≤ maxLen) (hm : m.length ≤ maxLen) :
    Calls Try.prog 25 #[v, u] W fun e w' => e = .returned (.bool (l == m)) ∧ Below W.heap.size W w' := by
  unfold maxLen at hl hm
  by_cases hlm : l.length = m.length
  · by_cases hl0 : l = []
    · subst hl0
      have hm0 : m = [] := List.eq_nil_of_length_eq_zero (by simpa using hlm.symm)
      subst hm0
      obtain ⟨a, c, rfl⟩ := own_form h1
      obtain ⟨a', c', rfl⟩ := own_form h2
      refine (Try.slices_Equal_int_empty a a' c 0 c' W (by decide)).mono ?_
      rintro e w' ⟨rfl, rfl⟩
      exact ⟨rfl, Below.refl _ _⟩
    · have hm0 : m ≠ [] := fun h => hl0 (List.eq_nil_of_length_eq_zero (by rw [hlm, h]; rfl))
      obtain ⟨g, c, rfl, hc⟩ := own_cells h1 hl0
      obtain ⟨g', c', rfl, hc'⟩ := own_cells h2 hm0
      refine (Try.slices_Equal_int g 0 l.length c g' 0 m.length c' (toI l) (toI m) W (by simp [toI]) (by simp [toI]) hl hm (fun j hj => ?_) (fun j hj => ?_)).mono ?_
      · rw [toI, List.length_map] at hj
        rw [hc j hj, toI_getD l j hj]
      · rw [toI, List.length_map] at hj
        rw [hc' j hj, toI_getD m j hj]
      · rintro e w' ⟨rfl, q, rfl⟩
        refine ⟨?_, below_drewN (Below.refl _ _) q⟩
        rw [List.take_of_length_le (by simp [toI]), List.take_of_length_le (by simp [toI]), toI_beq]
  · obtain ⟨a, c, rfl⟩ := own_form h1
    obtain ⟨a', c', rfl⟩ := own_form h2
    refine (Try.slices_Equal_int_lens a a' l.length c m.length c' W hlm).mono ?_
    rintro e w' ⟨rfl, rfl⟩
    have : (l == m) = false := by
      rw [beq_eq_false_iff_ne]
      rintro rfl
      exact hlm rfl
    rw [this]
    exact ⟨rfl, Below.refl _ _⟩
theorem equal_ok {w1 w2 : World} {l m : List Nat} {v u : Value} {W : World} (h1 : IL w1 l v W) (h2 : IL w2 m u W) (hl : l.length ≤ maxLen) (hm : m.length ≤ maxLen) :
    Calls Try.prog 25 #[v, u] W fun e w' => e = .returned (.bool (l == m)) ∧ Below W.heap.size W w' := equal_own h1.1 h2.1 hl hm
theorem differ_ok (s : ByteArray) (w : World) (hs61 : s.size < 2 ^ 61) : Calls Try.prog 26 #[.string s] w fun e w' => ∃ v, e = .returned v ∧ IL w (difM s) v w' := by
  unfold difM
  by_cases h : s.size < 34
  · rw [if_pos h]
    refine (differ_short s w (by omega)).mono ?_
    rintro e w' ⟨rfl, rfl⟩
    exact ⟨_, rfl, IL.nil w⟩
  · rw [if_neg h]
    refine (differ_long s w (by omega) hs61).mono ?_
    rintro e w' ⟨v, rfl, H⟩
    exact ⟨v, rfl, own_base H.1 (Nat.le_succ _), H.2.2⟩
theorem rdiffer_ok (s : ByteArray) (w : World) (hs61 : s.size < 2 ^ 61) : Calls Try.prog 27 #[.string s] w fun e w' => ∃ v, e = .returned v ∧ IL w (difM s) v w' := by
  unfold difM
  by_cases h : s.size < 34
  · rw [if_pos h]
    refine (rdiffer_short s w (by omega)).mono ?_
    rintro e w' ⟨rfl, rfl⟩
    exact ⟨_, rfl, IL.nil w⟩
  · rw [if_neg h]
    refine (rdiffer_long s w (by omega) hs61).mono ?_
    rintro e w' ⟨v, rfl, H⟩
    exact ⟨v, rfl, H⟩
theorem difM_len (s : ByteArray) : (difM s).length ≤ 3 := by
  unfold difM
  split
  · simp
  · exact dl_len s 3
def exR : Rec := ⟨⟨#[65, 46, 59, 49]⟩, 20, 5, 1794845045, 60, 0, 1, ByteArray.empty⟩
set_option maxRecDepth 100000 in
set_option maxHeartbeats 400000 in
theorem example_ok (w : World) : Calls Try.prog 28 #[] w fun e w' => e = .returned (.agg (recA exR)) ∧ Below w.heap.size w w' := by
  go_enter Try.func28, Try.ntmps28
  go_wp2
  obtain ⟨q0, q1, q2, q3, q4, q5, q6, q7⟩ := cells8 (World.alloc_heap_new w (.cells (recA exR) 23))
  refine bodyPost_ret (v := .agg (recA exR)) ?_ rfl ⟨rfl, (Below.refl _ w).alloc (Nat.le_refl _) _⟩
  simp [results, Try.results28, go_sem, q0, q1, q2, q3, q4, q5, q6, q7]
  exact ⟨rfl, rfl, rfl, rfl, rfl, rfl, rfl, rfl⟩
end Go.Proofs.Ytnmlephjhcmbhaa
