/- sparing.Replace at a block out of range; the reference's before and insert. -/
import Derived.Test.YtocncjimepnlcaaGreatDoorSpi
import Derived.Test.YtocncjimepnlcaaGreatDoorCmf
namespace Go.Proofs.YtocncjimepnlcaaGreatDoor
set_option linter.unusedSimpArgs false
set_option linter.unusedVariables false
open Go Go.RowKit
set_option maxRecDepth 100000 in
set_option maxHeartbeats 1000000 in
theorem replace_far (s block : Int) (v : Value) (l : List Sp) (w : World) (h : SL w v l) (hv : validB s l = true) (hf : block < 0 ∨ (0 ≤ block ∧ 4294967279 < block)) :
    Calls Tryz.prog 11 #[.agg #[cN s, v], cN block] w fun e w' => e = .returned (.tuple #[.agg #[cN 0, .slice none 0 0], cN 0, cN 2]) ∧ Below w.heap.size w w' := by
  obtain ⟨a, c, rfl⟩ := h.form
  have c1 := fun (W : World) (k : Below w.heap.size w W) => valid_ok s _ l W (h.below k)
  rw [hv] at c1
  clear h hv
  rcases hf with hf | ⟨hf0, hf⟩
  all_goals
    go_enter Tryz.func11, Tryz.ntmps11
    go_wp2_with (go_at_call 10; (with_reducible refine (c1 _ (bal (bal (Below.refl _ w) _) _)).mono ?_); rintro e w1 ⟨rfl, hB1⟩; have E1 : ((w.alloc (.cells #[cN s, .slice a l.length c] 24)).alloc (.cells #[cN 0, .slice none 0 0] 24)).heap[w.heap.size + 1]? = some (.cells #[cN 0, .slice none 0 0] 24 (0, 0)) := (by { have := World.alloc_heap_new (w.alloc (.cells #[cN s, .slice a l.length c] 24)) (.cells #[.int .i64 0, .slice none 0 0] 24); rwa [World.size_alloc] at this }); have HB1 := Lib.hid (bthen (bal (bal (Below.refl _ w) _) _) hB1); have F1 := (hB1.block _ (lt_of_block E1)).trans E1; clear hB1 E1 c1; have HF1 := Lib.hid F1; have p0 := Lib.cell_of_heap F1 0; have p1 := Lib.cell_of_heap F1 1; have pf := (fun j => Lib.frozen_of_heap F1 j); clear F1)
    have h1 := row_set 0 (.int .i64 0) HF1.out
    have h2 := row_set 1 (.slice none 0 0) h1
    have q0 := Lib.cell_of_heap h2 0
    have q1 := Lib.cell_of_heap h2 1
    refine bodyPost_ret (v := .tuple #[.agg #[cN 0, .slice none 0 0], cN 0, cN 2]) ?_ rfl ⟨rfl, (HB1.out.setCell (p := ⟨w.heap.size + 1, 0, none⟩) (by simp only; omega) _).setCell (p := ⟨w.heap.size + 1, 1, none⟩) (by simp only; omega) _⟩
    simp [results, Tryz.results11, go_sem, q0, q1]
/-- The order of entries. -/
def befB (x y : Sp) : Bool := decide (x.1 < y.1) || (x.1 == y.1 && decide (x.2 < y.2))
def insM (x : Sp) : List Sp → List Sp
  | [] => [x]
  | y :: l => if befB x y = true then x :: y :: l else y :: insM x l
/-- What insert has put out at an index. -/
def insK (x : Sp) (l : List Sp) : List Sp := if l.any (befB x) = true then insM x l else l
theorem insM_snoc (x y : Sp) : ∀ l : List Sp, l.any (befB x) = true → insM x (l ++ [y]) = insM x l ++ [y]
  | [], h => by simp at h
  | z :: l, h => by
    rw [List.cons_append, insM, insM]
    by_cases hz : befB x z = true
    · rw [if_pos hz, if_pos hz]; rfl
    · rw [if_neg hz, if_neg hz, insM_snoc x y l (by simpa [hz] using h)]; rfl
theorem insM_here (x y : Sp) (hy : befB x y = true) : ∀ l : List Sp, l.any (befB x) = false → insM x (l ++ [y]) = l ++ [x, y]
  | [], _ => by simp [insM, hy]
  | z :: l, h => by
    rw [List.any_cons, Bool.or_eq_false_iff] at h
    rw [List.cons_append, insM, if_neg (by rw [h.1]; decide), insM_here x y hy l h.2]; rfl
theorem insM_none (x : Sp) : ∀ l : List Sp, l.any (befB x) = false → insM x l = l ++ [x]
  | [], _ => rfl
  | z :: l, h => by
    rw [List.any_cons, Bool.or_eq_false_iff] at h
    rw [insM, if_neg (by rw [h.1]; decide), insM_none x l h.2]; rfl
theorem insK_done (x y : Sp) (l : List Sp) (h : l.any (befB x) = true) : insK x (l ++ [y]) = insK x l ++ [y] := by
  unfold insK
  rw [if_pos h, if_pos (by rw [List.any_append, h]; rfl), insM_snoc x y l h]
theorem insK_here (x y : Sp) (l : List Sp) (h : l.any (befB x) = false) (hy : befB x y = true) : insK x (l ++ [y]) = insK x l ++ [x, y] := by
  unfold insK
  rw [if_pos (show (l ++ [y]).any (befB x) = true by simp [hy]), if_neg (show ¬ l.any (befB x) = true by rw [h]; decide), insM_here x y hy l h]
theorem insK_past (x y : Sp) (l : List Sp) (h : l.any (befB x) = false) (hy : befB x y = false) : insK x (l ++ [y]) = insK x l ++ [y] := by
  unfold insK
  rw [if_neg (show ¬ (l ++ [y]).any (befB x) = true by rw [List.any_append, h]; simp [hy]), if_neg (show ¬ l.any (befB x) = true by rw [h]; decide)]
theorem insM_len (x : Sp) : ∀ l : List Sp, (insM x l).length = l.length + 1
  | [] => rfl
  | y :: l => by
    rw [insM]
    split
    · rfl
    · rw [List.length_cons, insM_len x l, List.length_cons]
theorem insK_len (x : Sp) (l : List Sp) : (insK x l).length ≤ l.length + 1 := by
  unfold insK
  split
  · rw [insM_len]; exact Nat.le_refl _
  · omega
theorem OW.app {w W W2 : World} {base : Nat} {v v' : Value} {l : List Sp} {a b : Int} (h : OW base v l W) (hbase : w.heap.size ≤ base) (hB : Below w.heap.size w W) (hown : W2.ownsRow base 54 2 v' (l.length + 1) (flat l ++ [cN a, cN b]))
    (hg : (W.alloc (.cells #[cN a, cN b] 54)).grownBy W2 v.ownBlock) : OW base v' (l ++ [(a, b)]) W2 ∧ Below w.heap.size w W2 ∧ ∀ g o, g < base → W.heap[g]? = some o → W2.heap[g]? = some o := by
  have old : ∀ g o, g < base → W.heap[g]? = some o → W2.heap[g]? = some o := fun g o hlt ho => by
    have hl := lt_of_block ho
    rw [hg.block g (by simp; omega) (own_ne h hlt), Lib.alloc_old _ _ _ hl]
    exact ho
  have hO : OW base v' (l ++ [(a, b)]) W2 := by
    have e1 : (l ++ [(a, b)]).length = l.length + 1 := by simp
    have e2 : flat (l ++ [(a, b)]) = flat l ++ [cN a, cN b] := by rw [flat_append]; rfl
    unfold OW
    rw [e1, e2]
    exact hown
  exact ⟨hO, (bal hB _).grown hg (by have := hB.size; simp; omega) (fun g hk => by have := (h.lt g hk).1; omega), old⟩
/-- The state of insert at an index. -/
structure IS (w : World) (x0 x1 : Int) (v : Value) (m : List Sp) (W : World) : Prop where
  b0 : W.heap[w.heap.size]? = some (.cells #[cN x0, cN x1] 54 (0, 0))
  own : OW (w.heap.size + 1) v m W
  bel : Below w.heap.size w W
theorem IS.below {w : World} {x0 x1 : Int} {v : Value} {m : List Sp} {W W' : World} (h : IS w x0 x1 v m W) (k : Below W.heap.size W W') : IS w x0 x1 v m W' := ⟨(k.block _ (lt_of_block h.b0)).trans h.b0, h.own.keep k, bthen h.bel k⟩
theorem IS.app {w : World} {x0 x1 : Int} {v v' : Value} {m : List Sp} {W W2 : World} {a b : Int} (h : IS w x0 x1 v m W) (hown : W2.ownsRow (w.heap.size + 1) 54 2 v' (m.length + 1) (flat m ++ [cN a, cN b]))
    (hg : (W.alloc (.cells #[cN a, cN b] 54)).grownBy W2 v.ownBlock) : IS w x0 x1 v' (m ++ [(a, b)]) W2 := by
  obtain ⟨h1, h2, h3⟩ := h.own.app (w := w) (by omega) h.bel hown hg
  exact ⟨h3 _ _ (by omega) h.b0, h1, h2⟩
theorem IS.start (w : World) (x0 x1 : Int) : IS w x0 x1 (.slice (some ⟨w.heap.size + 1, 0, none⟩) 0 0) [] ((w.alloc (.cells #[cN x0, cN x1] 54)).alloc (.cells #[] 54)) := by
  have h := World.alloc_heap_new (w.alloc (.cells #[cN x0, cN x1] 54)) (.cells #[] 54)
  rw [World.size_alloc] at h
  exact ⟨(Lib.alloc_old _ _ _ (by simp)).trans (World.alloc_heap_new w _), ⟨rfl, .inr ⟨w.heap.size + 1, 0, #[], rfl, Nat.le_refl _, h, Nat.le_refl _, Nat.zero_le _, rfl, rfl⟩⟩, bal (bal (Below.refl _ w) _) _⟩
theorem cells2 (W : World) (a b : Int) (T : TypeId) (j : Nat) (u : Value) (hj : ([cN a, cN b] : List Value)[j]? = some u) : (W.alloc (.cells #[cN a, cN b] T)).cell? ((⟨W.heap.size, 0, none⟩ : Addr).add j) = some u := by
  match j, hj with
  | 0, hj => simp at hj; subst hj; simp [Addr.add]
  | 1, hj => simp at hj; subst hj; simp [Addr.add]
end Go.Proofs.YtocncjimepnlcaaGreatDoor
