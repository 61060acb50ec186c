/- Lists of writes: what Update puts out. -/
import Derived.Test.YtocncjimepnlcaaGreatDoorCmg
import Derived.Test.YtocncjimepnlcaaGreatDoorSpi
namespace Go.Proofs.YtocncjimepnlcaaGreatDoor
set_option linter.unusedSimpArgs false
set_option linter.unusedVariables false
open Go Go.RowKit
/-- A slice of numbers that can be read. -/
def RowI (W : World) (a : Option Addr) (l : List Int) : Prop := ∀ k, k < l.length → ∃ b off, a = some ⟨b, off, none⟩ ∧ b < W.heap.size ∧ W.cell? ⟨b, off + k, none⟩ = some (cN (l.getD k 0))
theorem RowI.below {W W' : World} {a : Option Addr} {l : List Int} (h : RowI W a l) (k : Below W.heap.size W W') : RowI W' a l := fun i hi => by
  obtain ⟨b, off, rfl, hb, hc⟩ := h i hi
  exact ⟨b, off, rfl, Nat.lt_of_lt_of_le hb k.size, (k.cell (p := ⟨b, off + i, none⟩) hb).trans hc⟩
abbrev WI := Int × Nat
def wiC (x : WI) : List Value := [cN x.1, .slice (some ⟨x.2, 0, none⟩) 1 1, .bool true, .bool false]
def flatW (l : List WI) : List Value := l.flatMap wiC
theorem flatW_len (l : List WI) : (flatW l).length = l.length * 4 := by
  induction l with
  | nil => rfl
  | cons x l ih => simp only [flatW, List.flatMap_cons, List.length_append, wiC, List.length_cons, List.length_nil] at ih ⊢; omega
theorem flatW_snoc (l : List WI) (x : WI) : flatW (l ++ [x]) = flatW l ++ wiC x := by simp [flatW]
theorem flatW_get : ∀ (l : List WI) (i j : Nat) (x : WI), l[i]? = some x → j < 4 → (flatW l)[i * 4 + j]? = (wiC x)[j]?
  | [], i, j, x, h, _ => by simp at h
  | y :: l, 0, j, x, h, hj => by
    have e : y = x := by simpa using h
    subst e
    rw [show flatW (y :: l) = wiC y ++ flatW l from rfl, List.getElem?_append_left (by show 0 * 4 + j < 4; omega)]
    simp
  | y :: l, i + 1, j, x, h, hj => by
    rw [show flatW (y :: l) = wiC y ++ flatW l from rfl, List.getElem?_append_right (by show 4 ≤ (i + 1) * 4 + j; omega), show (i + 1) * 4 + j - (wiC y).length = i * 4 + j by show (i + 1) * 4 + j - 4 = _; omega]
    exact flatW_get l i j x (by simpa using h) hj
theorem twInfo : (Tryz.prog.info? 45).map (fun i => (i.zero, i.size, i.bytes)) = some (some (.agg #[.int .i64 0, .slice none 0 0, .bool false, .bool false]), 4, 40) := by kernel_rfl
/-- The state of Update. -/
structure UW (w : World) (s : Int) (v : Value) (l : List Sp) (o : Value) (its : List WI) (W : World) : Prop where
  b0 : W.heap[w.heap.size]? = some (.cells #[cN s, v] 24 (0, 0))
  own : W.ownsRow (w.heap.size + 1) 45 4 o its.length (flatW its)
  blk : ∀ x ∈ its, W.heap[x.2]? = some (.cells #[.string (encS s x.1 l)] 9 (0, 0))
  bel : Below w.heap.size w W
theorem own_keep4 {base n : Nat} {o : Value} {c : List Value} {W W' : World} (h : W.ownsRow base 45 4 o n c) (k : Below W.heap.size W W') : W'.ownsRow base 45 4 o n c := by
  refine ⟨h.1, ?_⟩
  rcases h.2 with hn | ⟨g, cap, cur, rfl, hb, hg, rest⟩
  · exact .inl hn
  · exact .inr ⟨g, cap, cur, rfl, hb, (k.block _ (lt_of_block hg)).trans hg, rest⟩
theorem UW.below {w : World} {s : Int} {v : Value} {l : List Sp} {o : Value} {its : List WI} {W W' : World} (h : UW w s v l o its W) (k : Below W.heap.size W W') : UW w s v l o its W' :=
  ⟨(k.block _ (lt_of_block h.b0)).trans h.b0, own_keep4 h.own k, fun x hx => (k.block _ (lt_of_block (h.blk x hx))).trans (h.blk x hx), bthen h.bel k⟩
theorem own_form4 {base n : Nat} {o : Value} {c : List Value} {W : World} (h : W.ownsRow base 45 4 o n c) : ∃ a k, o = .slice a n k := by
  rcases h.2 with ⟨hv, hn⟩ | ⟨g, cap, cur, hv, -⟩
  · exact ⟨none, 0, by rw [hn]; exact hv⟩
  · exact ⟨_, _, hv⟩
theorem own_ne4 {base n g : Nat} {o : Value} {c : List Value} {W : World} {cs : Array Value} {T : TypeId} {fr : Nat × Nat} (h : W.ownsRow base 45 4 o n c) (hT : T ≠ 45) (hg : W.heap[g]? = some (.cells cs T fr)) : some g ≠ o.ownBlock := by
  rcases h.2 with ⟨rfl, -⟩ | ⟨g', cap, cur, rfl, hb, hg', -⟩
  · simp [Value.ownBlock]
  · intro e
    have e' : g = g' := by simpa [Value.ownBlock] using e
    subst e'
    rw [hg'] at hg
    injection hg with hg
    injection hg with h1 h2
    exact hT h2.symm
theorem UW.app {w : World} {s : Int} {v : Value} {l : List Sp} {o o' : Value} {its : List WI} {W W2 : World} {x : Int} (h : UW w s v l o its W)
    (hown : W2.ownsRow (w.heap.size + 1) 45 4 o' (its.length + 1) (flatW its ++ wiC (x, W.heap.size)))
    (hg : ((W.alloc (.cells #[.string (encS s x l)] 9)).alloc (.cells #[cN x, .slice (some ⟨W.heap.size, 0, none⟩) 1 1, .bool true, .bool false] 45)).grownBy W2 o.ownBlock) : UW w s v l o' (its ++ [(x, W.heap.size)]) W2 := by
  have old : ∀ (g : Nat) (cs : Array Value) (T : TypeId) (fr : Nat × Nat), T ≠ 45 → (W.alloc (.cells #[.string (encS s x l)] 9)).heap[g]? = some (.cells cs T fr) → W2.heap[g]? = some (.cells cs T fr) := fun g cs T fr hT ho => by
    have hl := lt_of_block ho
    have hne : some g ≠ o.ownBlock := own_ne4 (own_keep4 h.own ((Below.refl _ W).alloc (Nat.le_refl _) _)) hT ho
    rw [hg.block g (by rw [World.size_alloc]; omega) hne, Lib.alloc_old _ _ _ hl]
    exact ho
  have old1 : ∀ (g : Nat) (cs : Array Value) (T : TypeId) (fr : Nat × Nat), T ≠ 45 → W.heap[g]? = some (.cells cs T fr) → W2.heap[g]? = some (.cells cs T fr) := fun g cs T fr hT ho => old g cs T fr hT ((Lib.alloc_old _ _ _ (lt_of_block ho)).trans ho)
  refine ⟨old1 _ _ _ _ (by decide) h.b0, ?_, ?_, ?_⟩
  · rw [flatW_snoc, List.length_append]
    exact hown
  · intro y hy
    rcases List.mem_append.1 hy with hy | hy
    · exact old1 _ _ _ _ (by decide) (h.blk y hy)
    · rw [List.mem_singleton] at hy
      subst hy
      exact old _ _ _ _ (by decide) (World.alloc_heap_new W _)
  · exact (bal (bal h.bel _) _).grown hg (by have := h.bel.size; simp; omega) (fun g hk => by have := (h.own.lt g hk).1; omega)
theorem cells4 (W : World) (a : Int) (b c d : Value) (T : TypeId) (j : Nat) (u : Value) (hj : ([cN a, b, c, d] : List Value)[j]? = some u) : (W.alloc (.cells #[cN a, b, c, d] T)).cell? ((⟨W.heap.size, 0, none⟩ : Addr).add j) = some u := by
  match j, hj with
  | 0, hj => simp at hj; subst hj; simp [Addr.add]
  | 1, hj => simp at hj; subst hj; simp [Addr.add]
  | 2, hj => simp at hj; subst hj; simp [Addr.add]
  | 3, hj => simp at hj; subst hj; simp [Addr.add]
/-- A list of writes, read. -/
def WR (W : World) (v : Value) (l : List (Int × ByteArray)) : Prop := ∃ a c, v = .slice a l.length c ∧ ∀ k x, l[k]? = some x → ∃ b off g, a = some ⟨b, off, none⟩ ∧ l.length ≤ c ∧ b < W.heap.size ∧ g < W.heap.size ∧
  W.cell? ⟨b, off + k * 4, none⟩ = some (cN x.1) ∧ W.cell? ⟨b, off + k * 4 + 1, none⟩ = some (.slice (some ⟨g, 0, none⟩) 1 1) ∧ W.cell? ⟨b, off + k * 4 + 2, none⟩ = some (.bool true) ∧ W.cell? ⟨b, off + k * 4 + 3, none⟩ = some (.bool false) ∧ W.cell? ⟨g, 0, none⟩ = some (.string x.2)
theorem WR.below {W W' : World} {v : Value} {l : List (Int × ByteArray)} (h : WR W v l) (k : Below W.heap.size W W') : WR W' v l := by
  obtain ⟨a, c, rfl, hr⟩ := h
  refine ⟨a, c, rfl, fun i x hx => ?_⟩
  obtain ⟨b, off, g, h1, h2, h3, h4, c0, c1, c2, c3, c4⟩ := hr i x hx
  have := k.size
  exact ⟨b, off, g, h1, h2, by omega, by omega, (k.cell (p := ⟨b, off + i * 4, none⟩) h3).trans c0, (k.cell (p := ⟨b, off + i * 4 + 1, none⟩) h3).trans c1, (k.cell (p := ⟨b, off + i * 4 + 2, none⟩) h3).trans c2, (k.cell (p := ⟨b, off + i * 4 + 3, none⟩) h3).trans c3, (k.cell (p := ⟨g, 0, none⟩) h4).trans c4⟩
theorem WR.nil (W : World) : WR W (.slice none 0 0) [] := ⟨none, 0, rfl, fun k x h => by simp at h⟩
theorem UW.wr {w : World} {s : Int} {v : Value} {l : List Sp} {o : Value} {its : List WI} {W : World} (h : UW w s v l o its W) : WR W o (its.map fun x => (x.1, encS s x.1 l)) := by
  rcases h.own.2 with ⟨hv, hn⟩ | ⟨g, cap, cur, hv, hb, hg, hnc, hcm, hcs, htake⟩
  · obtain rfl := List.length_eq_zero_iff.1 hn
    rw [hv]
    exact WR.nil W
  · refine ⟨_, cap, by rw [List.length_map]; exact hv, fun k x hx => ?_⟩
    rw [List.getElem?_map] at hx
    obtain ⟨y, hy, rfl⟩ : ∃ y, its[k]? = some y ∧ (y.1, encS s y.1 l) = x := by
      cases e : its[k]? with
      | none => rw [e] at hx; simp at hx
      | some y => rw [e] at hx; exact ⟨y, rfl, by simpa using hx⟩
    obtain ⟨hk, hym⟩ := List.getElem?_eq_some_iff.1 hy
    have hyi : y ∈ its := by rw [← hym]; exact List.getElem_mem hk
    have hB := h.blk y hyi
    have get : ∀ j, j < 4 → W.cell? ⟨g, 0 + k * 4 + j, none⟩ = (wiC y)[j]? := fun j hj => by
      have hf := flatW_get its k j y hy hj
      have hlen : its.length * 4 ≤ cur.toList.length := by
        have := Array.length_toList (xs := cur)
        omega
      rw [← htake, List.getElem?_take_of_lt (by omega)] at hf
      rw [Lib.cell_of_heap hg, Nat.zero_add, ← Array.getElem?_toList, hf]
    exact ⟨g, 0, y.2, rfl, by rw [List.length_map]; exact hnc, lt_of_block hg, lt_of_block hB, get 0 (by decide), get 1 (by decide), get 2 (by decide), get 3 (by decide), Lib.cell_of_heap hB 0⟩
end Go.Proofs.YtocncjimepnlcaaGreatDoor
