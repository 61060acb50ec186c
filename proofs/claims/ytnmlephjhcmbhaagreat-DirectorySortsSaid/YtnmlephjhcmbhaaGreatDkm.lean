/- Slices of directory records that a call made. -/
import Derived.Test.YtnmlephjhcmbhaaGreatDki
import Derived.Test.YtnmlephjhcmbhaaGreatDkh
namespace Go.Proofs.YtnmlephjhcmbhaaGreat
set_option linter.unusedSimpArgs false
set_option linter.unusedVariables false
open Go Go.RowKit
theorem recInfo : (Tryz.prog.info? 45).map (fun i => (i.zero, i.size, i.bytes)) = some (some (.agg #[.string ByteArray.empty, .int .i64 0, .int .i64 0, .int .i64 0, .int .i64 0, .int .i64 0, .int .i64 0, .string ByteArray.empty]), 8, 80) := by kernel_rfl
def flatR (l : List Rec) : List Value := l.flatMap fun r => (recA r).toList
theorem flatR_len (l : List Rec) : (flatR l).length = l.length * 8 := by
  induction l with
  | nil => rfl
  | cons x l ih => simp only [flatR, List.flatMap_cons, List.length_append] at ih ⊢; rw [ih, List.length_cons]; simp; omega
theorem flatR_append (l m : List Rec) : flatR (l ++ m) = flatR l ++ flatR m := by simp [flatR]
theorem flatR_one (r : Rec) : flatR [r] = (recA r).toList := by simp [flatR]
theorem flatR_get : ∀ (l : List Rec) (k i : Nat), k < l.length → i < 8 → (flatR l)[k * 8 + i]? = (recA (l.getD k recD)).toList[i]?
  | [], _, _, h, _ => by simp at h
  | x :: l, 0, i, _, hi => by
    rw [show flatR (x :: l) = (recA x).toList ++ flatR l from rfl, List.getElem?_append_left (by simp; omega)]
    simp
  | x :: l, k + 1, i, h, hi => by
    rw [show flatR (x :: l) = (recA x).toList ++ flatR l from rfl, List.getElem?_append_right (by simp; omega), List.getD_cons_succ, ← flatR_get l k i (by simpa using h) hi]
    congr 1
    simp
    omega
theorem flatR_cell (l : List Rec) : ∀ u ∈ flatR l, u.oneCell' = true := by
  intro u hu
  obtain ⟨r, -, hu⟩ := List.mem_flatMap.1 hu
  simp at hu
  rcases hu with rfl | rfl | rfl | rfl | rfl | rfl | rfl | rfl <;> rfl
theorem own_keepS {W W' : World} {base n sz : Nat} {v : Value} {xs : List Value} {e : TypeId} (h : W.ownsRow base e sz v n xs) (k : Below W.heap.size W W') : W'.ownsRow base e sz v n xs := by
  refine ⟨h.1, ?_⟩
  rcases h.2 with hn | ⟨g, cap, cur, rfl, hb, hg, rest⟩
  · exact .inl hn
  · exact .inr ⟨g, cap, cur, rfl, hb, (k.block _ (lt_of_block hg)).trans hg, rest⟩
theorem CellsR_of {W : World} {g o : Nat} {r : Rec} (h : ∀ i, i < 8 → W.cell? ⟨g, o + i, none⟩ = (recA r).toList[i]?) : CellsR W g o r :=
  ⟨h 0 (by decide), h 1 (by decide), h 2 (by decide), h 3 (by decide), h 4 (by decide), h 5 (by decide), h 6 (by decide), h 7 (by decide)⟩
theorem RowR_own {W : World} {b : Nat} {u : Value} (l : List Rec) (h : W.ownsRow b 45 8 u l.length (flatR l)) : ∃ a c, u = .slice a l.length c ∧ RowR W a l := by
  rcases h.2 with ⟨rfl, h0⟩ | ⟨g, cap, cur, rfl, hb, hg, h1, h2, h3, h4⟩
  · exact ⟨none, 0, by rw [h0], fun k hk => by omega⟩
  · refine ⟨some ⟨g, 0, none⟩, cap, rfl, fun k hk => ⟨g, 0, rfl, lt_of_block hg, CellsR_of fun i hi => ?_⟩⟩
    rw [Nat.zero_add, World.ownsRow.cellAt h (k * 8 + i) (by omega), flatR_get l k i hk hi]
/-- A row of records and one of numbers, of the call's own. -/
structure RL (w : World) (R : List Rec) (O : List Nat) (v u : Value) (W : World) : Prop where
  recs : W.ownsRow w.heap.size 45 8 v R.length (flatR R)
  offs : W.ownsRow w.heap.size 3 1 u O.length (ints O)
  bel : Below w.heap.size w W
theorem RL.start (w : World) : RL w [] [] (.slice none 0 0) (.slice none 0 0) w := ⟨⟨rfl, .inl ⟨rfl, rfl⟩⟩, ⟨rfl, .inl ⟨rfl, rfl⟩⟩, Below.refl _ _⟩
theorem RL.nil {w W : World} (h : Below w.heap.size w W) : RL w [] [] (.slice none 0 0) (.slice none 0 0) W := ⟨⟨rfl, .inl ⟨rfl, rfl⟩⟩, ⟨rfl, .inl ⟨rfl, rfl⟩⟩, h⟩
theorem RL.below {w : World} {R : List Rec} {O : List Nat} {v u : Value} {W W' : World} (h : RL w R O v u W) (b : Below W.heap.size W W') : RL w R O v u W' :=
  ⟨own_keepS h.recs b, own_keepS h.offs b, bthen h.bel b⟩
theorem own_apart {W : World} {b1 b2 : Nat} {e1 e2 : TypeId} {s1 s2 n m : Nat} {v u : Value} {xs ys : List Value} (h1 : W.ownsRow b1 e1 s1 v n xs) (h2 : W.ownsRow b2 e2 s2 u m ys) (he : e1 ≠ e2) : v.ownBlock = none ∨ v.ownBlock ≠ u.ownBlock := by
  rcases h1.2 with ⟨rfl, -⟩ | ⟨g, cap, cur, rfl, hb, hg, -⟩
  · exact .inl rfl
  · right
    intro h
    rcases h2.2 with ⟨rfl, -⟩ | ⟨g', cap', cur', rfl, hb', hg', -⟩
    · simp [Value.ownBlock] at h
    · simp [Value.ownBlock] at h
      subst h
      rw [hg] at hg'
      simp only [Option.some.injEq, Obj.cells.injEq] at hg'
      exact he hg'.2.1
theorem RL.put1 {w : World} {R : List Rec} {O : List Nat} {v u v' : Value} {W W1 : World} {r : Rec} (h : RL w R O v u W)
    (ho : W1.ownsRow w.heap.size 45 8 v' (R.length + 1) (flatR R ++ (recA r).toList)) (hg : (W.alloc (.cells (recA r) 45)).grownBy W1 v.ownBlock) :
    RL w (R ++ [r]) O v' u W1 := by
  have hb := Below.refl W.heap.size W
  have h1 := own_keepS h.recs (hb.alloc (Nat.le_refl _) (.cells (recA r) 45))
  have h2 := own_keepS h.offs (hb.alloc (Nat.le_refl _) (.cells (recA r) 45))
  refine ⟨?_, h2.kept hg (own_apart h2 h1 (by decide)), ?_⟩
  · rw [List.length_append, flatR_append, flatR_one]; exact ho
  · exact (h.bel.alloc h.bel.size _).grown hg (by have := h.bel.size; simp; omega) (fun k e => (h1.lt k e).1)
theorem RL.put2 {w : World} {R : List Rec} {O : List Nat} {v u u' : Value} {W W1 : World} {n : Nat} (h : RL w R O v u W)
    (ho : W1.ownsRow w.heap.size 3 1 u' (O.length + 1) (ints O ++ [cN (n : Int)])) (hg : (W.alloc (.cells #[cN (n : Int)] 3)).grownBy W1 u.ownBlock) :
    RL w R (O ++ [n]) v u' W1 := by
  have hb := Below.refl W.heap.size W
  have h1 := own_keepS h.offs (hb.alloc (Nat.le_refl _) (.cells #[cN (n : Int)] 3))
  have h2 := own_keepS h.recs (hb.alloc (Nat.le_refl _) (.cells #[cN (n : Int)] 3))
  refine ⟨h2.kept hg (own_apart h2 h1 (by decide)), ?_, ?_⟩
  · rw [List.length_append, ints_snoc]; exact ho
  · exact (h.bel.alloc h.bel.size _).grown hg (by have := h.bel.size; simp; omega) (fun k e => (h1.lt k e).1)
theorem own_formS {b sz n : Nat} {e : TypeId} {v : Value} {xs : List Value} {W : World} (h : W.ownsRow b e sz v n xs) : ∃ a c, v = .slice a n c := by
  rcases h.2 with ⟨rfl, h0⟩ | ⟨g, cap, cur, rfl, _⟩
  · exact ⟨none, 0, by rw [h0]⟩
  · exact ⟨_, _, rfl⟩
theorem RL.form1 {w : World} {R : List Rec} {O : List Nat} {v u : Value} {W : World} (h : RL w R O v u W) : ∃ a c, v = .slice a R.length c := own_formS h.recs
theorem RL.form2 {w : World} {R : List Rec} {O : List Nat} {v u : Value} {W : World} (h : RL w R O v u W) : ∃ a c, u = .slice a O.length c := own_formS h.offs
end Go.Proofs.YtnmlephjhcmbhaaGreat
