/- slices.Clone of records; sorting, plain. -/
import Derived.Test.YtnmlephjhcmbhaaGreatDkm
import Derived.Test.YtnmlephjhcmbhaaGreatDkf
namespace Go.Proofs.YtnmlephjhcmbhaaGreat
set_option linter.unusedSimpArgs false
set_option linter.unusedVariables false
open Go Go.RowKit
theorem add_none (b off j : Nat) : (⟨b, off, none⟩ : Addr).add j = ⟨b, off + j, none⟩ := by
  unfold Addr.add
  split
  · rename_i h
    subst h
    rfl
  · rfl
theorem CellsR_get {W : World} {b o : Nat} {r : Rec} (h : CellsR W b o r) : ∀ i u, (recA r).toList[i]? = some u → W.cell? ⟨b, o + i, none⟩ = some u := by
  obtain ⟨q0, q1, q2, q3, q4, q5, q6, q7⟩ := h
  intro i u hu
  match i, hu with
  | 0, hu => simp at hu; subst hu; exact q0
  | 1, hu => simp at hu; subst hu; exact q1
  | 2, hu => simp at hu; subst hu; exact q2
  | 3, hu => simp at hu; subst hu; exact q3
  | 4, hu => simp at hu; subst hu; exact q4
  | 5, hu => simp at hu; subst hu; exact q5
  | 6, hu => simp at hu; subst hu; exact q6
  | 7, hu => simp at hu; subst hu; exact q7
  | i + 8, hu => simp at hu
theorem RowR_flat {W : World} {a : Option Addr} {l : List Rec} (h : RowR W a l) (h0 : l ≠ []) : ∃ b off, a = some ⟨b, off, none⟩ ∧ b < W.heap.size ∧ ∀ j u, (flatR l)[j]? = some u → W.cell? ⟨b, off + j, none⟩ = some u := by
  have hpos : 0 < l.length := List.length_pos_iff.2 h0
  obtain ⟨b, off, rfl, hb, -⟩ := h 0 hpos
  refine ⟨b, off, rfl, hb, fun j u hj => ?_⟩
  have hjl : j < l.length * 8 := by
    rw [← flatR_len]
    exact (List.getElem?_eq_some_iff.1 hj).1
  obtain ⟨b', off', he, -, hc⟩ := h (j / 8) (by omega)
  simp only [Option.some.injEq, Addr.mk.injEq] at he
  obtain ⟨rfl, rfl, -⟩ := he
  have e : j = j / 8 * 8 + j % 8 := by omega
  rw [e, flatR_get l (j / 8) (j % 8) (by omega) (by omega)] at hj
  have := CellsR_get hc _ _ hj
  rw [Nat.add_assoc, ← e] at this
  exact this
def ClEnd (w : World) (l : List Rec) (e : Ending) (w' : World) : Prop := ∃ v, e = .returned v ∧ w'.ownsRow w.heap.size 45 8 v l.length (flatR l) ∧ Below w.heap.size w w'
set_option maxRecDepth 100000 in
set_option maxHeartbeats 1000000 in
theorem clrec_ok (a : Option Addr) (c : Nat) (l : List Rec) (w : World) (hl : l.length ≤ 100000) (hrow : RowR w a l) :
    Calls Tryz.prog 44 #[.slice a l.length c] w (ClEnd w l) := by
  obtain ⟨j0, hj, ky0, ky1, ky2⟩ := info_parts recInfo
  cases a with
  | none =>
    have h0 : l = [] := by
      rcases l with _ | ⟨x, l⟩
      · rfl
      · obtain ⟨b, off, h, -⟩ := hrow 0 (by simp)
        cases h
    subst h0
    have hn := fun W => Lib.run_eql_slice_nil (P := Tryz.prog) W 26 45 none 0 c 0 0 Tryz.underlying26
    clear hrow
    go_enter Tryz.func44, Tryz.ntmps44
    go_wp2
    go_ret
    exact ⟨_, rfl, ⟨rfl, .inl ⟨rfl, rfl⟩⟩, Below.refl _ w⟩
  | some x =>
    have hn := fun W => Lib.run_eql_slice_nil (P := Tryz.prog) W 26 45 (some x) l.length c 0 0 Tryz.underlying26
    have hcell : ∀ W, Below w.heap.size w W → ∀ j u, (flatR l)[j]? = some u → W.cell? (x.add j) = some u := fun W hW j u hu => by
      have h0 : l ≠ [] := by rintro rfl; simp [flatR] at hu
      obtain ⟨b, off, he, hb, hc⟩ := RowR_flat hrow h0
      simp only [Option.some.injEq] at he
      subst he
      rw [add_none]
      exact (hW.cell (p := ⟨b, off + j, none⟩) hb).trans (hc j u hu)
    have HC := Lib.hid hcell
    clear hrow hcell
    go_enter Tryz.func44, Tryz.ntmps44
    go_wp2_with (at_builtin; refine wpList_append_own _ rfl _ _ 26 rfl w.heap.size 45 j0 (.agg #[.string ByteArray.empty, .int .i64 0, .int .i64 0, .int .i64 0, .int .i64 0, .int .i64 0, .int .i64 0, .string ByteArray.empty]) 8 80 Tryz.underlying26 hj ky0 ky1 ky2 rfl (by decide) _ 0 [] rfl ⟨rfl, .inr ⟨w.heap.size, 0, #[], rfl, Nat.le_refl _, World.alloc_heap_new w _, Nat.le_refl _, Nat.zero_le _, rfl, rfl⟩⟩ x l.length c (flatR l) rfl (flatR_len l) ?c1 (flatR_cell l) ?c3 ?c4 ?c5 ?_)
    case c1 => exact HC.out _ (bald (Below.refl _ w) _)
    case c3 => unfold maxLen; omega
    case c4 => omega
    case c5 => simp
    intro v' w2 hown hgrow _
    have hB : Below w.heap.size w w2 := ((Below.refl _ w).alloc (Nat.le_refl _) (.cells #[] 45)).grown hgrow (by simp) (fun k hk => by simp [Value.ownBlock] at hk; omega)
    have HO : Hid (w2.ownsRow w.heap.size 45 8 v' l.length (flatR l)) := Lib.hid hown
    clear hown hgrow
    go_wp2
    go_ret
    exact ⟨_, rfl, HO.out, hB⟩
/-- A comparison that orders. -/
structure CmpOk (cf : Rec → Rec → Int) : Prop where
  swap : ∀ x y, cf y x = - cf x y
  trans : ∀ x y z, cf x y ≤ 0 → cf y z ≤ 0 → cf x z ≤ 0
abbrev TR := Rec × Nat
def ltT (cf : Rec → Rec → Int) (x y : TR) : Prop := cf x.1 y.1 < 0 ∨ (cf x.1 y.1 = 0 ∧ x.2 < y.2)
theorem ltT_trans {cf : Rec → Rec → Int} (h : CmpOk cf) {x y z : TR} (h1 : ltT cf x y) (h2 : ltT cf y z) : ltT cf x z := by
  have a1 : cf x.1 y.1 ≤ 0 := by rcases h1 with h | h <;> omega
  have a2 : cf y.1 z.1 ≤ 0 := by rcases h2 with h | h <;> omega
  have a3 := h.trans _ _ _ a1 a2
  rcases Int.lt_or_eq_of_le a3 with h3 | h3
  · exact .inl h3
  · right
    have s1 := h.swap x.1 y.1
    have s2 := h.swap y.1 z.1
    have s3 := h.swap x.1 z.1
    have b1 := h.trans y.1 z.1 x.1 a2 (by omega)
    have b2 := h.trans z.1 x.1 y.1 (by omega) a1
    refine ⟨h3, ?_⟩
    rcases h1 with h1 | h1 <;> rcases h2 with h2 | h2 <;> omega
/-- A record, put at its place behind those that do not come after it. -/
theorem ins_stop {cf : Rec → Rec → Int} (h : CmpOk cf) {p1 p2 : List TR} {x : TR} (hs : (p1 ++ p2).Pairwise (ltT cf)) (ht : ∀ y ∈ p1 ++ p2, y.2 < x.2) (h2 : ∀ y ∈ p2, cf x.1 y.1 < 0)
    (h1 : ∀ y, p1.getLast? = some y → ¬ cf x.1 y.1 < 0) : (p1 ++ x :: p2).Pairwise (ltT cf) := by
  rw [List.pairwise_append] at hs ⊢
  obtain ⟨s1, s2, s3⟩ := hs
  have hx : ∀ y ∈ p1, ltT cf y x := by
    rcases List.eq_nil_or_concat p1 with rfl | ⟨q, z, rfl⟩
    · intro y hy; cases hy
    · rw [List.concat_eq_append] at *
      have hz := h1 z (by simp)
      have hsw := h.swap x.1 z.1
      have hzx : ltT cf z x := by
        rcases Int.lt_or_eq_of_le (show cf z.1 x.1 ≤ 0 by omega) with k | k
        · exact .inl k
        · exact .inr ⟨k, ht z (by simp)⟩
      intro y hy
      rcases List.mem_append.1 hy with hy | hy
      · rw [List.pairwise_append] at s1
        exact ltT_trans h (s1.2.2 y hy z (by simp)) hzx
      · simp at hy; subst hy; exact hzx
  refine ⟨s1, List.pairwise_cons.2 ⟨fun y hy => .inl (h2 y hy), s2⟩, fun a ha b hb => ?_⟩
  rcases List.mem_cons.1 hb with rfl | hb
  · exact hx a ha
  · exact s3 a ha b hb
end Go.Proofs.YtnmlephjhcmbhaaGreat
