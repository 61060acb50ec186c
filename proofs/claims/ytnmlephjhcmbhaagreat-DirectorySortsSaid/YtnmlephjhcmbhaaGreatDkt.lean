/- The chapter's example of directories: facts. -/
import Derived.Test.YtnmlephjhcmbhaaGreatDks
import Derived.Test.YtnmlephjhcmbhaaGreatDkr
import Derived.Test.YtnmlephjhcmbhaaGreatDkj
namespace Go.Proofs.YtnmlephjhcmbhaaGreat
set_option linter.unusedSimpArgs false
set_option linter.unusedVariables false
open Go Go.RowKit
def exN : List ByteArray := [⟨#[0]⟩, ⟨#[1]⟩, ⟨#[65, 46, 59, 49]⟩, ⟨#[65]⟩, ⟨#[65, 46, 66, 59, 50]⟩, ⟨#[65, 46, 66, 59, 49]⟩, ⟨#[65, 65, 46, 59, 49]⟩, ⟨#[66]⟩]
def exV : Array Value := #[.string ⟨#[0]⟩, .string ⟨#[1]⟩, .string ⟨#[65, 46, 59, 49]⟩, .string ⟨#[65]⟩, .string ⟨#[65, 46, 66, 59, 50]⟩, .string ⟨#[65, 46, 66, 59, 49]⟩, .string ⟨#[65, 65, 46, 59, 49]⟩, .string ⟨#[66]⟩]
theorem exN_size : ∀ k, k < 8 → (exN.getD k ByteArray.empty).size < 10 := by decide +kernel
theorem exN_key : ∀ k, k < 7 → lexc (keyM 10 false (exN.getD k ByteArray.empty).data.toList) (keyM 10 false (exN.getD (k + 1) ByteArray.empty).data.toList) < 0 := by decide +kernel
theorem exN_lt (k : Nat) (h : k < 7) : cmpM (exN.getD k ByteArray.empty).data.toList (exN.getD (k + 1) ByteArray.empty).data.toList false < 0 := by
  have h1 := exN_size k (by omega)
  have h2 := exN_size (k + 1) (by omega)
  rw [cmpM_key 10 false _ _ (by rw [list_size]; omega) (by rw [list_size]; omega)]
  exact exN_key k h
theorem exV_get : ∀ k, k < 8 → exV[k]? = some (.string (exN.getD k ByteArray.empty)) := by
  intro k hk
  match k, hk with
  | 0, _ => rfl
  | 1, _ => rfl
  | 2, _ => rfl
  | 3, _ => rfl
  | 4, _ => rfl
  | 5, _ => rfl
  | 6, _ => rfl
  | 7, _ => rfl
def AwS (w W : World) : Prop := W.heap[w.heap.size]? = some (.cells exV 9 (0, 0)) ∧ Below w.heap.size w W
theorem AwS.below {w W W' : World} (h : AwS w W) (b : Below W.heap.size W W') : AwS w W' := ⟨(b.block _ (lt_of_block h.1)).trans h.1, bthen h.2 b⟩
theorem AwS.drew {w W : World} (h : AwS w W) : AwS w W.drew := ⟨h.1, h.2.drew⟩
theorem AwS.cell {w W : World} (h : AwS w W) (k : Nat) (hk : k < 8) : W.cell? ⟨w.heap.size, k, none⟩ = some (.string (exN.getD k ByteArray.empty)) := by
  rw [Lib.cell_of_heap h.1]
  exact exV_get k hk
/-- The two records. -/
def exA : Rec := ⟨⟨#[65]⟩, 0, 0, 315532800, 0, 0, 0, ⟨#[]⟩⟩
def exX : Rec := ⟨⟨#[0]⟩, 0, 0, 315532800, 0, 0, 0, ⟨#[]⟩⟩
theorem exA_E : enE exA = 0 := by
  rw [enE, deOf_in (show inT 315532800 0 by unfold inT; decide)]
  decide +kernel
theorem exX_E : enE exX = 0 := by
  rw [enE, deOf_in (show inT 315532800 0 by unfold inT; decide)]
  decide +kernel
theorem ex_first : firstE [exX, exA] = 0 := by rw [firstE, if_pos exX_E, firstE, if_pos exA_E, firstE]
theorem exA_S : (enS exA).size = 34 := by
  have h := (enS_size exA_E).1
  have e : sizeI (exA.id.size : Int) (exA.use.size : Int) = 34 := by decide +kernel
  omega
theorem exX_S : (enS exX).size = 34 := by
  have h := (enS_size exX_E).1
  have e : sizeI (exX.id.size : Int) (exX.use.size : Int) = 34 := by decide +kernel
  omega
theorem ex_len : lenR [exX, exA] = [34, 34] := by simp [lenR, exX_S, exA_S]
theorem ex_enc : encDE [exX, exA] = 0 := by rw [encDE, if_neg (by simp), ex_first]
theorem ex_tot : totT [exX, exA] = 2048 := by
  have : lenI [exX, exA] = [34, 34] := by simp [lenI, exX_S, exA_S]
  have e : blkM [34, 34] = 1 := by decide +kernel
  have h2 : totT [exX, exA] = blkM (lenI [exX, exA]) * 2048 := rfl
  rw [this, e] at h2
  omega
theorem ex_str : (encDS [exX, exA]).size = 2048 := by
  have hge := totT_ge ex_first
  have := buf_len (totT [exX, exA]) (enL [exX, exA]) (by rw [lensN_enL]; exact hge)
  rw [encDS, if_pos ex_enc]
  exact (bL_size _).trans (this.trans ex_tot)
theorem ex_dec : dirD (encDS [exX, exA]) = (0, [exX, exA], [0, 34]) := by
  have h := dec_enc [exX, exA] ex_first (by simp) 0 (by omega) (encDS [exX, exA]) (by rw [encDS, if_pos ex_enc]; simp)
  rw [h, ex_len, show plcs 0 [34, 34] = [0, 34] by decide +kernel]
theorem ex_idx : idxR [exX, exA] ⟨#[65]⟩ = 1 := by decide +kernel
theorem ltT_irrefl {cf : Rec → Rec → Int} (h : CmpOk cf) (x : TR) : ¬ ltT cf x x := by
  rintro (k | ⟨-, k⟩)
  · have := h.swap x.1 x.1; omega
  · omega
/-- There is but one list of the records in their order. -/
theorem sort_unique {cf : Rec → Rec → Int} (h : CmpOk cf) : ∀ {l m : List TR}, l.Perm m → l.Pairwise (ltT cf) → m.Pairwise (ltT cf) → l = m
  | [], m, hp, _, _ => (List.nil_perm.1 hp).symm
  | x :: l, m, hp, hl, hm => by
    cases m with
    | nil => exact absurd (List.perm_nil.1 hp) (by simp)
    | cons y m =>
      rw [List.pairwise_cons] at hl hm
      have hxy : x = y := by
        rcases List.mem_cons.1 (hp.subset (List.mem_cons_self ..)) with e | hx
        · exact e
        · rcases List.mem_cons.1 (hp.symm.subset (List.mem_cons_self ..)) with e | hy
          · exact e.symm
          · exact absurd (ltT_trans h (hl.1 y hy) (hm.1 x hx)) (ltT_irrefl h x)
      subst hxy
      rw [sort_unique h ((List.perm_cons _).1 hp) hl.2 hm.2]
theorem SortOf.unique {cf : Rec → Rec → Int} (h : CmpOk cf) {l d e : List Rec} (h1 : SortOf cf l d) (h2 : SortOf cf l e) : d = e := by
  obtain ⟨m, hm, sm, rfl⟩ := h1
  obtain ⟨n, hn, sn, rfl⟩ := h2
  rw [sort_unique h (hm.trans hn.symm) sm sn]
theorem ex_sort {d : List Rec} (h : SortOf (cfW true) [exA, exX] d) : d = [exX, exA] := by
  refine h.unique (cfW_ok true) ⟨[(exX, 1), (exA, 0)], ?_, ?_, rfl⟩
  · exact List.Perm.swap ..
  · have e : cfW true exX exA < 0 := by
      rw [cfW, cmpM_key 10 true _ _ (by decide +kernel) (by decide +kernel)]
      decide +kernel
    exact List.pairwise_cons.2 ⟨fun y hy => by
      simp at hy; subst hy; exact .inl e, List.pairwise_singleton _ _⟩
/-- The sizes. -/
def szL : List Nat := List.replicate 60 34 ++ [36]
theorem sz_offs : (offM (toI szL)).length = 61 ∧ (offM (toI szL)).getD 60 0 = 2048 := by decide +kernel
theorem sz_blks : blkM (toI szL) = 2 := by decide +kernel
theorem RowR_two {W : World} {g : Nat} {x y : Rec} (h : W.heap[g]? = some (.cells #[.string x.id, cN x.lba, cN x.len, cN x.time, cN x.zone, cN x.flags, cN x.seq, .string x.use, .string y.id, cN y.lba, cN y.len, cN y.time, cN y.zone, cN y.flags, cN y.seq, .string y.use] 45 (0, 0))) : RowR W (some ⟨g, 0, none⟩) [x, y] := fun k hk => by
  refine ⟨g, 0, rfl, lt_of_block h, ?_⟩
  have hk2 : k = 0 ∨ k = 1 := by simp at hk; omega
  rcases hk2 with rfl | rfl
  · exact ⟨Lib.cell_of_heap h 0, Lib.cell_of_heap h 1, Lib.cell_of_heap h 2, Lib.cell_of_heap h 3, Lib.cell_of_heap h 4, Lib.cell_of_heap h 5, Lib.cell_of_heap h 6, Lib.cell_of_heap h 7⟩
  · exact ⟨Lib.cell_of_heap h 8, Lib.cell_of_heap h 9, Lib.cell_of_heap h 10, Lib.cell_of_heap h 11, Lib.cell_of_heap h 12, Lib.cell_of_heap h 13, Lib.cell_of_heap h 14, Lib.cell_of_heap h 15⟩
end Go.Proofs.YtnmlephjhcmbhaaGreat
