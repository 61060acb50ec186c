/- directory.Sort of at most 40 records. -/
import Derived.Test.YtnmlephjhcmbhaaGreatGkk
namespace Go.Proofs.YtnmlephjhcmbhaaGreat
set_option linter.unusedSimpArgs false
set_option linter.unusedVariables false
open Go Go.RowKit
theorem ss_many (cf : Rec → Rec → Int) (hcf : CmpOk cf) (P : Rec → Prop) (w : World) (g : Nat) (tl : List Value) (Fb cap : Nat) (l : List Rec) (hcmp : CmpC cf P w g tl Fb) (hP : ∀ t ∈ l, P t) (h0 : l ≠ []) (hn : l.length ≤ 40) (W0 : World) (hS : SR w g tl l W0) :
    Calls Tryz.prog 45 #[.slice (some ⟨g, 0, none⟩) l.length cap, .func (.func 46) #[] #[.pointer (some ⟨Fb, 0, none⟩)]] W0 (StEnd cf w g tl l) := by
  have c1 := ssint_ok cf hcf P w g tl Fb cap (tagL 0 l) hcmp (fun t ht => hP _ (tagL_mem ht)) (tagL_pair l 0) (fun e => h0 (by
    have := tagL_len l 0
    rw [e] at this
    exact List.eq_nil_of_length_eq_zero this.symm)) (by rw [tagL_len]; exact hn) W0 (by show SR w g tl (recsT (tagL 0 l)) W0; rw [tagL_recs]; exact hS)
  rw [tagL_len] at c1
  refine c1.mono ?_
  rintro e w' ⟨rfl, m, hm, hs, hW⟩
  exact ⟨rfl, recsT m, ⟨m, hm, hs, rfl⟩, by
    have : ST w g tl ([] ++ m ++ []) w' := hW
    simpa [ST] using this⟩
set_option maxRecDepth 100000 in
set_option maxHeartbeats 1000000 in
theorem dsort_many (a : Option Addr) (c : Nat) (l : List Rec) (wide : Bool) (w : World) (h0 : l ≠ []) (hn : l.length ≤ 40) (hP : ∀ t ∈ l, PSz t) (hrow : RowR w a l) :
    Calls Tryz.prog 16 #[.slice a l.length c, .bool wide] w (SoEnd (cfW wide) w l) := by
  have hb0 : Below w.heap.size w (w.alloc (.cells #[.bool wide] 4)) := bald (Below.refl _ w) _
  have hF : (w.alloc (.cells #[.bool wide] 4)).heap[w.heap.size]? = some (.cells #[.bool wide] 4 (0, 0)) := World.alloc_heap_new _ _
  have c1 := clrec_ok a c l _ (by omega) (hrow.below hb0)
  have HF := Lib.hid hF
  have HB0 := Lib.hid hb0
  have HP := Lib.hid hP
  have HN0 := Lib.hid h0
  clear hrow hF hb0 hP h0
  go_enter Tryz.func16, Tryz.ntmps16
  go_wp2_with fail
  with_reducible refine c1.mono ?_
  rintro e w1 ⟨v, rfl, ho, hB1⟩
  have hl0 : 0 < l.length := List.length_pos_iff.2 HN0.out
  rcases ho.2 with ⟨rfl, hz⟩ | ⟨g, cap, cur, rfl, hbg, hg, hnc, hcm, hcs, htake⟩
  · omega
  have hF1 := (hB1.block _ (lt_of_block HF.out)).trans HF.out
  have hgF : w.heap.size ≠ g := by simp at hbg; omega
  have hcur : cur = (flatR l ++ cur.toList.drop (l.length * 8)).toArray := by
    apply Array.toList_inj.1
    rw [List.toList_toArray]
    conv => lhs; rw [← List.take_append_drop (l.length * 8) cur.toList]
    rw [htake]
  have hS : SR w1 g (cur.toList.drop (l.length * 8)) l w1 := ⟨by rw [← hcur]; exact hg, rfl, rfl, rfl, Nat.le_refl _, lt_of_block hg, fun _ _ _ => rfl⟩
  have c2 := ss_many (cfW wide) (cfW_ok wide) PSz w1 g _ w.heap.size cap l (cmpC_of wide hF1 hgF) HP.out HN0.out hn w1 hS
  have hbw : Below w.heap.size w w1 := bthen HB0.out hB1
  have HBW := Lib.hid hbw
  have HG := Lib.hid hbg
  have HC := Lib.hid (And.intro hnc (And.intro hcm hcs))
  clear hF1 hgF hcur hS hbw hbg hg hnc hcm hcs htake ho hB1 c1
  go_wp2_with fail
  with_reducible refine c2.mono ?_
  rintro e w2 ⟨rfl, hE⟩
  have HE := Lib.hid hE
  clear hE c2
  go_wp2
  go_ret
  obtain ⟨d, hd, hS2⟩ := HE.out
  have hlen := hd.len
  have hgw : w.heap.size ≤ g := by have := HG.out; simp at this; omega
  refine ⟨_, d, rfl, hd, hlen, ?_, hS2.out HBW.out hgw⟩
  obtain ⟨k1, k2, k3⟩ := HC.out
  refine ⟨flatR_len d, .inr ⟨g, cap, _, by rw [hlen]; rfl, hgw, hS2.row, by rw [hlen]; exact k1, k2, ?_, ?_⟩⟩
  · have := congrArg Array.size (rfl : cur = cur)
    simp only [List.size_toArray, List.length_append, flatR_len, List.length_drop, hlen]
    simp only [Array.length_toList] 
    omega
  · rw [List.toList_toArray, List.take_append_of_le_length (by rw [flatR_len]; exact Nat.le_refl _), List.take_of_length_le (by rw [flatR_len]; exact Nat.le_refl _)]
theorem own_weakR {B B' sz n : Nat} {e : TypeId} {v : Value} {xs : List Value} {W : World} (hb : B' ≤ B) (h : W.ownsRow B e sz v n xs) : W.ownsRow B' e sz v n xs := by
  refine ⟨h.1, ?_⟩
  rcases h.2 with hn | ⟨g, cap, cur, rfl, hbg, rest⟩
  · exact .inl hn
  · exact .inr ⟨g, cap, cur, rfl, Nat.le_trans hb hbg, rest⟩
set_option maxRecDepth 100000 in
set_option maxHeartbeats 400000 in
theorem dsort_nil (a : Option Addr) (c : Nat) (wide : Bool) (w : World) :
    Calls Tryz.prog 16 #[.slice a 0 c, .bool wide] w (SoEnd (cfW wide) w []) := by
  have c1 := clrec_ok a c [] (w.alloc (.cells #[.bool wide] 4)) (by simp) (fun k hk => absurd hk (Nat.not_lt_zero _))
  have HB0 := Lib.hid (bald (Below.refl _ w) (.cells #[.bool wide] 4))
  rw [List.length_nil] at c1
  go_enter Tryz.func16, Tryz.ntmps16
  go_wp2_with fail
  with_reducible refine c1.mono ?_
  rintro e w1 ⟨v, rfl, ho, hB1⟩
  obtain ⟨a2, d2, rfl⟩ := own_formS ho
  have c2 := fun fv W => ssint_nil a2 d2 fv W
  have HO := Lib.hid ho
  have HB1 := Lib.hid (bthen HB0.out hB1)
  clear ho hB1 c1
  go_wp2_with fail
  with_reducible refine (c2 _ _).mono ?_
  rintro e w2 ⟨rfl, rfl⟩
  go_wp2
  go_ret
  refine ⟨_, [], rfl, ⟨[], List.Perm.refl _, List.Pairwise.nil, rfl⟩, rfl, ?_, HB1.out⟩
  have := HO.out
  refine own_weakR ?_ this
  simp
theorem dsort_all (a : Option Addr) (c : Nat) (l : List Rec) (wide : Bool) (w : World) (hn : l.length ≤ 40) (hP : ∀ t ∈ l, PSz t) (hrow : RowR w a l) :
    Calls Tryz.prog 16 #[.slice a l.length c, .bool wide] w (SoEnd (cfW wide) w l) := by
  by_cases h0 : l = []
  · subst h0
    exact dsort_nil a c wide w
  · exact dsort_many a c l wide w h0 hn hP hrow
end Go.Proofs.YtnmlephjhcmbhaaGreat
