/- directory.Sort of few records. -/
import Derived.Test.YtnmlephjhcmbhaaGreatDkq
namespace Go.Proofs.YtnmlephjhcmbhaaGreat
set_option linter.unusedSimpArgs false
set_option linter.unusedVariables false
open Go Go.RowKit
/-- The comparison of Sort. -/
def cfW (wide : Bool) (x y : Rec) : Int := cmpM x.id.data.toList y.id.data.toList wide
theorem cfW_ok (wide : Bool) : CmpOk (cfW wide) := ⟨fun x y => cmpM_swap _ _ _, fun x y z h1 h2 => cmpM_trans _ _ _ _ h1 h2⟩
set_option maxRecDepth 100000 in
set_option maxHeartbeats 1000000 in
theorem dsort1_ok (x y : Rec) (wide : Bool) (F : Nat) (w : World) (hx : x.id.size < 2 ^ 31) (hy : y.id.size < 2 ^ 31) (hF : w.heap[F]? = some (.cells #[.bool wide] 4 (0, 0))) :
    Calls Tryz.prog 46 #[.agg (recA x), .agg (recA y), .pointer (some ⟨F, 0, none⟩)] w fun e w' => e = .returned (cN (cfW wide x y)) ∧ Below w.heap.size w w' := by
  have hb : Below w.heap.size w ((w.alloc (.cells (recA x) 45)).alloc (.cells (recA y) 45)) := bald (bald (Below.refl _ w) _) _
  have p0 := Lib.cell_of_heap ((hb.block _ (lt_of_block hF)).trans hF) 0
  have HB := Lib.hid hb
  have c1 := fun W => cmp_ok x.id y.id wide W hx hy
  unfold cfW
  obtain ⟨c, hc⟩ : ∃ c, cmpM x.id.data.toList y.id.data.toList wide = c := ⟨_, rfl⟩
  rw [hc] at c1 ⊢
  clear hF hb hc
  go_enter Tryz.func46, Tryz.ntmps46
  go_wp2_with fail
  with_reducible refine (c1 _).mono ?_
  rintro e w1 ⟨rfl, hB1⟩
  go_wp2
  go_ret
  exact ⟨rfl, bthen HB.out hB1⟩
def PSz (r : Rec) : Prop := r.id.size < 2 ^ 31
theorem cmpC_of {w : World} {g F : Nat} {tl : List Value} (wide : Bool) (hF : w.heap[F]? = some (.cells #[.bool wide] 4 (0, 0))) (hne : F ≠ g) : CmpC (cfW wide) PSz w g tl F := fun W d x y hS hx hy =>
  dsort1_ok x y wide F W hx hy ((hS.block F (lt_of_block hF) hne).trans hF)
/-- Records with their numbers. -/
def tagL : Nat → List Rec → List TR
  | _, [] => []
  | k, r :: l => (r, k) :: tagL (k + 1) l
theorem tagL_recs : ∀ (l : List Rec) (k : Nat), recsT (tagL k l) = l
  | [], _ => rfl
  | r :: l, k => by
    have := tagL_recs l (k + 1)
    simp only [recsT] at this
    simp [tagL, recsT, this]
theorem tagL_ge : ∀ (l : List Rec) (k : Nat), ∀ t ∈ tagL k l, k ≤ t.2
  | [], _, t, h => by cases h
  | r :: l, k, t, h => by
    rcases List.mem_cons.1 h with rfl | h
    · exact Nat.le_refl _
    · have := tagL_ge l (k + 1) t h; omega
theorem tagL_pair : ∀ (l : List Rec) (k : Nat), (tagL k l).Pairwise (fun a b => a.2 < b.2)
  | [], _ => List.Pairwise.nil
  | r :: l, k => List.pairwise_cons.2 ⟨fun t ht => by have := tagL_ge l (k + 1) t ht; show k < t.2; omega, tagL_pair l (k + 1)⟩
theorem tagL_len : ∀ (l : List Rec) (k : Nat), (tagL k l).length = l.length
  | [], _ => rfl
  | r :: l, k => by rw [tagL, List.length_cons, tagL_len l, List.length_cons]
theorem tagL_mem {l : List Rec} {k : Nat} {t : TR} (h : t ∈ tagL k l) : t.1 ∈ l := by
  have e := tagL_recs l k
  rw [← e]
  exact List.mem_map_of_mem h
/-- What Sort gives: the records in their order, those of one place as they were. -/
def SortOf (cf : Rec → Rec → Int) (l d : List Rec) : Prop := ∃ m, m.Perm (tagL 0 l) ∧ m.Pairwise (ltT cf) ∧ recsT m = d
def StEnd (cf : Rec → Rec → Int) (w : World) (g : Nat) (tl : List Value) (l : List Rec) (e : Ending) (w' : World) : Prop := e = .returned (.tuple #[]) ∧ ∃ d, SortOf cf l d ∧ SR w g tl d w'
set_option maxRecDepth 100000 in
set_option maxHeartbeats 400000 in
theorem stab_small (cf : Rec → Rec → Int) (hcf : CmpOk cf) (P : Rec → Prop) (w : World) (g : Nat) (tl : List Value) (Fb cap : Nat) (l : List Rec) (hcmp : CmpC cf P w g tl Fb) (hP : ∀ t ∈ l, P t) (h0 : l ≠ []) (hn : l.length < 20) (W0 : World) (hS : SR w g tl l W0) :
    Calls Tryz.prog 65 #[.slice (some ⟨g, 0, none⟩) l.length cap, cN l.length, .func (.func 46) #[] #[.pointer (some ⟨Fb, 0, none⟩)]] W0 (StEnd cf w g tl l) := by
  obtain ⟨x, l', rfl⟩ : ∃ x l', l = x :: l' := by cases l with | nil => exact absurd rfl h0 | cons x l' => exact ⟨x, l', rfl⟩
  have c1 := insrec_ok cf hcf P w g tl Fb cap [] [] (x, 0) (tagL 1 l') hcmp (fun t ht => hP _ (tagL_mem (l := x :: l') (k := 0) ht)) (tagL_pair (x :: l') 0) 0 (x :: l').length (x :: l').length rfl (by simp [tagL_len]) (by simp) (by omega) W0 (by
    have := tagL_recs (x :: l') 0
    rw [tagL] at this
    simp only [List.nil_append, List.append_nil, this]
    exact hS)
  rw [show ((0 : Nat) : Int) = 0 from rfl] at c1
  have g1 : ¬ (20 : Int) ≤ ((x :: l').length : Int) := by omega
  have g2 : ¬ (20 : Int) < ((x :: l').length : Int) := by omega
  generalize (x :: l').length = n at c1 g1 g2 ⊢
  clear hcmp hP hS h0 hn
  go_enter Tryz.func65, Tryz.ntmps65
  go_wp2
  refine wp_loop_rounds 1 ?_
  rw [rounds_succ]
  go_wp2_with fail
  with_reducible refine c1.mono ?_
  rintro e w1 ⟨rfl, hE⟩
  have HE := Lib.hid hE
  clear hE
  go_wp2
  refine wp_loop_rounds 1 ?_
  rw [rounds_succ]
  go_wp2
  go_end0
  obtain ⟨m, hm, hs, hW⟩ := HE.out
  exact ⟨rfl, _, ⟨m, hm, hs, rfl⟩, by simpa using hW⟩
set_option maxRecDepth 100000 in
set_option maxHeartbeats 400000 in
theorem ss_small (cf : Rec → Rec → Int) (hcf : CmpOk cf) (P : Rec → Prop) (w : World) (g : Nat) (tl : List Value) (Fb cap : Nat) (l : List Rec) (hcmp : CmpC cf P w g tl Fb) (hP : ∀ t ∈ l, P t) (h0 : l ≠ []) (hn : l.length < 20) (W0 : World) (hS : SR w g tl l W0) :
    Calls Tryz.prog 45 #[.slice (some ⟨g, 0, none⟩) l.length cap, .func (.func 46) #[] #[.pointer (some ⟨Fb, 0, none⟩)]] W0 (StEnd cf w g tl l) := by
  have c1 := stab_small cf hcf P w g tl Fb cap l hcmp hP h0 hn W0 hS
  clear hcmp hP h0 hn hS
  go_enter Tryz.func45, Tryz.ntmps45
  go_wp2_with fail
  with_reducible refine c1.mono ?_
  rintro e w1 ⟨rfl, hE⟩
  have HE := Lib.hid hE
  clear hE
  go_wp2
  go_end0
  exact ⟨rfl, HE.out⟩
def SoEnd (cf : Rec → Rec → Int) (w : World) (l : List Rec) (e : Ending) (w' : World) : Prop := ∃ v d, e = .returned v ∧ SortOf cf l d ∧ d.length = l.length ∧ w'.ownsRow w.heap.size 45 8 v d.length (flatR d) ∧ Below w.heap.size w w'
theorem SortOf.len {cf : Rec → Rec → Int} {l d : List Rec} (h : SortOf cf l d) : d.length = l.length := by
  obtain ⟨m, hm, -, rfl⟩ := h
  rw [recsT_len, hm.length_eq, tagL_len]
set_option maxRecDepth 100000 in
set_option maxHeartbeats 1000000 in
theorem dsort_small (a : Option Addr) (c : Nat) (l : List Rec) (wide : Bool) (w : World) (h0 : l ≠ []) (hn : l.length < 20) (hP : ∀ t ∈ l, PSz t) (hrow : RowR w a l) :
    Calls Tryz.prog 16 #[.slice a l.length c, .bool wide] w (SoEnd (cfW wide) w l) := by
  have hb0 : Below w.heap.size w (w.alloc (.cells #[.bool wide] 4)) := bald (Below.refl _ w) _
  have hF : (w.alloc (.cells #[.bool wide] 4)).heap[w.heap.size]? = some (.cells #[.bool wide] 4 (0, 0)) := World.alloc_heap_new _ _
  have c1 := clrec_ok a c l _ (by omega) (hrow.below hb0)
  have HF := Lib.hid hF
  have HB0 := Lib.hid hb0
  have HP := Lib.hid hP
  have HN0 := Lib.hid h0
  clear hrow hF hb0 hP h0
  go_enter Tryz.func16, Tryz.ntmps16
  go_wp2_with fail
  with_reducible refine c1.mono ?_
  rintro e w1 ⟨v, rfl, ho, hB1⟩
  have hl0 : 0 < l.length := List.length_pos_iff.2 HN0.out
  rcases ho.2 with ⟨rfl, hz⟩ | ⟨g, cap, cur, rfl, hbg, hg, hnc, hcm, hcs, htake⟩
  · omega
  have hF1 := (hB1.block _ (lt_of_block HF.out)).trans HF.out
  have hgF : w.heap.size ≠ g := by simp at hbg; omega
  have hcur : cur = (flatR l ++ cur.toList.drop (l.length * 8)).toArray := by
    apply Array.toList_inj.1
    rw [List.toList_toArray]
    conv => lhs; rw [← List.take_append_drop (l.length * 8) cur.toList]
    rw [htake]
  have hS : SR w1 g (cur.toList.drop (l.length * 8)) l w1 := ⟨by rw [← hcur]; exact hg, rfl, rfl, rfl, Nat.le_refl _, lt_of_block hg, fun _ _ _ => rfl⟩
  have c2 := ss_small (cfW wide) (cfW_ok wide) PSz w1 g _ w.heap.size cap l (cmpC_of wide hF1 hgF) HP.out HN0.out hn w1 hS
  have hbw : Below w.heap.size w w1 := bthen HB0.out hB1
  have HBW := Lib.hid hbw
  have HG := Lib.hid hbg
  have HC := Lib.hid (And.intro hnc (And.intro hcm hcs))
  clear hF1 hgF hcur hS hbw hbg hg hnc hcm hcs htake ho hB1 c1
  go_wp2_with fail
  with_reducible refine c2.mono ?_
  rintro e w2 ⟨rfl, hE⟩
  have HE := Lib.hid hE
  clear hE c2
  go_wp2
  go_ret
  obtain ⟨d, hd, hS2⟩ := HE.out
  have hlen := hd.len
  have hgw : w.heap.size ≤ g := by have := HG.out; simp at this; omega
  refine ⟨_, d, rfl, hd, hlen, ?_, hS2.out HBW.out hgw⟩
  obtain ⟨k1, k2, k3⟩ := HC.out
  refine ⟨flatR_len d, .inr ⟨g, cap, _, by rw [hlen]; rfl, hgw, hS2.row, by rw [hlen]; exact k1, k2, ?_, ?_⟩⟩
  · have := congrArg Array.size (rfl : cur = cur)
    simp only [List.size_toArray, List.length_append, flatR_len, List.length_drop, hlen]
    simp only [Array.length_toList] 
    omega
  · rw [List.toList_toArray, List.take_append_of_le_length (by rw [flatR_len]; exact Nat.le_refl _), List.take_of_length_le (by rw [flatR_len]; exact Nat.le_refl _)]
end Go.Proofs.YtnmlephjhcmbhaaGreat
