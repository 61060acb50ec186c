/- The law SparingReplaces, walked. -/
import Derived.Test.YtocncjimepnlcaaGreatCnk
import Derived.Test.YtocncjimepnlcaaGreatCnj
import Derived.Test.YtocncjimepnlcaaGreatCnb
import Derived.Test.YtocncjimepnlcaaGreatCmi
namespace Go.Proofs.YtocncjimepnlcaaGreat
set_option linter.unusedSimpArgs false
set_option linter.unusedVariables false
open Go Go.RowKit
/-- The world in the course of the law. -/
structure QW (w : World) (s : Int) (v : Value) (l : List Sp) (p0 p1 : Int) (a : Option Addr) (ks : List Int) (W : World) : Prop where
  b0 : W.heap[w.heap.size]? = some (.cells #[cN s, v] 26 (0, 0))
  b1 : W.heap[w.heap.size + 1]? = some (.cells #[cN p0, cN p1] 23 (0, 0))
  sl : SL W v l
  row : RowI W a ks
  bel : Below w.heap.size w W
theorem QW.below {w : World} {s : Int} {v : Value} {l : List Sp} {p0 p1 : Int} {a : Option Addr} {ks : List Int} {W W' : World} (h : QW w s v l p0 p1 a ks W) (k : Below W.heap.size W W') : QW w s v l p0 p1 a ks W' :=
  ⟨(k.block _ (lt_of_block h.b0)).trans h.b0, (k.block _ (lt_of_block h.b1)).trans h.b1, h.sl.below k, h.row.below k, bthen h.bel k⟩
theorem QW.start (w : World) (s : Int) (v : Value) (l : List Sp) (p0 p1 : Int) (a : Option Addr) (ks : List Int) (h : SL w v l) (hr : RowI w a ks) : QW w s v l p0 p1 a ks ((w.alloc (.cells #[cN s, v] 26)).alloc (.cells #[cN p0, cN p1] 23)) := by
  refine ⟨(Lib.alloc_old _ _ _ (by simp)).trans (World.alloc_heap_new w _), ?_, h.below (bal (bal (Below.refl _ w) _) _), hr.below (bal (bal (Below.refl _ w) _) _), bal (bal (Below.refl _ w) _) _⟩
  have := World.alloc_heap_new (w.alloc (.cells #[cN s, v] 26)) (.cells #[cN p0, cN p1] 23)
  rwa [World.size_alloc] at this
set_option maxRecDepth 100000 in
set_option maxHeartbeats 1000000 in
theorem lsrepl_big (p0 p1 s : Int) (a1 : Option Addr) (c1 : Nat) (l : List Sp) (x : Int) (a : Option Addr) (c : Nat) (ks : List Int) (w : World) (hn : (20 : Int) < (l.length : Int)) (h : SL w (.slice a1 l.length c1) l) (hr : RowI w a ks) :
    Calls Tryz.prog 4 #[.agg #[cN s, .slice a1 l.length c1], .agg #[cN p0, cN p1], cN x, .slice a ks.length c] w fun e w' => e = .returned (.bool true) ∧ Below w.heap.size w w' := by
  have hd := decide_eq_true hn
  have H := Lib.hid (QW.start w s _ l p0 p1 a ks h hr)
  clear h hr
  go_enter Tryz.func4, Tryz.ntmps4
  go_wp2_with (first | (go_at_call 5; (with_reducible refine (awake_ok _).mono ?_); rintro e w1 ⟨rfl, hB1⟩; have H1 := H.out.below hB1; clear hB1 H; have p1' := Lib.cell_of_heap H1.b0 0; have p2' := Lib.cell_of_heap H1.b0 1; have H := Lib.hid H1; clear H1) | (go_at_call 6; (with_reducible refine (few_ok s a1 l.length c1 _ _ (World.alloc_heap_new _ _)).mono ?_); rw [hd]; rintro e w2 ⟨rfl, hB2⟩))
  go_ret
  exact ⟨rfl, bthen (bal H.out.bel _) hB2⟩
set_option maxRecDepth 100000 in
set_option maxHeartbeats 1000000 in
theorem lsrepl_many (p0 p1 s : Int) (a1 : Option Addr) (c1 : Nat) (l : List Sp) (x : Int) (a : Option Addr) (c : Nat) (ks : List Int) (w : World) (hn : ¬ (20 : Int) < (l.length : Int)) (hm : (6 : Int) < (ks.length : Int)) (h : SL w (.slice a1 l.length c1) l) (hr : RowI w a ks) :
    Calls Tryz.prog 4 #[.agg #[cN s, .slice a1 l.length c1], .agg #[cN p0, cN p1], cN x, .slice a ks.length c] w fun e w' => e = .returned (.bool true) ∧ Below w.heap.size w w' := by
  have hd := decide_eq_false hn
  have H := Lib.hid (QW.start w s _ l p0 p1 a ks h hr)
  clear h hr
  go_enter Tryz.func4, Tryz.ntmps4
  go_wp2_with (first | (go_at_call 5; (with_reducible refine (awake_ok _).mono ?_); rintro e w1 ⟨rfl, hB1⟩; have H1 := H.out.below hB1; clear hB1 H; have p1' := Lib.cell_of_heap H1.b0 0; have p2' := Lib.cell_of_heap H1.b0 1; have H := Lib.hid H1; clear H1) | (go_at_call 6; (with_reducible refine (few_ok s a1 l.length c1 _ _ (World.alloc_heap_new _ _)).mono ?_); rw [hd]; rintro e w2 ⟨rfl, hB2⟩))
  go_ret
  exact ⟨rfl, bthen (bal H.out.bel _) hB2⟩
set_option maxRecDepth 100000 in
set_option maxHeartbeats 8000000 in
theorem lsrepl_small (p0 p1 s : Int) (a1 : Option Addr) (c1 : Nat) (l : List Sp) (x : Int) (a : Option Addr) (c : Nat) (ks : List Int) (w : World) (hn : ¬ (20 : Int) < (l.length : Int)) (hm : ¬ (6 : Int) < (ks.length : Int)) (hx : x < 9223372036854775808) (h : SL w (.slice a1 l.length c1) l) (hr : RowI w a ks) :
    Calls Tryz.prog 4 #[.agg #[cN s, .slice a1 l.length c1], .agg #[cN p0, cN p1], cN x, .slice a ks.length c] w fun e w' => e = .returned (.bool true) ∧ Below w.heap.size w w' := by
  have hd := decide_eq_false hn
  have H := Lib.hid (QW.start w s _ l p0 p1 a ks h hr)
  have k1 := fun W (h : SL W (.slice a1 l.length c1) l) => lk_ok _ l p0 p1 x W h (by omega) hx
  have k2 := fun W (h : SL W (.slice a1 l.length c1) l) => rlk_ok _ l p0 p1 x W h (by omega) hx
  have k3 := fun W (h : SL W (.slice a1 l.length c1) l) => srep_ok s x _ l W h
  have k4 := fun W (h : SL W (.slice a1 l.length c1) l) => rsrep_ok s x _ l W h
  have k5 := fun W (h : SL W (.slice a1 l.length c1) l) (hr : RowI W a ks) => supd_ok s _ l a c ks W h hr (by omega)
  have k6 := fun W (h : SL W (.slice a1 l.length c1) l) (hr : RowI W a ks) => rsupd_ok s _ l a c ks W h hr (by omega)
  have hrl := repL_len s x l (by omega)
  have hul : (updL s l ks).length ≤ 1000 := by
    unfold updL
    split
    · rw [List.length_map]; omega
    · exact Nat.zero_le _
  unfold RepR at k3 k4
  unfold UpdR at k5 k6
  generalize lkN l p0 p1 x = LN at k1 k2
  generalize lkE p1 x = LE at k1 k2
  generalize repL s x l = RL at k3 k4 hrl
  generalize repS s x l = RS at k3 k4
  generalize repM s x l = RM at k3 k4
  generalize repE s x l = RE at k3 k4
  generalize updL s l ks = UL at k5 k6 hul
  generalize updE s l ks = UE at k5 k6
  have HRL := Lib.hid hrl
  have HUL := Lib.hid hul
  clear h hr hrl hul hn hx
  go_enter Tryz.func4, Tryz.ntmps4
  go_wp2_with (first | (go_at_call 5; (with_reducible refine (awake_ok _).mono ?_); rintro e w1 ⟨rfl, hB1⟩; have H1 := H.out.below hB1; clear hB1 H; have p1' := Lib.cell_of_heap H1.b0 0; have p2' := Lib.cell_of_heap H1.b0 1; have p3' := Lib.cell_of_heap H1.b1 0; have p4' := Lib.cell_of_heap H1.b1 1; have H := Lib.hid H1; clear H1) | (go_at_call 6; (with_reducible refine (few_ok s a1 l.length c1 _ _ (World.alloc_heap_new _ _)).mono ?_); rw [hd]; rintro e w2 ⟨rfl, hB2⟩; have H1 := (H.out.below ((Below.refl _ _).alloc (Nat.le_refl _) _)).below hB2; clear hB2 H p1' p2' p3' p4'; have p1' := Lib.cell_of_heap H1.b0 0; have p2' := Lib.cell_of_heap H1.b0 1; have p3' := Lib.cell_of_heap H1.b1 0; have p4' := Lib.cell_of_heap H1.b1 1; have H := Lib.hid H1; clear H1))
  with_reducible refine (k1 _ H.out.sl).mono ?_
  rintro e w3 ⟨rfl, hB3⟩
  have H1 := H.out.below hB3
  clear hB3
  clear H p1' p2' p3' p4'
  have H := Lib.hid H1
  have p1' := Lib.cell_of_heap H.out.b0 0
  have p2' := Lib.cell_of_heap H.out.b0 1
  have p3' := Lib.cell_of_heap H.out.b1 0
  have p4' := Lib.cell_of_heap H.out.b1 1
  clear H1
  go_wp2_with fail
  with_reducible refine (k2 _ H.out.sl).mono ?_
  rintro e w4 ⟨rfl, hB4⟩
  have H1 := H.out.below hB4
  clear hB4
  clear H p1' p2' p3' p4'
  have H := Lib.hid H1
  have p1' := Lib.cell_of_heap H.out.b0 0
  have p2' := Lib.cell_of_heap H.out.b0 1
  have p3' := Lib.cell_of_heap H.out.b1 0
  have p4' := Lib.cell_of_heap H.out.b1 1
  clear H1
  go_wp2_with fail
  with_reducible refine (k3 _ H.out.sl).mono ?_
  rintro e w5 ⟨v5, rfl, hS5, hB5⟩
  obtain ⟨a5, c5, rfl⟩ := hS5.form
  have T5 := Lib.hid (TB.new (s := RS) hS5)
  have H1 := (H.out.below hB5).below ((Below.refl _ _).alloc (Nat.le_refl _) (.cells #[cN RS, .slice a5 RL.length c5] 26))
  clear hB5 hS5
  clear H p1' p2' p3' p4'
  have H := Lib.hid H1
  have p1' := Lib.cell_of_heap H.out.b0 0
  have p2' := Lib.cell_of_heap H.out.b0 1
  have p3' := Lib.cell_of_heap H.out.b1 0
  have p4' := Lib.cell_of_heap H.out.b1 1
  clear H1
  go_wp2_with fail
  generalize w5.heap.size = x5 at *
  with_reducible refine (k4 _ H.out.sl).mono ?_
  rintro e w6 ⟨v6, rfl, hS6, hB6⟩
  obtain ⟨a6, c6, rfl⟩ := hS6.form
  have T6 := Lib.hid (TB.new (s := RS) hS6)
  have T5' := Lib.hid ((T5.out.below hB6).below ((Below.refl _ _).alloc (Nat.le_refl _) (.cells #[cN RS, .slice a6 RL.length c6] 26)))
  have H1 := (H.out.below hB6).below ((Below.refl _ _).alloc (Nat.le_refl _) (.cells #[cN RS, .slice a6 RL.length c6] 26))
  clear hB6 hS6 T5
  clear H p1' p2' p3' p4'
  have H := Lib.hid H1
  have p1' := Lib.cell_of_heap H.out.b0 0
  have p2' := Lib.cell_of_heap H.out.b0 1
  have p3' := Lib.cell_of_heap H.out.b1 0
  have p4' := Lib.cell_of_heap H.out.b1 1
  clear H1
  go_wp2_with fail
  generalize w6.heap.size = x6 at *
  with_reducible refine (k5 _ H.out.sl H.out.row).mono ?_
  rintro e w7 ⟨v7, rfl, hU7, hB7⟩
  have T5 := Lib.hid (T5'.out.below hB7)
  have T6' := Lib.hid (T6.out.below hB7)
  have H1 := H.out.below hB7
  have HU7 := Lib.hid hU7
  obtain ⟨a7, c7, rfl, -⟩ := hU7
  clear hB7 T5' T6
  clear H p1' p2' p3' p4'
  have H := Lib.hid H1
  have p1' := Lib.cell_of_heap H.out.b0 0
  have p2' := Lib.cell_of_heap H.out.b0 1
  have p3' := Lib.cell_of_heap H.out.b1 0
  have p4' := Lib.cell_of_heap H.out.b1 1
  clear H1
  go_wp2_with fail
  with_reducible refine (k6 _ H.out.sl H.out.row).mono ?_
  rintro e w8 ⟨v8, rfl, hU8, hB8⟩
  have T5' := Lib.hid (T5.out.below hB8)
  have T6 := Lib.hid (T6'.out.below hB8)
  have HU7' := Lib.hid (HU7.out.below hB8)
  have H1 := H.out.below hB8
  have HU8 := Lib.hid hU8
  obtain ⟨a8, c8, rfl, -⟩ := hU8
  clear hB8 T5 T6' HU7
  clear H p1' p2' p3' p4'
  have H := Lib.hid H1
  have p1' := Lib.cell_of_heap H.out.b0 0
  have p2' := Lib.cell_of_heap H.out.b0 1
  have p3' := Lib.cell_of_heap H.out.b1 0
  have p4' := Lib.cell_of_heap H.out.b1 1
  clear H1
  have q1 := Lib.cell_of_heap T5'.out.b 0
  have q2 := Lib.cell_of_heap T5'.out.b 1
  have q3 := Lib.cell_of_heap T6.out.b 0
  have q4 := Lib.cell_of_heap T6.out.b 1
  go_wp2_with fail
  with_reducible refine (same_sl RS _ _ RL _ HRL.out T5'.out.sl T6.out.sl).mono ?_
  rintro e w9 ⟨rfl, hB9⟩
  have HB9 := Lib.hid (bthen H.out.bel hB9)
  have U7 := Lib.hid (HU7'.out.below hB9)
  have U8 := Lib.hid (HU8.out.below hB9)
  clear hB9 q1 q2 q3 q4 p1' p2' p3' p4'
  go_wp2_with (go_at_call 20; (with_reducible refine (rswrites_ok _ _ UL _ HUL.out U7.out U8.out).mono ?_); rintro e w10 ⟨rfl, hB10⟩)
  go_ret
  refine ⟨by simp, bthen HB9.out hB10⟩
end Go.Proofs.YtocncjimepnlcaaGreat
