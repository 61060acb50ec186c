/- Sparing tables: slices.DeleteFunc at the entries of a packet, walked. -/
import Derived.Test.YtocncjimepnlcaaGreatDoorSpf
namespace Go.Proofs.YtocncjimepnlcaaGreatDoor
set_option linter.unusedSimpArgs false
set_option linter.unusedVariables false
open Go Go.RowKit
theorem at_append_left {a b : List Sp} {i : Nat} (h : i < a.length) : at_ (a ++ b) i = at_ a i := by
  rw [at_, at_, List.getD_eq_getElem?_getD, List.getD_eq_getElem?_getD, List.getElem?_append_left h]
theorem at_append_right {a b : List Sp} {i : Nat} (h : a.length ≤ i) : at_ (a ++ b) i = at_ b (i - a.length) := by
  rw [at_, at_, List.getD_eq_getElem?_getD, List.getD_eq_getElem?_getD, List.getElem?_append_right h]
theorem drop_at {l : List Sp} {i : Nat} (h : i < l.length) : l.drop i = at_ l i :: l.drop (i + 1) := by
  rw [List.drop_eq_getElem_cons h, at_, List.getD_eq_getElem?_getD, List.getElem?_eq_getElem h, Option.getD_some]
theorem take_at {l : List Sp} {i : Nat} (h : i < l.length) : l.take (i + 1) = l.take i ++ [at_ l i] := by
  rw [List.take_succ_eq_append_getElem h, at_, List.getD_eq_getElem?_getD, List.getElem?_eq_getElem h, Option.getD_some]
theorem remF_append (f : Int) (a b : List Sp) : remF f (a ++ b) = remF f a ++ remF f b := by simp [remF]
/-- The row in the course of DeleteFunc, behind j entries. -/
structure DS (f : Int) (l : List Sp) (j i : Nat) (c : List Sp) : Prop where
  hi : i = (remF f (l.take j)).length
  hj : j ≤ l.length
  mid : ∃ m : List Sp, m ≠ [] ∧ c = remF f (l.take j) ++ (m ++ l.drop j)
  len : c.length = l.length
theorem DS.lt {f : Int} {l : List Sp} {j i : Nat} {c : List Sp} (h : DS f l j i c) : i < j := by
  obtain ⟨m, hm, hc⟩ := h.mid
  have h1 := h.len
  rw [hc, List.length_append, List.length_append, List.length_drop, ← h.hi] at h1
  have := List.length_pos_iff.2 hm
  have := h.hj
  omega
theorem DS.get {f : Int} {l : List Sp} {j i : Nat} {c : List Sp} (h : DS f l j i c) (hj : j < l.length) : at_ c j = at_ l j := by
  obtain ⟨m, hm, hc⟩ := h.mid
  have h1 := h.len
  rw [hc, List.length_append, List.length_append, List.length_drop] at h1
  have := h.hj
  rw [hc, ← List.append_assoc, at_append_right (by rw [List.length_append]; omega), List.length_append, show j - ((remF f (l.take j)).length + m.length) = 0 by omega, drop_at hj]
  rfl
theorem DS.skip {f : Int} {l : List Sp} {j i : Nat} {c : List Sp} (h : DS f l j i c) (hj : j < l.length) (hf : (at_ l j).1 = f) : DS f l (j + 1) i c := by
  obtain ⟨m, hm, hc⟩ := h.mid
  have e : remF f (l.take (j + 1)) = remF f (l.take j) := by
    rw [take_at hj, remF_append, remF, remF, List.filter_cons]
    simp [hf]
  refine ⟨by rw [e]; exact h.hi, hj, ⟨m ++ [at_ l j], by simp, ?_⟩, h.len⟩
  rw [e, hc, drop_at hj]
  simp
theorem DS.put {f : Int} {l : List Sp} {j i : Nat} {c : List Sp} (h : DS f l j i c) (hj : j < l.length) (hf : (at_ l j).1 ≠ f) : DS f l (j + 1) (i + 1) (c.set i (at_ l j)) := by
  obtain ⟨m, hm, hc⟩ := h.mid
  have e : remF f (l.take (j + 1)) = remF f (l.take j) ++ [at_ l j] := by
    rw [take_at hj, remF_append]
    congr 1
    rw [remF, List.filter_cons]
    simp [hf]
  obtain ⟨y, m', rfl⟩ : ∃ y m', m = y :: m' := by
    cases m with
    | nil => exact absurd rfl hm
    | cons y m' => exact ⟨y, m', rfl⟩
  refine ⟨by rw [e, List.length_append, ← h.hi]; rfl, hj, ⟨m' ++ [at_ l j], by simp, ?_⟩, by rw [List.length_set]; exact h.len⟩
  rw [e, hc, List.set_append_right _ _ (by rw [h.hi]; exact Nat.le_refl _), h.hi, Nat.sub_self, drop_at hj]
  simp
theorem DS.start {f : Int} {l : List Sp} {k : Nat} (hk : k < l.length) (h1 : ∀ i, i < k → (at_ l i).1 ≠ f) (h2 : (at_ l k).1 = f) : DS f l (k + 1) k l := by
  have e0 : remF f (l.take k) = l.take k := by
    rw [remF, List.filter_eq_self]
    intro x hx
    obtain ⟨i, hi, rfl⟩ := List.getElem_of_mem hx
    rw [List.length_take] at hi
    have := h1 i (by omega)
    rw [at_, List.getD_eq_getElem?_getD, List.getElem?_eq_getElem (show i < l.length by omega), Option.getD_some] at this
    rw [List.getElem_take, bne_iff_ne]
    exact this
  have e : remF f (l.take (k + 1)) = l.take k := by
    rw [take_at hk, remF_append, e0, remF, List.filter_cons]
    simp [h2]
  refine ⟨by rw [e, List.length_take]; omega, hk, ⟨[at_ l k], by simp, ?_⟩, rfl⟩
  rw [e, List.singleton_append, ← drop_at hk, List.take_append_drop]
theorem DS.done {f : Int} {l : List Sp} {i : Nat} {c : List Sp} (h : DS f l l.length i c) : c.take i = remF f l ∧ i = (remF f l).length ∧ i < l.length := by
  have hlt := h.lt
  obtain ⟨m, hm, hc⟩ := h.mid
  have hi := h.hi
  rw [List.take_length] at hc hi
  exact ⟨by rw [hc, List.take_left' hi.symm], hi, hlt⟩
theorem remF_none {f : Int} {l : List Sp} (h : ∀ i, i < l.length → (at_ l i).1 ≠ f) : remF f l = l := by
  rw [remF, List.filter_eq_self]
  intro x hx
  obtain ⟨i, hi, rfl⟩ := List.getElem_of_mem hx
  have := h i hi
  rw [at_, List.getD_eq_getElem?_getD, List.getElem?_eq_getElem hi, Option.getD_some] at this
  rw [bne_iff_ne]
  exact this
theorem zero42 : ∀ w, (zeroValue 54).run Tryz.prog w = .ok (.agg #[cN 0, cN 0]) w := Tryz.zeroValue54
set_option maxRecDepth 100000 in
set_option maxHeartbeats 4000000 in
theorem delete_row (g cap : Nat) (l : List Sp) (f : Int) (F B : Nat) (w : World) (hl : l.length ≤ 1000) (hO : Own w g cap l) (hB : B ≤ g) (hF : w.heap[F]? = some (.cells #[cN f] 3 (0, 0))) (hBw : B ≤ w.heap.size) :
    Calls Tryz.prog 27 #[.slice (some ⟨g, 0, none⟩) l.length cap, .func (.func 29) #[] #[.pointer (some ⟨F, 0, none⟩)]] w fun e w' => e = .returned (.slice (some ⟨g, 0, none⟩) (remF f l).length cap) ∧ Own w' g cap (remF f l) ∧ Fr w w' ∧ Below B w w' := by
  have hix := index_row (some ⟨g, 0, none⟩) cap l f F w hl hF (fun k hk => ⟨g, 0, rfl, hO.lt, hO.row⟩)
  have HF := Lib.hid hF
  have HO := Lib.hid hO
  clear hF hO
  go_enter Tryz.func27, Tryz.ntmps27
  go_wp2_with (go_at_call 45; (with_reducible refine hix.mono ?_); rintro e w1 ⟨r, rfl, hr, hB1⟩; rcases hr with ⟨rfl, hno⟩ | ⟨k, rfl, hk, hno, hkf⟩; rotate_left; have hk1 : ((k : Int) == -1) = false := by { rw [beq_eq_false_iff_ne]; omega }; rotate_left)
  · have HN : Hid (remF f l = l) := Lib.hid (remF_none hno)
    clear hno hix
    go_ret
    exact ⟨by rw [HN.out]; rfl, by rw [HN.out]; exact HO.out.keep hB1, Fr.below hB1, hB1.mono hBw⟩
  · have HD : Hid (DS f l (k + 1) k l) := Lib.hid (DS.start hk hno hkf)
    have HO1 : Hid (Own w1 g cap l) := Lib.hid (HO.out.keep hB1)
    have HF1 : Hid (Fr w w1 ∧ Below B w w1) := Lib.hid ⟨Fr.below hB1, hB1.mono hBw⟩
    clear hno hkf hix
    go_loopw [5, 6] (fun i j wr => ∃ (ii jj : Nat) (c : List Sp), i = cN ii ∧ j = cN jj ∧ DS f l jj ii c ∧ Own wr g cap c ∧ Fr w wr ∧ Below B w wr) (fun _ j _ => l.length - (intOf j).toNat)
    case atStart => exact ⟨k, k + 1, l, rfl, by go_num, HD.out, HO1.out, HF1.out.1, HF1.out.2⟩
    case round =>
      obtain ⟨ii, jj, c, rfl, rfl, hD, hO, hFr, hBl⟩ := hrel
      have hij := hD.lt
      have hjl := hD.hj
      have hcl := hD.len
      have HD' := Lib.hid hD
      have HFr := Lib.hid hFr
      by_cases hlt : (jj : Int) < (l.length : Int)
      · have hjn : jj < l.length := by omega
        obtain ⟨xo, xm, hx⟩ : ∃ xo xm, at_ l jj = (xo, xm) := ⟨_, _, rfl⟩
        have hq := hO.row jj (by omega)
        rw [hD.get hjn, hx, Nat.zero_add] at hq
        obtain ⟨q0, q1⟩ := hq
        have HX := Lib.hid hx
        have HO' := Lib.hid hO
        have hF2 := hFr _ _ _ _ (by decide) HF.out
        have hF3 := (Lib.alloc_old wr (.cells #[cN xo, cN xm] 54) _ (lt_of_block hF2)).trans hF2
        have hgl := hO.lt
        have c1 := fun (W : World) (h : W.heap[F]? = some (.cells #[cN f] 3 (0, 0))) => del_ok xo xm f F W h
        clear hx hO hD hFr hF2
        cases he : (xo == f)
        · rw [he] at c1
          have HE := Lib.hid he
          clear he
          go_wp2_with (go_at_call 29; (with_reducible refine (c1 _ hF3).mono ?_); rintro e w2 ⟨rfl, hB2⟩; have hT2 := (hB2.block _ (lt_of_block (World.alloc_heap_new wr (.cells #[cN xo, cN xm] 54)))).trans (World.alloc_heap_new wr (.cells #[cN xo, cN xm] 54)); have t0 := Lib.cell_of_heap hT2 0; have t1 := Lib.cell_of_heap hT2 1; have HO2 := (HO'.out.keep ((Below.refl _ wr).alloc (Nat.le_refl _) (.cells #[cN xo, cN xm] 54))).keep hB2; have hr := HO2.row ii (by omega); rw [Nat.zero_add] at hr; obtain ⟨r0, r1⟩ := hr; have fz := HO2.frozen)
          have HS := Lib.hid (HO2.set ii (xo, xm) (by omega))
          have HB2 := Lib.hid hB2
          have HD2 : Hid (DS f l (jj + 1) (ii + 1) (c.set ii (xo, xm))) := Lib.hid (by
            have := HD'.out.put hjn (by rw [HX.out]; have := HE.out; rw [beq_eq_false_iff_ne] at this; exact this)
            rwa [HX.out] at this)
          clear q0 q1 t0 t1 r0 r1 fz hT2 HO2 hF3 c1
          go_roundw
          case rel => exact ⟨ii + 1, jj + 1, _, by go_num, by go_num, HD2.out, HS.out.1, ((HFr.out.trans (Fr.below ((Below.refl _ wr).alloc (Nat.le_refl _) _))).trans (Fr.below HB2.out)).trans HS.out.2, (((hBl.alloc (by have := hBl.size; omega) _).trans (HB2.out.mono (by have := hBl.size; simp; omega))).setCell (p := ⟨g, ii * 2, none⟩) hB _).setCell (p := ⟨g, ii * 2 + 1, none⟩) hB _⟩
          case measure => simp [intOf]; omega
        · rw [he] at c1
          have HE := Lib.hid he
          clear he
          go_wp2_with (go_at_call 29; (with_reducible refine (c1 _ hF3).mono ?_); rintro e w2 ⟨rfl, hB2⟩)
          have HB2 := Lib.hid hB2
          have HD2 : Hid (DS f l (jj + 1) ii c) := Lib.hid (HD'.out.skip hjn (by rw [HX.out]; have := HE.out; rw [beq_iff_eq] at this; exact this))
          clear q0 q1 hF3 c1
          go_roundw
          case rel => exact ⟨ii, jj + 1, c, rfl, by go_num, HD2.out, (HO'.out.keep ((Below.refl _ wr).alloc (Nat.le_refl _) _)).keep HB2.out, (HFr.out.trans (Fr.below ((Below.refl _ wr).alloc (Nat.le_refl _) _))).trans (Fr.below HB2.out), (hBl.alloc (by have := hBl.size; omega) _).trans (HB2.out.mono (by have := hBl.size; simp; omega))⟩
          case measure => simp [intOf]; omega
      · obtain rfl : jj = l.length := by omega
        obtain ⟨e1, e2, e3⟩ := hD.done
        have HE := Lib.hid (And.intro e1 e2)
        have HO' := Lib.hid hO
        have hnc : l.length ≤ cap := by obtain ⟨cur, -, -, h, -⟩ := hO; omega
        have hlen : ii + (l.length - ii) = c.length := by omega
        have hclr := fun ty => run_clear2 wr ty hO ii (l.length - ii) (cap - ii) (by omega) hlen zero42
        clear hD hO hFr e1 e2
        go_wp2
        obtain ⟨vs, hvs⟩ := hclr 0
        rw [hvs]
        obtain ⟨z1, z2, z3⟩ := HO'.out.cut ii (by omega) vs (ii * 2) (Nat.le_refl _)
        rw [HE.out.1] at z1
        have HZ := Lib.hid (And.intro z1 (And.intro z2 (z3 B hB)))
        clear hclr hvs z1 z2 z3
        go_wp2
        go_ret
        exact ⟨by rw [← HE.out.2]; rfl, HZ.out.1, HFr.out.trans HZ.out.2.1, hBl.trans HZ.out.2.2⟩
end Go.Proofs.YtocncjimepnlcaaGreatDoor
