/- Package dirrecord: the closure of Encode that writes numbers in both byte orders. -/
import Derived.Test.YtnmlephjhcmbhaaDra
import Derived.Test.YtnmlephjhcmbhaaBlf
import Derived.Test.YtnmlephjhcmbhaaRgm
import Derived.Test.YtnmlephjhcmbhaaEnb
namespace Go.Proofs.Ytnmlephjhcmbhaa
set_option linter.unusedSimpArgs false
set_option linter.unusedVariables false
open Go Go.RowKit
/-- What Both gives, for any number. -/
def inR (n : Int) (k : Nat) : Bool := decide (0 ≤ n ∧ n < 2 ^ (8 * k))
def eB (n : Int) (k : Nat) : ByteArray := if inR n k then both n.toNat k else ByteArray.empty
def eE (n : Int) (k : Nat) : Int := if inR n k then 0 else 2
theorem eB_size (n : Int) (k : Nat) : (eB n k).size ≤ 2 * k := by
  unfold eB
  split
  · rw [both_size]; omega
  · exact Nat.zero_le _
theorem both_any (n : Int) (k : Nat) (w : World) (hk : k = 1 ∨ k = 2 ∨ k = 4) :
    Calls Try.prog 51 #[cN n, cN k] w fun e w' => e = .returned (.tuple #[.string (eB n k), cN (eE n k)]) ∧ Below w.heap.size w w' := by
  unfold eB eE
  by_cases h : inR n k = true
  · rw [if_pos h, if_pos h]
    rw [inR, decide_eq_true_iff] at h
    have e : n = (n.toNat : Int) := by omega
    have := both_ok n.toNat k w hk (by rw [← e]; exact h.2)
    rw [← e] at this
    exact this
  · rw [if_neg h, if_neg h]
    rw [inR, decide_eq_true_iff] at h
    exact both_bad n k w hk h
/-- A directory record. -/
structure Rec where
  (id : ByteArray) (lba len time zone flags seq : Int) (use : ByteArray)
abbrev recA (r : Rec) : Array Value := #[.string r.id, cN r.lba, cN r.len, cN r.time, cN r.zone, cN r.flags, cN r.seq, .string r.use]
/-- Each block but those that k names is as it was. -/
theorem isB_keep {B b : Nat} {bs : List Value} {w w' : World} (h : IsB B b bs w) (hk : ∀ (k : Nat) (cs : Array Value) (T : TypeId) (fr : Nat × Nat), (k = b ∨ T = 5) → w.heap[k]? = some (.cells cs T fr) → w'.heap[k]? = some (.cells cs T fr)) : IsB B b bs w' := by
  have one : ∀ p, Lib.BuilderAt 73 5 B b p bs w → Lib.BuilderAt 73 5 B b p bs w' := fun p ⟨hB, v, hb, hown, hne⟩ => by
    refine ⟨hB, v, hk b _ _ _ (.inl rfl) hb, ⟨hown.1, ?_⟩, hne⟩
    rcases hown.2 with hn | ⟨g, cap, cur, rfl, hbg, hg, rest⟩
    · exact .inl hn
    · exact .inr ⟨g, cap, cur, rfl, hbg, hk g _ _ _ (.inr rfl) hg, rest⟩
  exact h.elim (fun x => .inl (one _ x)) (fun x => .inr (one _ x))
/-- The state of Encode: the record in block N, the error x in block eb, the builder in block b. -/
structure ES (w : World) (eb b : Nat) (r : Rec) (x : Int) (bs : List UInt8) (W : World) : Prop where
  hr : W.heap[w.heap.size]? = some (.cells (recA r) 23 (0, 0))
  hx : W.heap[eb]? = some (.cells #[cN x] 25 (0, 0))
  hb : IsB w.heap.size b (cb bs) W
  ne1 : w.heap.size < eb
  ne2 : eb < b
  bel : Below w.heap.size w W
theorem ES.other {w : World} {eb b : Nat} {r : Rec} {x : Int} {bs : List UInt8} {W W' : World} (h : ES w eb b r x bs W) (k : Below W.heap.size W W') : ES w eb b r x bs W' :=
  ⟨(k.block _ (lt_of_block h.hr)).trans h.hr, (k.block _ (lt_of_block h.hx)).trans h.hx, isB_keep h.hb fun _ _ _ _ _ hw => (k.block _ (lt_of_block hw)).trans hw, h.ne1, h.ne2, h.bel.trans (k.mono h.bel.size)⟩
theorem ES.alloc {w : World} {eb b : Nat} {r : Rec} {x : Int} {bs : List UInt8} {W : World} (h : ES w eb b r x bs W) (o : Obj) : ES w eb b r x bs (W.alloc o) := h.other ((Below.refl _ W).alloc (Nat.le_refl _) o)
theorem ES.drew {w : World} {eb b : Nat} {r : Rec} {x : Int} {bs : List UInt8} {W : World} (h : ES w eb b r x bs W) : ES w eb b r x bs W.drew := h.other (Below.refl _ W).drew
theorem ES.wrote {w : World} {eb b : Nat} {r : Rec} {x : Int} {bs bs' : List UInt8} {W W' : World} (h : ES w eb b r x bs W) (k : Bd w.heap.size b (ptr b) (cb bs') W') (k2 : Below w.heap.size W W') (k3 : Fr5 b W W') : ES w eb b r x bs' W' :=
  ⟨k3 _ _ _ _ (by have := h.ne1; have := h.ne2; omega) (by decide) h.hr, k3 _ _ _ _ (by have := h.ne2; omega) (by decide) h.hx, .inr k, h.ne1, h.ne2, h.bel.trans k2⟩
theorem ES.setX {w : World} {eb b : Nat} {r : Rec} {x : Int} {bs : List UInt8} {W : World} (h : ES w eb b r x bs W) (y : Int) : ES w eb b r y bs (W.setCell ⟨eb, 0, none⟩ (cN y)) :=
  ⟨row_other 0 _ h.hr (by have := h.ne1; omega), row_set 0 _ h.hx, isB_keep h.hb fun k cs T fr hk hw => (by
      refine row_other 0 _ hw fun e => ?_
      subst e
      rcases hk with hk | hk
      · have := h.ne2; omega
      · rw [h.hx] at hw
        simp only [Option.some.injEq, Obj.cells.injEq] at hw
        rw [hk] at hw
        exact absurd hw.2.1 (by decide)), h.ne1, h.ne2, h.bel.setCell (p := ⟨eb, 0, none⟩) (Nat.le_of_lt h.ne1) _⟩
theorem ES.cx {w : World} {eb b : Nat} {r : Rec} {x : Int} {bs : List UInt8} {W : World} (h : ES w eb b r x bs W) : W.cell? ⟨eb, 0, none⟩ = some (cN x) := by rw [Lib.cell_of_heap h.hx]; rfl
theorem ES.fx {w : World} {eb b : Nat} {r : Rec} {x : Int} {bs : List UInt8} {W : World} (h : ES w eb b r x bs W) : W.frozen? ⟨eb, 0, none⟩ = false := Lib.frozen_of_heap h.hx 0
theorem cb_append (l m : List UInt8) : cb (l ++ m) = cb l ++ cb m := by simp [cb]
theorem cb_str (s : ByteArray) : cb s.data.toList = Lib.strCells s := rfl
/-- The numbers that the closure writes, with their sizes, as cells. -/
def flatP : List (Int × Nat) → List Value
  | [] => []
  | p :: ps => cN p.1 :: cN p.2 :: flatP ps
theorem flatP_get : ∀ (ps : List (Int × Nat)) (k : Nat) (p : Int × Nat), ps[k]? = some p → (flatP ps)[2 * k]? = some (cN p.1) ∧ (flatP ps)[2 * k + 1]? = some (cN p.2)
  | [], k, p, h => by simp at h
  | q :: ps, 0, p, h => by
    simp only [List.getElem?_cons_zero, Option.some.injEq] at h
    subst h
    exact ⟨rfl, rfl⟩
  | q :: ps, k + 1, p, h => by
    have := flatP_get ps k p (by simpa using h)
    exact this
def wrongs (x : Int) : List (Int × Nat) → Int
  | [] => x
  | p :: ps => wrongs (if inR p.1 p.2 then x else 2) ps
def outs (ps : List (Int × Nat)) : List UInt8 := ps.flatMap fun p => (eB p.1 p.2).data.toList
theorem wrongs_snoc (p : Int × Nat) : ∀ (ps : List (Int × Nat)) (x : Int), wrongs x (ps ++ [p]) = if inR p.1 p.2 then wrongs x ps else 2
  | [], _ => rfl
  | _ :: ps, _ => wrongs_snoc p ps _
theorem outs_snoc (p : Int × Nat) (ps : List (Int × Nat)) : outs (ps ++ [p]) = outs ps ++ (eB p.1 p.2).data.toList := by simp [outs]
theorem outs_le (ps : List (Int × Nat)) (h : ∀ p ∈ ps, p.2 ≤ 4) : (outs ps).length ≤ 8 * ps.length := by
  induction ps with
  | nil => simp [outs]
  | cons p ps ih =>
    have h1 := ih fun q hq => h q (List.mem_cons_of_mem _ hq)
    have h2 := eB_size p.1 p.2
    have h3 := h p (List.mem_cons_self ..)
    simp only [outs, List.flatMap_cons, List.length_append, list_size, List.length_cons] at h1 ⊢
    omega
theorem take_next {ps : List (Int × Nat)} {k : Nat} {p : Int × Nat} (h : ps[k]? = some p) : ps.take (k + 1) = ps.take k ++ [p] := by
  obtain ⟨hk, rfl⟩ := List.getElem?_eq_some_iff.1 h
  rw [List.take_succ_eq_append_getElem hk]
set_option maxRecDepth 100000 in
set_option maxHeartbeats 2000000 in
theorem numbers_ok (w : World) (eb b g0 n cap : Nat) (r : Rec) (x : Int) (bs : List UInt8) (ps : List (Int × Nat)) (W : World) (H : ES w eb b r x bs W) (hg : W.heap[g0]? = some (.cells (flatP ps).toArray 3 (0, 0))) (hgb : g0 ≠ b) (hge : g0 ≠ eb)
    (hn : n = 2 * ps.length) (hps : ∀ p ∈ ps, p.2 = 1 ∨ p.2 = 2 ∨ p.2 = 4) (hlen : bs.length ≤ 1000) (hm : ps.length ≤ 10) :
    Calls Try.prog 50 #[.slice (some ⟨g0, 0, none⟩) n cap, ptr eb, ptr b] W fun e W' => e = .returned (.tuple #[]) ∧ ES w eb b r (wrongs x ps) (bs ++ outs ps) W' := by
  have HN := Lib.hid hn
  have HG := Lib.hid hg
  have hn1 : (n : Int) ≤ 20 := by omega
  clear hn hg
  go_enter Try.func50, Try.ntmps50
  go_wp2
  go_loopw [4] (fun i wr => ∃ k : Nat, i = cN (2 * (k : Int)) ∧ k ≤ ps.length ∧ ES w eb b r (wrongs x (ps.take k)) (bs ++ outs (ps.take k)) wr ∧ Hid (wr.heap[g0]? = some (.cells (flatP ps).toArray 3 (0, 0)))) (fun i _ => n - (intOf i).toNat)
  case atStart => exact ⟨0, by simp, Nat.zero_le _, by simpa [wrongs, outs] using H, HG⟩
  case round =>
    obtain ⟨k, rfl, hk, HE, HG⟩ := hrel
    by_cases hlt : k < ps.length
    · obtain ⟨p, hp⟩ : ∃ p, ps[k]? = some p := ⟨_, List.getElem?_eq_getElem hlt⟩
      have hpm : p ∈ ps := List.mem_of_getElem? hp
      have hk2 := hps p hpm
      have hp4 : (2 : Int) * k + 1 < (n : Int) := by have := HN.out; omega
      have hl := outs_le (ps.take k) (fun q hq => by have := hps q (List.mem_of_mem_take hq); omega)
      rw [List.length_take] at hl
      have es := eB_size p.1 p.2
      have HC := Lib.hid (flatP_get ps k p hp)
      have HW := Lib.hid (wrongs_snoc p (ps.take k) x)
      have HO := Lib.hid (outs_snoc p (ps.take k))
      have HT := Lib.hid (take_next hp)
      have c1 := fun W => both_any p.1 p.2 W hk2
      have HQ : Hid ((bs ++ outs (ps.take k)).length ≤ 2000) := Lib.hid (by rw [List.length_append]; omega)
      have es2 : Hid ((eB p.1 p.2).size ≤ 8) := Lib.hid (by omega)
      clear hps hl es hp hpm hk2
      obtain ⟨bs2, hbs2⟩ : ∃ z, bs ++ outs (ps.take k) = z := ⟨_, rfl⟩
      obtain ⟨x2, hx2⟩ : ∃ z, wrongs x (ps.take k) = z := ⟨_, rfl⟩
      obtain ⟨n1, n2⟩ := p
      simp only at c1 es2 HC HW HO HT
      rw [hbs2] at HE HQ
      rw [hx2] at HE HW
      have HBS := Lib.hid hbs2
      clear hbs2 hx2
      have hi : (2 : Int) * (k : Int) < (n : Int) := by omega
      have hi0 : (0 : Int) ≤ 2 * (k : Int) := by omega
      have ht0 : (2 * (k : Int)).toNat = 2 * k := by omega
      have ht1 : (2 * (k : Int) + 1).toNat = 2 * k + 1 := by omega
      have hw1 : IntKind.i64.wrap (2 * (k : Int) + 1) = 2 * (k : Int) + 1 := by rw [IntKind.wrap_i64]; omega
      have hi1 : (0 : Int) ≤ 2 * (k : Int) + 1 := by omega
      have hE := HE.drew
      have hS0 : wr.drew.heap[g0]? = some (.cells (flatP ps).toArray 3 (0, 0)) := HG.out
      have HS0 := Lib.hid hS0
      obtain ⟨HC0, HC1⟩ : Hid ((flatP ps)[2 * k]? = some (cN n1)) ∧ Hid ((flatP ps)[2 * k + 1]? = some (cN n2)) := ⟨Lib.hid HC.out.1, Lib.hid HC.out.2⟩
      clear HC hS0
      have hEE : (inR n1 n2 = true ∧ eE n1 n2 = 0) ∨ (inR n1 n2 = false ∧ eE n1 n2 = 2) := by
        unfold eE; cases inR n1 n2 <;> simp
      rcases hEE with ⟨h1, h2⟩ | ⟨h1, h2⟩
      · rw [h2] at c1
        rw [h1, if_pos rfl] at HW
        clear h1 h2
        go_wp2
        refine region_sch (fun W' => W'.heap[g0]? = some (.cells (flatP ps).toArray 3 (0, 0))) [(true, 0), (true, 1), (true, 2), (true, 3), (true, 4), (true, 5), (true, 6), (true, 7), (true, 8), (false, 9), (true, 10), (true, 11), (true, 12), (true, 13)] [14] (by kernel_rfl) (by kernel_rfl) (by rintro ⟨_, _, h, _⟩; cases h) (fun _ _ d _ _ h => by cases d <;> exact h) HS0.out ?_
        simp only [pickM, pickT, List.filterMap_cons, List.filterMap_nil, List.getElem?_cons_zero, List.getElem?_cons_succ, Option.map_some]
        repeat (first | (refine m_float ⟨?_, .inl ⟨?_, .inl ?_⟩, fun K' hK => ?_⟩; rotate_left; (first | rfl | (go_simp; done)); (intro w' hS; have q0 := (Lib.cell_of_heap hS (2 * k)).trans ((List.getElem?_toArray ..).trans HC0.out); have q1 := (Lib.cell_of_heap hS (2 * k + 1)).trans ((List.getElem?_toArray ..).trans HC1.out); clear hS; go_simp; try rfl); (simp only [Act.put, List.setIfInBounds_toArray, List.set_cons_succ, List.set_cons_zero]; refine hK _ ?_; clear hK K')) | (refine m_float ⟨undef, .inr ⟨?_, rfl⟩, fun K' hK => ?_⟩; (first | rfl | (go_simp; done)); (simp only [Act.put, List.setIfInBounds_toArray, List.set_cons_succ, List.set_cons_zero]; refine hK _ ?_; clear hK K')))
        refine m_loud ?_ (fun K' hK => ?_)
        · rintro ⟨_, _, h, _⟩; cases h
        go_wp2_with (go_at_call 51; (with_reducible refine (c1 _).mono ?_); rintro e w1 ⟨rfl, hB⟩)
        have hE1 := hE.other hB
        have HS1 := Lib.hid ((hB.block _ (lt_of_block HS0.out)).trans HS0.out)
        refine hK _ _ HS1.out ?_
        clear hK K'
        repeat (first | (refine m_float ⟨?_, .inl ⟨?_, .inl ?_⟩, fun K' hK => ?_⟩; rotate_left; (first | rfl | (go_simp; done)); (intro w' hS; skip; go_simp; try rfl); (simp only [Act.put, List.setIfInBounds_toArray, List.set_cons_succ, List.set_cons_zero]; refine hK _ ?_; clear hK K')) | (refine m_float ⟨undef, .inr ⟨?_, rfl⟩, fun K' hK => ?_⟩; (first | rfl | (go_simp; done)); (simp only [Act.put, List.setIfInBounds_toArray, List.set_cons_succ, List.set_cons_zero]; refine hK _ ?_; clear hK K')))
        refine m_nil ?_
        show wpList Try.prog _ _ (List.cons _ _) _ _
        have hq : (cb bs2).length + (eB n1 n2).size ≤ 140737488355328 := by
          rw [cb_length]; have := HQ.out; have := es2.out; omega
        go_wp2_with (go_at_call 52; (with_reducible refine (writeString_f _ b _ (eB n1 n2) _ hE1.hb hq hE1.bel.size).mono ?_); rintro e w2 ⟨rfl, ⟨hd, hbl⟩, hfr⟩)
        have HG2 := Lib.hid (hfr.out g0 _ _ _ hgb (by decide) HS1.out)
        rw [← cb_str, ← cb_append] at hd
        have HE2 := hE1.wrote hd hbl hfr.out
        clear hd hbl hfr
        go_roundw
        case rel =>
          refine ⟨k + 1, by go_num, by omega, ?_, HG2⟩
          rw [HT.out, HW.out, HO.out, ← List.append_assoc, HBS.out]
          exact HE2
        case measure => simp [intOf]; omega
      · rw [h2] at c1
        rw [h1, if_neg (by decide)] at HW
        clear h1 h2
        go_wp2
        refine region_sch (fun W' => W'.heap[g0]? = some (.cells (flatP ps).toArray 3 (0, 0))) [(true, 0), (true, 1), (true, 2), (true, 3), (true, 4), (true, 5), (true, 6), (true, 7), (true, 8), (false, 9), (true, 10), (true, 11), (true, 12), (true, 13)] [14] (by kernel_rfl) (by kernel_rfl) (by rintro ⟨_, _, h, _⟩; cases h) (fun _ _ d _ _ h => by cases d <;> exact h) HS0.out ?_
        simp only [pickM, pickT, List.filterMap_cons, List.filterMap_nil, List.getElem?_cons_zero, List.getElem?_cons_succ, Option.map_some]
        repeat (first | (refine m_float ⟨?_, .inl ⟨?_, .inl ?_⟩, fun K' hK => ?_⟩; rotate_left; (first | rfl | (go_simp; done)); (intro w' hS; have q0 := (Lib.cell_of_heap hS (2 * k)).trans ((List.getElem?_toArray ..).trans HC0.out); have q1 := (Lib.cell_of_heap hS (2 * k + 1)).trans ((List.getElem?_toArray ..).trans HC1.out); clear hS; go_simp; try rfl); (simp only [Act.put, List.setIfInBounds_toArray, List.set_cons_succ, List.set_cons_zero]; refine hK _ ?_; clear hK K')) | (refine m_float ⟨undef, .inr ⟨?_, rfl⟩, fun K' hK => ?_⟩; (first | rfl | (go_simp; done)); (simp only [Act.put, List.setIfInBounds_toArray, List.set_cons_succ, List.set_cons_zero]; refine hK _ ?_; clear hK K')))
        refine m_loud ?_ (fun K' hK => ?_)
        · rintro ⟨_, _, h, _⟩; cases h
        go_wp2_with (go_at_call 51; (with_reducible refine (c1 _).mono ?_); rintro e w1 ⟨rfl, hB⟩)
        have hE1 := hE.other hB
        have HS1 := Lib.hid ((hB.block _ (lt_of_block HS0.out)).trans HS0.out)
        refine hK _ _ HS1.out ?_
        clear hK K'
        repeat (first | (refine m_float ⟨?_, .inl ⟨?_, .inl ?_⟩, fun K' hK => ?_⟩; rotate_left; (first | rfl | (go_simp; done)); (intro w' hS; skip; go_simp; try rfl); (simp only [Act.put, List.setIfInBounds_toArray, List.set_cons_succ, List.set_cons_zero]; refine hK _ ?_; clear hK K')) | (refine m_float ⟨undef, .inr ⟨?_, rfl⟩, fun K' hK => ?_⟩; (first | rfl | (go_simp; done)); (simp only [Act.put, List.setIfInBounds_toArray, List.set_cons_succ, List.set_cons_zero]; refine hK _ ?_; clear hK K')))
        refine m_nil ?_
        show wpList Try.prog _ _ (List.cons _ _) _ _
        have cx := hE1.cx
        have fx := hE1.fx
        have hE2 := hE1.setX 2
        have HS2 := Lib.hid (row_other (B' := eb) 0 (cN 2) HS1.out hge)
        have hq : (cb bs2).length + (eB n1 n2).size ≤ 140737488355328 := by
          rw [cb_length]; have := HQ.out; have := es2.out; omega
        go_wp2_with (go_at_call 52; (with_reducible refine (writeString_f _ b _ (eB n1 n2) _ hE2.hb hq hE2.bel.size).mono ?_); rintro e w2 ⟨rfl, ⟨hd, hbl⟩, hfr⟩)
        have HG2 := Lib.hid (hfr.out g0 _ _ _ hgb (by decide) HS2.out)
        rw [← cb_str, ← cb_append] at hd
        have HE2 := hE2.wrote hd hbl hfr.out
        clear hd hbl hfr
        go_roundw
        case rel =>
          refine ⟨k + 1, by go_num, by omega, ?_, HG2⟩
          rw [HT.out, HW.out, HO.out, ← List.append_assoc, HBS.out]
          exact HE2
        case measure => simp [intOf]; omega
    · obtain rfl : k = ps.length := by omega
      have hge : ¬ (2 : Int) * (ps.length : Int) + 1 < (n : Int) := by have := HN.out; omega
      rw [List.take_length] at HE
      go_wp2
      go_end0
      exact ⟨rfl, HE⟩
end Go.Proofs.Ytnmlephjhcmbhaa
