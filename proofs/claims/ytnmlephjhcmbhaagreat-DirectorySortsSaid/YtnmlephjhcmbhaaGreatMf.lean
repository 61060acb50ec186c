/- Package dirrecord and its reference: padded, Size, fits. Package dirrecord: the closure of Encode that writes numbers in both byte orders. Package dirrecord: Encode. Package dirrecord: Encode, walked. Package dirrecord: Encode, where the record is good. -/
import Derived.Test.YtnmlephjhcmbhaaGreatMb
import Derived.Test.YtnmlephjhcmbhaaGreatMa
import Derived.Test.YtnmlephjhcmbhaaGreatShelf
namespace Go.Proofs.YtnmlephjhcmbhaaGreat
set_option linter.unusedSimpArgs false
set_option linter.unusedVariables false
open Go Go.RowKit
abbrev cN (n : Int) : Value := .int .i64 n
/-- The size of a directory record, for any numbers. -/
def sizeI (i u : Int) : Int := if (1 ≤ i ∧ i ≤ 254) ∧ (0 ≤ u ∧ u ≤ 254) ∧ u % 2 = 0 ∧ (33 + i + 1) / 2 * 2 + u ≤ 254 then (33 + i + 1) / 2 * 2 + u else 0
set_option maxRecDepth 100000 in
set_option maxHeartbeats 400000 in
theorem padded_ok (i : Int) (w : World) (h0 : 0 ≤ i) (h1 : i ≤ 1000000) : Calls Tryz.prog 75 #[cN i] w fun e w' => e = .returned (cN ((33 + i + 1) / 2 * 2)) ∧ w = w' := by
  go_enter Tryz.func75, Tryz.ntmps75
  go_wp2
  go_ret
  exact ⟨rfl, rfl⟩
theorem par_cases (u : Int) : (u % 2 = 0 ∧ (u % 2 != 0) = false ∧ (u % 2 == 1) = false) ∨ (¬ u % 2 = 0 ∧ (u % 2 != 0) = true ∧ (u % 2 == 1) = true) := by
  rcases (by omega : u % 2 = 0 ∨ u % 2 = 1) with h | h <;> rw [h] <;> simp
set_option maxRecDepth 100000 in
set_option maxHeartbeats 1000000 in
theorem size_ok (i u : Int) (w : World) : Calls Tryz.prog 66 #[cN i, cN u] w fun e w' => e = .returned (cN (sizeI i u)) ∧ w = w' := by
  by_cases h1 : 1 ≤ i
  · by_cases h2 : i ≤ 254
    · by_cases h3 : 0 ≤ u
      · by_cases h4 : u ≤ 254
        · obtain ⟨p, hp⟩ : ∃ p : Int, (33 + i + 1) / 2 * 2 = p := ⟨_, rfl⟩
          have p1 : 34 ≤ p := by omega
          have p2 : p ≤ 300 := by omega
          have c1 := fun W => padded_ok i W (by omega) (by omega)
          rw [hp] at c1
          rcases par_cases u with ⟨h5, h6, -⟩ | ⟨h5, h6, -⟩
          · by_cases h7 : p + u ≤ 254
            · rw [sizeI, if_pos ⟨⟨h1, h2⟩, ⟨h3, h4⟩, h5, by rw [hp]; exact h7⟩, hp]
              clear h5 hp
              go_enter Tryz.func66, Tryz.ntmps66
              go_wp2_with (go_at_call 75; (with_reducible refine (c1 _).mono ?_); rintro e w1 ⟨rfl, rfl⟩)
              go_ret
              exact ⟨rfl, rfl⟩
            · rw [sizeI, if_neg fun h => h7 (by rw [← hp]; exact h.2.2.2)]
              clear h5 hp
              go_enter Tryz.func66, Tryz.ntmps66
              go_wp2_with (go_at_call 75; (with_reducible refine (c1 _).mono ?_); rintro e w1 ⟨rfl, rfl⟩)
              go_ret
              exact ⟨rfl, rfl⟩
          · rw [sizeI, if_neg fun h => h5 h.2.2.1]
            clear h5 hp
            go_enter Tryz.func66, Tryz.ntmps66
            go_wp2
            go_ret
            exact ⟨rfl, rfl⟩
        · rw [sizeI, if_neg fun h => h4 h.2.1.2]
          go_enter Tryz.func66, Tryz.ntmps66
          go_wp2
          go_ret
          exact ⟨rfl, rfl⟩
      · rw [sizeI, if_neg fun h => h3 h.2.1.1]
        go_enter Tryz.func66, Tryz.ntmps66
        go_wp2
        go_ret
        exact ⟨rfl, rfl⟩
    · rw [sizeI, if_neg fun h => h2 h.1.2]
      go_enter Tryz.func66, Tryz.ntmps66
      go_wp2
      go_ret
      exact ⟨rfl, rfl⟩
  · rw [sizeI, if_neg fun h => h1 h.1.1]
    go_enter Tryz.func66, Tryz.ntmps66
    go_wp2
    go_ret
    exact ⟨rfl, rfl⟩
theorem par_even (i p : Int) (hp : (33 + i + 1) / 2 * 2 = p) : ((i % 2 == 0) = false ∧ 33 + i = p) ∨ ((i % 2 == 0) = true ∧ 33 + i + 1 = p) := by
  rcases (by omega : i % 2 = 0 ∨ i % 2 = 1) with h | h
  · right
    rw [h]
    exact ⟨rfl, by omega⟩
  · left
    rw [h]
    exact ⟨rfl, by omega⟩
set_option maxRecDepth 100000 in
set_option maxHeartbeats 1000000 in
theorem rsize_ok (i u : Int) (w : World) : Calls Tryz.prog 26 #[cN i, cN u] w fun e w' => e = .returned (cN (sizeI i u)) ∧ w = w' := by
  by_cases h1 : 1 ≤ i
  · by_cases h2 : i ≤ 254
    · by_cases h3 : 0 ≤ u
      · by_cases h4 : u ≤ 254
        · obtain ⟨p, hp⟩ : ∃ p : Int, (33 + i + 1) / 2 * 2 = p := ⟨_, rfl⟩
          have p1 : 34 ≤ p := by omega
          have p2 : p ≤ 300 := by omega
          have he := par_even i p hp
          rcases par_cases u with ⟨h5, -, h6⟩ | ⟨h5, -, h6⟩
          · by_cases h7 : p + u ≤ 254
            · rw [sizeI, if_pos ⟨⟨h1, h2⟩, ⟨h3, h4⟩, h5, by rw [hp]; exact h7⟩, hp]
              clear h5 hp
              rcases he with ⟨e1, e2⟩ | ⟨e1, e2⟩
              · have h8 : 33 + i + u ≤ 254 := by omega
                have HE : Hid (33 + i + u = p + u) := Lib.hid (by omega)
                clear e2
                go_enter Tryz.func26, Tryz.ntmps26
                go_wp2
                go_ret
                exact ⟨ret_int HE.out, rfl⟩
              · have h8 : 33 + i + u + 1 ≤ 254 := by omega
                have HE : Hid (33 + i + u + 1 = p + u) := Lib.hid (by omega)
                clear e2
                go_enter Tryz.func26, Tryz.ntmps26
                go_wp2
                go_ret
                exact ⟨ret_int HE.out, rfl⟩
            · rw [sizeI, if_neg fun h => h7 (by rw [← hp]; exact h.2.2.2)]
              clear h5 hp
              rcases he with ⟨e1, e2⟩ | ⟨e1, e2⟩
              · have h8 : ¬ 33 + i + u ≤ 254 := by omega
                clear e2
                go_enter Tryz.func26, Tryz.ntmps26
                go_wp2
                go_ret
                exact ⟨rfl, rfl⟩
              · have h8 : ¬ 33 + i + u + 1 ≤ 254 := by omega
                clear e2
                go_enter Tryz.func26, Tryz.ntmps26
                go_wp2
                go_ret
                exact ⟨rfl, rfl⟩
          · rw [sizeI, if_neg fun h => h5 h.2.2.1]
            clear h5 hp he
            go_enter Tryz.func26, Tryz.ntmps26
            go_wp2
            go_ret
            exact ⟨rfl, rfl⟩
        · rw [sizeI, if_neg fun h => h4 h.2.1.2]
          go_enter Tryz.func26, Tryz.ntmps26
          go_wp2
          go_ret
          exact ⟨rfl, rfl⟩
      · rw [sizeI, if_neg fun h => h3 h.2.1.1]
        go_enter Tryz.func26, Tryz.ntmps26
        go_wp2
        go_ret
        exact ⟨rfl, rfl⟩
    · rw [sizeI, if_neg fun h => h2 h.1.2]
      go_enter Tryz.func26, Tryz.ntmps26
      go_wp2
      go_ret
      exact ⟨rfl, rfl⟩
  · rw [sizeI, if_neg fun h => h1 h.1.1]
    go_enter Tryz.func26, Tryz.ntmps26
    go_wp2
    go_ret
    exact ⟨rfl, rfl⟩
set_option maxRecDepth 100000 in
set_option maxHeartbeats 400000 in
theorem fits20_ok (n m : Int) (w : World) : Calls Tryz.prog 73 #[cN n, cN m] w fun e w' => e = .returned (.bool (decide (0 ≤ n ∧ n ≤ m))) ∧ w = w' := by
  by_cases h1 : 0 ≤ n
  · by_cases h2 : n ≤ m
    · rw [decide_eq_true ⟨h1, h2⟩]
      go_enter Tryz.func73, Tryz.ntmps73
      go_wp2
      go_ret
      exact ⟨rfl, rfl⟩
    · rw [decide_eq_false fun h => h2 h.2]
      go_enter Tryz.func73, Tryz.ntmps73
      go_wp2
      go_ret
      exact ⟨rfl, rfl⟩
  · rw [decide_eq_false fun h => h1 h.1]
    go_enter Tryz.func73, Tryz.ntmps73
    go_wp2
    go_ret
    exact ⟨rfl, rfl⟩
end Go.Proofs.YtnmlephjhcmbhaaGreat
namespace Go.Proofs.YtnmlephjhcmbhaaGreat
set_option linter.unusedSimpArgs false
set_option linter.unusedVariables false
open Go Go.RowKit
/-- What Both gives, for any number. -/
def inR (n : Int) (k : Nat) : Bool := decide (0 ≤ n ∧ n < 2 ^ (8 * k))
def eB (n : Int) (k : Nat) : ByteArray := if inR n k then both n.toNat k else ByteArray.empty
def eE (n : Int) (k : Nat) : Int := if inR n k then 0 else 2
theorem eB_size (n : Int) (k : Nat) : (eB n k).size ≤ 2 * k := by
  unfold eB
  split
  · rw [both_size]; omega
  · exact Nat.zero_le _
theorem both_any (n : Int) (k : Nat) (w : World) (hk : k = 1 ∨ k = 2 ∨ k = 4) :
    Calls Tryz.prog 69 #[cN n, cN k] w fun e w' => e = .returned (.tuple #[.string (eB n k), cN (eE n k)]) ∧ Below w.heap.size w w' := by
  unfold eB eE
  by_cases h : inR n k = true
  · rw [if_pos h, if_pos h]
    rw [inR, decide_eq_true_iff] at h
    have e : n = (n.toNat : Int) := by omega
    have := both_ok n.toNat k w hk (by rw [← e]; exact h.2)
    rw [← e] at this
    exact this
  · rw [if_neg h, if_neg h]
    rw [inR, decide_eq_true_iff] at h
    exact both_bad n k w hk h
/-- A directory record. -/
structure Rec where
  (id : ByteArray) (lba len time zone flags seq : Int) (use : ByteArray)
abbrev recA (r : Rec) : Array Value := #[.string r.id, cN r.lba, cN r.len, cN r.time, cN r.zone, cN r.flags, cN r.seq, .string r.use]
/-- Each block but those that k names is as it was. -/
theorem isB_keep {B b : Nat} {bs : List Value} {w w' : World} (h : IsB B b bs w) (hk : ∀ (k : Nat) (cs : Array Value) (T : TypeId) (fr : Nat × Nat), (k = b ∨ T = 5) → w.heap[k]? = some (.cells cs T fr) → w'.heap[k]? = some (.cells cs T fr)) : IsB B b bs w' := by
  have one : ∀ p, Lib.BuilderAt 78 5 B b p bs w → Lib.BuilderAt 78 5 B b p bs w' := fun p ⟨hB, v, hb, hown, hne⟩ => by
    refine ⟨hB, v, hk b _ _ _ (.inl rfl) hb, ⟨hown.1, ?_⟩, hne⟩
    rcases hown.2 with hn | ⟨g, cap, cur, rfl, hbg, hg, rest⟩
    · exact .inl hn
    · exact .inr ⟨g, cap, cur, rfl, hbg, hk g _ _ _ (.inr rfl) hg, rest⟩
  exact h.elim (fun x => .inl (one _ x)) (fun x => .inr (one _ x))
/-- The state of Encode: the record in block N, the error x in block eb, the builder in block b. -/
structure ES (w : World) (eb b : Nat) (r : Rec) (x : Int) (bs : List UInt8) (W : World) : Prop where
  hr : W.heap[w.heap.size]? = some (.cells (recA r) 45 (0, 0))
  hx : W.heap[eb]? = some (.cells #[cN x] 40 (0, 0))
  hb : IsB w.heap.size b (cb bs) W
  ne1 : w.heap.size < eb
  ne2 : eb < b
  bel : Below w.heap.size w W
theorem ES.other {w : World} {eb b : Nat} {r : Rec} {x : Int} {bs : List UInt8} {W W' : World} (h : ES w eb b r x bs W) (k : Below W.heap.size W W') : ES w eb b r x bs W' :=
  ⟨(k.block _ (lt_of_block h.hr)).trans h.hr, (k.block _ (lt_of_block h.hx)).trans h.hx, isB_keep h.hb fun _ _ _ _ _ hw => (k.block _ (lt_of_block hw)).trans hw, h.ne1, h.ne2, h.bel.trans (k.mono h.bel.size)⟩
theorem ES.alloc {w : World} {eb b : Nat} {r : Rec} {x : Int} {bs : List UInt8} {W : World} (h : ES w eb b r x bs W) (o : Obj) : ES w eb b r x bs (W.alloc o) := h.other ((Below.refl _ W).alloc (Nat.le_refl _) o)
theorem ES.drew {w : World} {eb b : Nat} {r : Rec} {x : Int} {bs : List UInt8} {W : World} (h : ES w eb b r x bs W) : ES w eb b r x bs W.drew := h.other (Below.refl _ W).drew
theorem ES.wrote {w : World} {eb b : Nat} {r : Rec} {x : Int} {bs bs' : List UInt8} {W W' : World} (h : ES w eb b r x bs W) (k : Bd w.heap.size b (ptr b) (cb bs') W') (k2 : Below w.heap.size W W') (k3 : Fr5 b W W') : ES w eb b r x bs' W' :=
  ⟨k3 _ _ _ _ (by have := h.ne1; have := h.ne2; omega) (by decide) h.hr, k3 _ _ _ _ (by have := h.ne2; omega) (by decide) h.hx, .inr k, h.ne1, h.ne2, h.bel.trans k2⟩
theorem ES.setX {w : World} {eb b : Nat} {r : Rec} {x : Int} {bs : List UInt8} {W : World} (h : ES w eb b r x bs W) (y : Int) : ES w eb b r y bs (W.setCell ⟨eb, 0, none⟩ (cN y)) :=
  ⟨row_other 0 _ h.hr (by have := h.ne1; omega), row_set 0 _ h.hx, isB_keep h.hb fun k cs T fr hk hw => (by
      refine row_other 0 _ hw fun e => ?_
      subst e
      rcases hk with hk | hk
      · have := h.ne2; omega
      · rw [h.hx] at hw
        simp only [Option.some.injEq, Obj.cells.injEq] at hw
        rw [hk] at hw
        exact absurd hw.2.1 (by decide)), h.ne1, h.ne2, h.bel.setCell (p := ⟨eb, 0, none⟩) (Nat.le_of_lt h.ne1) _⟩
theorem ES.cx {w : World} {eb b : Nat} {r : Rec} {x : Int} {bs : List UInt8} {W : World} (h : ES w eb b r x bs W) : W.cell? ⟨eb, 0, none⟩ = some (cN x) := by rw [Lib.cell_of_heap h.hx]; rfl
theorem ES.fx {w : World} {eb b : Nat} {r : Rec} {x : Int} {bs : List UInt8} {W : World} (h : ES w eb b r x bs W) : W.frozen? ⟨eb, 0, none⟩ = false := Lib.frozen_of_heap h.hx 0
theorem cb_append (l m : List UInt8) : cb (l ++ m) = cb l ++ cb m := by simp [cb]
theorem cb_str (s : ByteArray) : cb s.data.toList = Lib.strCells s := rfl
/-- The numbers that the closure writes, with their sizes, as cells. -/
def flatP : List (Int × Nat) → List Value
  | [] => []
  | p :: ps => cN p.1 :: cN p.2 :: flatP ps
theorem flatP_get : ∀ (ps : List (Int × Nat)) (k : Nat) (p : Int × Nat), ps[k]? = some p → (flatP ps)[2 * k]? = some (cN p.1) ∧ (flatP ps)[2 * k + 1]? = some (cN p.2)
  | [], k, p, h => by simp at h
  | q :: ps, 0, p, h => by
    simp only [List.getElem?_cons_zero, Option.some.injEq] at h
    subst h
    exact ⟨rfl, rfl⟩
  | q :: ps, k + 1, p, h => by
    have := flatP_get ps k p (by simpa using h)
    exact this
def wrongs (x : Int) : List (Int × Nat) → Int
  | [] => x
  | p :: ps => wrongs (if inR p.1 p.2 then x else 2) ps
def outs (ps : List (Int × Nat)) : List UInt8 := ps.flatMap fun p => (eB p.1 p.2).data.toList
theorem wrongs_snoc (p : Int × Nat) : ∀ (ps : List (Int × Nat)) (x : Int), wrongs x (ps ++ [p]) = if inR p.1 p.2 then wrongs x ps else 2
  | [], _ => rfl
  | _ :: ps, _ => wrongs_snoc p ps _
theorem outs_snoc (p : Int × Nat) (ps : List (Int × Nat)) : outs (ps ++ [p]) = outs ps ++ (eB p.1 p.2).data.toList := by simp [outs]
theorem outs_le (ps : List (Int × Nat)) (h : ∀ p ∈ ps, p.2 ≤ 4) : (outs ps).length ≤ 8 * ps.length := by
  induction ps with
  | nil => simp [outs]
  | cons p ps ih =>
    have h1 := ih fun q hq => h q (List.mem_cons_of_mem _ hq)
    have h2 := eB_size p.1 p.2
    have h3 := h p (List.mem_cons_self ..)
    simp only [outs, List.flatMap_cons, List.length_append, list_size, List.length_cons] at h1 ⊢
    omega
theorem take_next {ps : List (Int × Nat)} {k : Nat} {p : Int × Nat} (h : ps[k]? = some p) : ps.take (k + 1) = ps.take k ++ [p] := by
  obtain ⟨hk, rfl⟩ := List.getElem?_eq_some_iff.1 h
  rw [List.take_succ_eq_append_getElem hk]
set_option maxRecDepth 100000 in
set_option maxHeartbeats 2000000 in
theorem numbers_ok (w : World) (eb b g0 n cap : Nat) (r : Rec) (x : Int) (bs : List UInt8) (ps : List (Int × Nat)) (W : World) (H : ES w eb b r x bs W) (hg : W.heap[g0]? = some (.cells (flatP ps).toArray 3 (0, 0))) (hgb : g0 ≠ b) (hge : g0 ≠ eb)
    (hn : n = 2 * ps.length) (hps : ∀ p ∈ ps, p.2 = 1 ∨ p.2 = 2 ∨ p.2 = 4) (hlen : bs.length ≤ 1000) (hm : ps.length ≤ 10) :
    Calls Tryz.prog 68 #[.slice (some ⟨g0, 0, none⟩) n cap, ptr eb, ptr b] W fun e W' => e = .returned (.tuple #[]) ∧ ES w eb b r (wrongs x ps) (bs ++ outs ps) W' := by
  have HN := Lib.hid hn
  have HG := Lib.hid hg
  have hn1 : (n : Int) ≤ 20 := by omega
  clear hn hg
  go_enter Tryz.func68, Tryz.ntmps68
  go_wp2
  go_loopw [4] (fun i wr => ∃ k : Nat, i = cN (2 * (k : Int)) ∧ k ≤ ps.length ∧ ES w eb b r (wrongs x (ps.take k)) (bs ++ outs (ps.take k)) wr ∧ Hid (wr.heap[g0]? = some (.cells (flatP ps).toArray 3 (0, 0)))) (fun i _ => n - (intOf i).toNat)
  case atStart => exact ⟨0, by simp, Nat.zero_le _, by simpa [wrongs, outs] using H, HG⟩
  case round =>
    obtain ⟨k, rfl, hk, HE, HG⟩ := hrel
    by_cases hlt : k < ps.length
    · obtain ⟨p, hp⟩ : ∃ p, ps[k]? = some p := ⟨_, List.getElem?_eq_getElem hlt⟩
      have hpm : p ∈ ps := List.mem_of_getElem? hp
      have hk2 := hps p hpm
      have hp4 : (2 : Int) * k + 1 < (n : Int) := by have := HN.out; omega
      have hl := outs_le (ps.take k) (fun q hq => by have := hps q (List.mem_of_mem_take hq); omega)
      rw [List.length_take] at hl
      have es := eB_size p.1 p.2
      have HC := Lib.hid (flatP_get ps k p hp)
      have HW := Lib.hid (wrongs_snoc p (ps.take k) x)
      have HO := Lib.hid (outs_snoc p (ps.take k))
      have HT := Lib.hid (take_next hp)
      have c1 := fun W => both_any p.1 p.2 W hk2
      have HQ : Hid ((bs ++ outs (ps.take k)).length ≤ 2000) := Lib.hid (by rw [List.length_append]; omega)
      have es2 : Hid ((eB p.1 p.2).size ≤ 8) := Lib.hid (by omega)
      clear hps hl es hp hpm hk2
      obtain ⟨bs2, hbs2⟩ : ∃ z, bs ++ outs (ps.take k) = z := ⟨_, rfl⟩
      obtain ⟨x2, hx2⟩ : ∃ z, wrongs x (ps.take k) = z := ⟨_, rfl⟩
      obtain ⟨n1, n2⟩ := p
      simp only at c1 es2 HC HW HO HT
      rw [hbs2] at HE HQ
      rw [hx2] at HE HW
      have HBS := Lib.hid hbs2
      clear hbs2 hx2
      have hi : (2 : Int) * (k : Int) < (n : Int) := by omega
      have hi0 : (0 : Int) ≤ 2 * (k : Int) := by omega
      have ht0 : (2 * (k : Int)).toNat = 2 * k := by omega
      have ht1 : (2 * (k : Int) + 1).toNat = 2 * k + 1 := by omega
      have hw1 : IntKind.i64.wrap (2 * (k : Int) + 1) = 2 * (k : Int) + 1 := by rw [IntKind.wrap_i64]; omega
      have hi1 : (0 : Int) ≤ 2 * (k : Int) + 1 := by omega
      have hE := HE.drew
      have hS0 : wr.drew.heap[g0]? = some (.cells (flatP ps).toArray 3 (0, 0)) := HG.out
      have HS0 := Lib.hid hS0
      obtain ⟨HC0, HC1⟩ : Hid ((flatP ps)[2 * k]? = some (cN n1)) ∧ Hid ((flatP ps)[2 * k + 1]? = some (cN n2)) := ⟨Lib.hid HC.out.1, Lib.hid HC.out.2⟩
      clear HC hS0
      have hEE : (inR n1 n2 = true ∧ eE n1 n2 = 0) ∨ (inR n1 n2 = false ∧ eE n1 n2 = 2) := by
        unfold eE; cases inR n1 n2 <;> simp
      rcases hEE with ⟨h1, h2⟩ | ⟨h1, h2⟩
      · rw [h2] at c1
        rw [h1, if_pos rfl] at HW
        clear h1 h2
        go_wp2
        refine region_sch (fun W' => W'.heap[g0]? = some (.cells (flatP ps).toArray 3 (0, 0))) [(true, 0), (true, 1), (true, 2), (true, 3), (true, 4), (true, 5), (true, 6), (true, 7), (true, 8), (false, 9), (true, 10), (true, 11), (true, 12), (true, 13)] [14] (by kernel_rfl) (by kernel_rfl) (by rintro ⟨_, _, h, _⟩; cases h) (fun _ _ d _ _ h => by cases d <;> exact h) HS0.out ?_
        simp only [pickM, pickT, List.filterMap_cons, List.filterMap_nil, List.getElem?_cons_zero, List.getElem?_cons_succ, Option.map_some]
        repeat (first | (refine m_float ⟨?_, .inl ⟨?_, .inl ?_⟩, fun K' hK => ?_⟩; rotate_left; (first | rfl | (go_simp; done)); (intro w' hS; have q0 := (Lib.cell_of_heap hS (2 * k)).trans ((List.getElem?_toArray ..).trans HC0.out); have q1 := (Lib.cell_of_heap hS (2 * k + 1)).trans ((List.getElem?_toArray ..).trans HC1.out); clear hS; go_simp; try rfl); (simp only [Act.put, List.setIfInBounds_toArray, List.set_cons_succ, List.set_cons_zero]; refine hK _ ?_; clear hK K')) | (refine m_float ⟨undef, .inr ⟨?_, rfl⟩, fun K' hK => ?_⟩; (first | rfl | (go_simp; done)); (simp only [Act.put, List.setIfInBounds_toArray, List.set_cons_succ, List.set_cons_zero]; refine hK _ ?_; clear hK K')))
        refine m_loud ?_ (fun K' hK => ?_)
        · rintro ⟨_, _, h, _⟩; cases h
        go_wp2_with (go_at_call 69; (with_reducible refine (c1 _).mono ?_); rintro e w1 ⟨rfl, hB⟩)
        have hE1 := hE.other hB
        have HS1 := Lib.hid ((hB.block _ (lt_of_block HS0.out)).trans HS0.out)
        refine hK _ _ HS1.out ?_
        clear hK K'
        repeat (first | (refine m_float ⟨?_, .inl ⟨?_, .inl ?_⟩, fun K' hK => ?_⟩; rotate_left; (first | rfl | (go_simp; done)); (intro w' hS; skip; go_simp; try rfl); (simp only [Act.put, List.setIfInBounds_toArray, List.set_cons_succ, List.set_cons_zero]; refine hK _ ?_; clear hK K')) | (refine m_float ⟨undef, .inr ⟨?_, rfl⟩, fun K' hK => ?_⟩; (first | rfl | (go_simp; done)); (simp only [Act.put, List.setIfInBounds_toArray, List.set_cons_succ, List.set_cons_zero]; refine hK _ ?_; clear hK K')))
        refine m_nil ?_
        show wpList Tryz.prog _ _ (List.cons _ _) _ _
        have hq : (cb bs2).length + (eB n1 n2).size ≤ 140737488355328 := by
          rw [cb_length]; have := HQ.out; have := es2.out; omega
        go_wp2_with (go_at_call 54; (with_reducible refine (writeString_f _ b _ (eB n1 n2) _ hE1.hb hq hE1.bel.size).mono ?_); rintro e w2 ⟨rfl, ⟨hd, hbl⟩, hfr⟩)
        have HG2 := Lib.hid (hfr.out g0 _ _ _ hgb (by decide) HS1.out)
        rw [← cb_str, ← cb_append] at hd
        have HE2 := hE1.wrote hd hbl hfr.out
        clear hd hbl hfr
        go_roundw
        case rel =>
          refine ⟨k + 1, by go_num, by omega, ?_, HG2⟩
          rw [HT.out, HW.out, HO.out, ← List.append_assoc, HBS.out]
          exact HE2
        case measure => simp [intOf]; omega
      · rw [h2] at c1
        rw [h1, if_neg (by decide)] at HW
        clear h1 h2
        go_wp2
        refine region_sch (fun W' => W'.heap[g0]? = some (.cells (flatP ps).toArray 3 (0, 0))) [(true, 0), (true, 1), (true, 2), (true, 3), (true, 4), (true, 5), (true, 6), (true, 7), (true, 8), (false, 9), (true, 10), (true, 11), (true, 12), (true, 13)] [14] (by kernel_rfl) (by kernel_rfl) (by rintro ⟨_, _, h, _⟩; cases h) (fun _ _ d _ _ h => by cases d <;> exact h) HS0.out ?_
        simp only [pickM, pickT, List.filterMap_cons, List.filterMap_nil, List.getElem?_cons_zero, List.getElem?_cons_succ, Option.map_some]
        repeat (first | (refine m_float ⟨?_, .inl ⟨?_, .inl ?_⟩, fun K' hK => ?_⟩; rotate_left; (first | rfl | (go_simp; done)); (intro w' hS; have q0 := (Lib.cell_of_heap hS (2 * k)).trans ((List.getElem?_toArray ..).trans HC0.out); have q1 := (Lib.cell_of_heap hS (2 * k + 1)).trans ((List.getElem?_toArray ..).trans HC1.out); clear hS; go_simp; try rfl); (simp only [Act.put, List.setIfInBounds_toArray, List.set_cons_succ, List.set_cons_zero]; refine hK _ ?_; clear hK K')) | (refine m_float ⟨undef, .inr ⟨?_, rfl⟩, fun K' hK => ?_⟩; (first | rfl | (go_simp; done)); (simp only [Act.put, List.setIfInBounds_toArray, List.set_cons_succ, List.set_cons_zero]; refine hK _ ?_; clear hK K')))
        refine m_loud ?_ (fun K' hK => ?_)
        · rintro ⟨_, _, h, _⟩; cases h
        go_wp2_with (go_at_call 69; (with_reducible refine (c1 _).mono ?_); rintro e w1 ⟨rfl, hB⟩)
        have hE1 := hE.other hB
        have HS1 := Lib.hid ((hB.block _ (lt_of_block HS0.out)).trans HS0.out)
        refine hK _ _ HS1.out ?_
        clear hK K'
        repeat (first | (refine m_float ⟨?_, .inl ⟨?_, .inl ?_⟩, fun K' hK => ?_⟩; rotate_left; (first | rfl | (go_simp; done)); (intro w' hS; skip; go_simp; try rfl); (simp only [Act.put, List.setIfInBounds_toArray, List.set_cons_succ, List.set_cons_zero]; refine hK _ ?_; clear hK K')) | (refine m_float ⟨undef, .inr ⟨?_, rfl⟩, fun K' hK => ?_⟩; (first | rfl | (go_simp; done)); (simp only [Act.put, List.setIfInBounds_toArray, List.set_cons_succ, List.set_cons_zero]; refine hK _ ?_; clear hK K')))
        refine m_nil ?_
        show wpList Tryz.prog _ _ (List.cons _ _) _ _
        have cx := hE1.cx
        have fx := hE1.fx
        have hE2 := hE1.setX 2
        have HS2 := Lib.hid (row_other (B' := eb) 0 (cN 2) HS1.out hge)
        have hq : (cb bs2).length + (eB n1 n2).size ≤ 140737488355328 := by
          rw [cb_length]; have := HQ.out; have := es2.out; omega
        go_wp2_with (go_at_call 54; (with_reducible refine (writeString_f _ b _ (eB n1 n2) _ hE2.hb hq hE2.bel.size).mono ?_); rintro e w2 ⟨rfl, ⟨hd, hbl⟩, hfr⟩)
        have HG2 := Lib.hid (hfr.out g0 _ _ _ hgb (by decide) HS2.out)
        rw [← cb_str, ← cb_append] at hd
        have HE2 := hE2.wrote hd hbl hfr.out
        clear hd hbl hfr
        go_roundw
        case rel =>
          refine ⟨k + 1, by go_num, by omega, ?_, HG2⟩
          rw [HT.out, HW.out, HO.out, ← List.append_assoc, HBS.out]
          exact HE2
        case measure => simp [intOf]; omega
    · obtain rfl : k = ps.length := by omega
      have hge : ¬ (2 : Int) * (ps.length : Int) + 1 < (n : Int) := by have := HN.out; omega
      rw [List.take_length] at HE
      go_wp2
      go_end0
      exact ⟨rfl, HE⟩
end Go.Proofs.YtnmlephjhcmbhaaGreat
namespace Go.Proofs.YtnmlephjhcmbhaaGreat
set_option linter.unusedSimpArgs false
set_option linter.unusedVariables false
open Go Go.RowKit
/-- The byte of a number. -/
def bN (z : Int) : UInt8 := UInt8.ofNat (z % 256).toNat
theorem bN_wrap (z : Int) : IntKind.u8.wrap z = ((bN z).toNat : Int) := by
  rw [IntKind.wrap_u8, bN, UInt8.toNat_ofNat', Nat.mod_eq_of_lt (show (z % 256).toNat < 2 ^ 8 by omega)]
  omega
def padB (n : Nat) : List UInt8 := if n % 2 = 0 then [0] else []
/-- The bytes of a record with the date d, up to the flags; up to the identifier; all. -/
def encH (r : Rec) (size : Int) (d : ByteArray) : List UInt8 := ((([bN size, 0] ++ outs [(r.lba, 4), (r.len, 4)]) ++ d.data.toList) ++ [bN r.flags, 0, 0]) ++ outs [(r.seq, 2)]
def encL (r : Rec) (size : Int) (d : ByteArray) : List UInt8 := (((encH r size d ++ [bN r.id.size]) ++ r.id.data.toList) ++ padB r.id.size) ++ r.use.data.toList
/-- The error of the numbers. -/
def encX (r : Rec) (de : Int) : Int := wrongs (wrongs de [(r.lba, 4), (r.len, 4)]) [(r.seq, 2)]
theorem ES.init {w W1 : World} (r : Rec) (de : Int) (hB : Below (w.alloc (.cells (recA r) 45)).heap.size (w.alloc (.cells (recA r) 45)) W1) :
    ES w W1.heap.size (W1.heap.size + 1) r de [] ((W1.alloc (.cells #[cN de] 40)).alloc (.cells #[.pointer none, .slice none 0 0] 78)) := by
  have hs := hB.size
  rw [World.size_alloc] at hs
  have hr : W1.heap[w.heap.size]? = some (.cells (recA r) 45 (0, 0)) := (hB.block _ (by simp)).trans (World.alloc_heap_new _ _)
  have hW : Below w.heap.size w W1 := ((Below.refl _ w).alloc (Nat.le_refl _) _).trans (hB.mono (by simp))
  refine ⟨?_, ?_, ?_, by omega, by omega, (hW.alloc hW.size _).alloc (by simp; omega) _⟩
  · rw [Lib.alloc_old _ _ _ (by simp; omega), Lib.alloc_old _ _ _ (by omega)]
    exact hr
  · rw [Lib.alloc_old _ _ _ (by simp)]
    exact World.alloc_heap_new _ _
  · refine Or.inl ⟨by omega, _, ?_, ⟨by simp [cb], Or.inl ⟨rfl, by simp [cb]⟩⟩, by simp [Value.ownBlock]⟩
    have := World.alloc_heap_new (W1.alloc (.cells #[cN de] 40)) (.cells #[.pointer none, .slice none 0 0] 78)
    rw [World.size_alloc] at this
    exact this
theorem ES.cr {w : World} {eb b : Nat} {r : Rec} {x : Int} {bs : List UInt8} {W : World} (h : ES w eb b r x bs W) :
    W.cell? ⟨w.heap.size, 0, none⟩ = some (.string r.id) ∧ W.cell? ⟨w.heap.size, 1, none⟩ = some (cN r.lba) ∧ W.cell? ⟨w.heap.size, 2, none⟩ = some (cN r.len) ∧ W.cell? ⟨w.heap.size, 5, none⟩ = some (cN r.flags) ∧
      W.cell? ⟨w.heap.size, 6, none⟩ = some (cN r.seq) ∧ W.cell? ⟨w.heap.size, 7, none⟩ = some (.string r.use) := by
  simp only [Lib.cell_of_heap h.hr]
  exact ⟨rfl, rfl, rfl, rfl, rfl, rfl⟩
/-- A row of bytes, written. -/
theorem ES.write {w : World} {eb b : Nat} {r : Rec} {x : Int} {bs : List UInt8} {W : World} (h : ES w eb b r x bs W) (l : List UInt8) (n g : Nat) (cs : Array Value) (hg : W.heap.size = g) (hcs : cs = (cb l).toArray) (hn : l.length = n) (hl : bs.length ≤ 1000) (hl2 : n ≤ 1000) :
    Calls Tryz.prog 70 #[ptr b, .slice (some ⟨g, 0, none⟩) n n] (W.alloc (.cells cs 5)) fun e W' => e = .returned (.tuple #[.int .i64 n, .nilIface]) ∧ ES w eb b r x (bs ++ l) W' := by
  subst hg hcs
  have h2 := h.alloc (.cells (cb l).toArray 5)
  have hb : b < W.heap.size := by
    rcases h.hb with hb | hb
    · exact hb.lt
    · exact hb.lt
  refine (write_f w.heap.size b W.heap.size (cb bs) (cb l) n n _ h2.hb (by rw [cb_length]; exact hn) (by rw [cb_length]; omega) h2.bel.size (by omega) (World.alloc_heap_new _ _) ?_).mono ?_
  · intro u hu
    simp only [cb, List.mem_map] at hu
    obtain ⟨q, _, rfl⟩ := hu
    rfl
  · rintro e W' ⟨rfl, ⟨hd, hbl⟩, hfr⟩
    rw [← cb_append] at hd
    exact ⟨rfl, h2.wrote hd hbl hfr.out⟩
theorem ES.str {w : World} {eb b : Nat} {r : Rec} {x : Int} {bs : List UInt8} {W : World} (h : ES w eb b r x bs W) (s : ByteArray) (hl : bs.length ≤ 1000) (hl2 : s.size ≤ 1000) :
    Calls Tryz.prog 54 #[ptr b, .string s] W fun e W' => e = .returned (.tuple #[.int .i64 s.size, .nilIface]) ∧ ES w eb b r x (bs ++ s.data.toList) W' := by
  refine (writeString_f w.heap.size b (cb bs) s W h.hb (by rw [cb_length]; omega) h.bel.size).mono ?_
  rintro e W' ⟨rfl, ⟨hd, hbl⟩, hfr⟩
  rw [← cb_str, ← cb_append] at hd
  exact ⟨rfl, h.wrote hd hbl hfr.out⟩
theorem ES.byte {w : World} {eb b : Nat} {r : Rec} {x : Int} {bs : List UInt8} {W : World} (h : ES w eb b r x bs W) (c : UInt8) (hl : bs.length ≤ 1000) :
    Calls Tryz.prog 71 #[ptr b, .int .u8 c.toNat] W fun e W' => e = .returned .nilIface ∧ ES w eb b r x (bs ++ [c]) W' := by
  refine (writeByte_f w.heap.size b (cb bs) c.toNat W h.hb (by rw [cb_length]; omega) h.bel.size).mono ?_
  rintro e W' ⟨rfl, ⟨hd, hbl⟩, hfr⟩
  rw [← cb_snoc] at hd
  exact ⟨rfl, h.wrote hd hbl hfr.out⟩
theorem ES.nums {w : World} {eb b : Nat} {r : Rec} {x : Int} {bs : List UInt8} {W : World} (h : ES w eb b r x bs W) (ps : List (Int × Nat)) (n : Nat) (cs : Array Value) (hcs : cs = (flatP ps).toArray) (hn : n = 2 * ps.length) (hps : ∀ p ∈ ps, p.2 = 1 ∨ p.2 = 2 ∨ p.2 = 4) (hl : bs.length ≤ 1000) (hm : ps.length ≤ 10) :
    Calls Tryz.prog 68 #[.slice (some ⟨W.heap.size, 0, none⟩) n n, ptr eb, ptr b] (W.alloc (.cells cs 3)) fun e W' => e = .returned (.tuple #[]) ∧ ES w eb b r (wrongs x ps) (bs ++ outs ps) W' := by
  subst hcs
  have hb : b < W.heap.size := by
    rcases h.hb with hb | hb
    · exact hb.lt
    · exact hb.lt
  exact numbers_ok w eb b W.heap.size n n r x bs ps _ (h.alloc _) (World.alloc_heap_new _ _) (by omega) (by have := h.ne2; omega) hn hps hl hm
theorem ES.done {w : World} {eb b : Nat} {r : Rec} {x : Int} {bs : List UInt8} {W : World} (h : ES w eb b r x bs W) :
    Calls Tryz.prog 56 #[ptr b] W fun e W' => e = .returned (.string ⟨bs.toArray⟩) ∧ Below w.heap.size w W' :=
  (Tryz.Builder_String_any w.heap.size b bs W h.hb h.bel.size).mono fun _ _ ⟨he, hw⟩ => ⟨he, h.bel.trans hw⟩
end Go.Proofs.YtnmlephjhcmbhaaGreat
namespace Go.Proofs.YtnmlephjhcmbhaaGreat
set_option linter.unusedSimpArgs false
set_option linter.unusedVariables false
open Go Go.RowKit
theorem wrongs_cases (ps : List (Int × Nat)) : ∀ x : Int, x = 0 ∨ x = 2 → wrongs x ps = 0 ∨ wrongs x ps = 2 := by
  induction ps with
  | nil => exact fun x h => h
  | cons p ps ih =>
    intro x h
    refine ih _ ?_
    split
    · exact h
    · exact .inr rfl
theorem encX_cases (r : Rec) {de : Int} (h : de = 0 ∨ de = 2) : encX r de = 0 ∨ encX r de = 2 := wrongs_cases _ _ (wrongs_cases _ _ h)
theorem encH_len (r : Rec) (n : Int) (d : ByteArray) (hd : d.size ≤ 7) : (encH r n d).length ≤ 100 := by
  have h1 := outs_le [(r.lba, 4), (r.len, 4)] (by simp)
  have h2 := outs_le [(r.seq, 2)] (by simp)
  simp only [encH, List.length_append, List.length_cons, List.length_nil, list_size] at *
  omega
theorem outs1_le (r : Rec) : (outs [(r.lba, 4), (r.len, 4)]).length ≤ 16 := outs_le _ (by simp)
set_option maxRecDepth 100000 in
set_option maxHeartbeats 2000000 in
theorem enc_bad1 (r : Rec) (n : Nat) (d : ByteArray) (de : Int) (w : World) (hi : r.id.toList.isEmpty = false) (hu : ((r.use.size : Int) % 2 != 0) = false) (hn : ((n : Int) == 0) = false) (hd : d.size ≤ 7)
    (c1 : ∀ W : World, Calls Tryz.prog 66 #[cN r.id.size, cN r.use.size] W fun e w' => e = .returned (cN n) ∧ W = w')
    (c2 : ∀ W : World, Calls Tryz.prog 67 #[cN r.time, cN r.zone] W fun e w' => e = .returned (.tuple #[.string d, cN de]) ∧ Below W.heap.size W w')
    (hx : encX r de = 2) : Calls Tryz.prog 48 #[.agg (recA r)] w fun e w' => e = .returned (.tuple #[.string ByteArray.empty, cN 2]) ∧ Below w.heap.size w w' := by
  have hb := bN_wrap n
  have hf := bN_wrap r.flags
  have HX := Lib.hid hx
  clear hx
  go_enter Tryz.func48, Tryz.ntmps48
  go_wp2_with (first | (go_at_call 66; (with_reducible refine (c1 _).mono ?_); rintro e w1 ⟨rfl, rfl⟩) | (go_at_call 67; (with_reducible refine (c2 _).mono ?_); rintro e w1 ⟨rfl, hB⟩; have E0 := ES.init r de hB; obtain ⟨k0, k1, k2, k5, k6, k7⟩ := E0.cr; clear hB))
  have hx5 : wrongs (wrongs de [(r.lba, 4), (r.len, 4)]) [(r.seq, 2)] = 2 := HX.out
  have o1 := outs1_le r
  have HA : Hid ((#[.int .u8 ((bN n).toNat : Int), .int .u8 0] : Array Value) = (cb [bN n, 0]).toArray) := Lib.hid rfl
  have HF : Hid ((#[.int .u8 ((bN r.flags).toNat : Int), .int .u8 0, .int .u8 0] : Array Value) = (cb [bN r.flags, 0, 0]).toArray) := Lib.hid rfl
  have HP : Hid ((#[cN r.lba, cN 4, cN r.len, cN 4] : Array Value) = (flatP [(r.lba, 4), (r.len, 4)]).toArray) := Lib.hid rfl
  have HS : Hid ((#[cN r.seq, cN 2] : Array Value) = (flatP [(r.seq, 2)]).toArray) := Lib.hid rfl
  with_reducible refine (E0.write [bN n, 0] 2 (w1.heap.size + 1 + 1) _ (by simp) HA.out rfl (by simp) (by decide)).mono ?_
  rintro e w2 ⟨rfl, E1⟩
  obtain ⟨k0, k1, k2, k5, k6, k7⟩ := E1.cr
  go_wp2_with fail
  with_reducible refine (E1.nums [(r.lba, 4), (r.len, 4)] 4 _ HP.out rfl (by simp) (by simp) (by simp)).mono ?_
  rintro e w3 ⟨rfl, E2⟩
  clear k0 k1 k2 k5 k6 k7 E1
  go_wp2_with fail
  with_reducible refine (E2.str d (by simp; omega) (by omega)).mono ?_
  rintro e w4 ⟨rfl, E3⟩
  clear E2
  obtain ⟨k0, k1, k2, k5, k6, k7⟩ := E3.cr
  go_wp2_with fail
  with_reducible refine (E3.write [bN r.flags, 0, 0] 3 _ _ rfl HF.out rfl (by simp; omega) (by decide)).mono ?_
  rintro e w5 ⟨rfl, E4⟩
  clear k0 k1 k2 k5 k6 k7 E3
  obtain ⟨k0, k1, k2, k5, k6, k7⟩ := E4.cr
  go_wp2_with fail
  with_reducible refine (E4.nums [(r.seq, 2)] 2 _ HS.out rfl (by simp) (by simp; omega) (by simp)).mono ?_
  rintro e w6 ⟨rfl, E5⟩
  clear k0 k1 k2 k5 k6 k7 E4
  rw [hx5] at E5
  obtain ⟨k0, k1, k2, k5, k6, k7⟩ := E5.cr
  have cx := E5.cx
  clear hx5
  go_wp2
  go_ret2
  exact ⟨rfl, E5.bel⟩
set_option maxRecDepth 100000 in
set_option maxHeartbeats 2000000 in
theorem enc_bad2 (r : Rec) (n : Nat) (d : ByteArray) (de : Int) (w : World) (hi : r.id.toList.isEmpty = false) (hu : ((r.use.size : Int) % 2 != 0) = false) (hn : ((n : Int) == 0) = false) (hd : d.size ≤ 7)
    (c1 : ∀ W : World, Calls Tryz.prog 66 #[cN r.id.size, cN r.use.size] W fun e w' => e = .returned (cN n) ∧ W = w')
    (c2 : ∀ W : World, Calls Tryz.prog 67 #[cN r.time, cN r.zone] W fun e w' => e = .returned (.tuple #[.string d, cN de]) ∧ Below W.heap.size W w')
    (hx : encX r de = 0) (hfl : r.flags < 0 ∨ 255 < r.flags) : Calls Tryz.prog 48 #[.agg (recA r)] w fun e w' => e = .returned (.tuple #[.string ByteArray.empty, cN 2]) ∧ Below w.heap.size w w' := by
  have hb := bN_wrap n
  have hf := bN_wrap r.flags
  have HX := Lib.hid hx
  clear hx
  rcases hfl with hfl | hfl
  all_goals
    go_enter Tryz.func48, Tryz.ntmps48
    go_wp2_with (first | (go_at_call 66; (with_reducible refine (c1 _).mono ?_); rintro e w1 ⟨rfl, rfl⟩) | (go_at_call 67; (with_reducible refine (c2 _).mono ?_); rintro e w1 ⟨rfl, hB⟩; have E0 := ES.init r de hB; obtain ⟨k0, k1, k2, k5, k6, k7⟩ := E0.cr; clear hB))
    have hx5 : wrongs (wrongs de [(r.lba, 4), (r.len, 4)]) [(r.seq, 2)] = 0 := HX.out
    have o1 := outs1_le r
    have HA : Hid ((#[.int .u8 ((bN n).toNat : Int), .int .u8 0] : Array Value) = (cb [bN n, 0]).toArray) := Lib.hid rfl
    have HF : Hid ((#[.int .u8 ((bN r.flags).toNat : Int), .int .u8 0, .int .u8 0] : Array Value) = (cb [bN r.flags, 0, 0]).toArray) := Lib.hid rfl
    have HP : Hid ((#[cN r.lba, cN 4, cN r.len, cN 4] : Array Value) = (flatP [(r.lba, 4), (r.len, 4)]).toArray) := Lib.hid rfl
    have HS : Hid ((#[cN r.seq, cN 2] : Array Value) = (flatP [(r.seq, 2)]).toArray) := Lib.hid rfl
    with_reducible refine (E0.write [bN n, 0] 2 (w1.heap.size + 1 + 1) _ (by simp) HA.out rfl (by simp) (by decide)).mono ?_
    rintro e w2 ⟨rfl, E1⟩
    obtain ⟨k0, k1, k2, k5, k6, k7⟩ := E1.cr
    go_wp2_with fail
    with_reducible refine (E1.nums [(r.lba, 4), (r.len, 4)] 4 _ HP.out rfl (by simp) (by simp) (by simp)).mono ?_
    rintro e w3 ⟨rfl, E2⟩
    clear k0 k1 k2 k5 k6 k7 E1
    go_wp2_with fail
    with_reducible refine (E2.str d (by simp; omega) (by omega)).mono ?_
    rintro e w4 ⟨rfl, E3⟩
    clear E2
    obtain ⟨k0, k1, k2, k5, k6, k7⟩ := E3.cr
    go_wp2_with fail
    with_reducible refine (E3.write [bN r.flags, 0, 0] 3 _ _ rfl HF.out rfl (by simp; omega) (by decide)).mono ?_
    rintro e w5 ⟨rfl, E4⟩
    clear k0 k1 k2 k5 k6 k7 E3
    obtain ⟨k0, k1, k2, k5, k6, k7⟩ := E4.cr
    go_wp2_with fail
    with_reducible refine (E4.nums [(r.seq, 2)] 2 _ HS.out rfl (by simp) (by simp; omega) (by simp)).mono ?_
    rintro e w6 ⟨rfl, E5⟩
    clear k0 k1 k2 k5 k6 k7 E4
    rw [hx5] at E5
    obtain ⟨k0, k1, k2, k5, k6, k7⟩ := E5.cr
    have cx := E5.cx
    clear hx5
    go_wp2
    go_ret2
    exact ⟨rfl, E5.bel⟩
end Go.Proofs.YtnmlephjhcmbhaaGreat
namespace Go.Proofs.YtnmlephjhcmbhaaGreat
set_option linter.unusedSimpArgs false
set_option linter.unusedVariables false
open Go Go.RowKit
set_option maxRecDepth 100000 in
set_option maxHeartbeats 4000000 in
theorem enc_good (r : Rec) (n : Nat) (d : ByteArray) (de : Int) (w : World) (hi : r.id.toList.isEmpty = false) (hu : ((r.use.size : Int) % 2 != 0) = false) (hn : ((n : Int) == 0) = false) (hd : d.size ≤ 7) (hid : r.id.size ≤ 254) (hus : r.use.size ≤ 254)
    (c1 : ∀ W : World, Calls Tryz.prog 66 #[cN r.id.size, cN r.use.size] W fun e w' => e = .returned (cN n) ∧ W = w')
    (c2 : ∀ W : World, Calls Tryz.prog 67 #[cN r.time, cN r.zone] W fun e w' => e = .returned (.tuple #[.string d, cN de]) ∧ Below W.heap.size W w')
    (hx : encX r de = 0) (hf0 : 0 ≤ r.flags) (hf1 : r.flags ≤ 255) : Calls Tryz.prog 48 #[.agg (recA r)] w fun e w' => e = .returned (.tuple #[.string ⟨(encL r n d).toArray⟩, cN 0]) ∧ Below w.heap.size w w' := by
  have hb := bN_wrap n
  have hf := bN_wrap r.flags
  have hl := bN_wrap r.id.size
  have HX := Lib.hid hx
  clear hx
  have hp : (((r.id.size : Int) % 2 == 0) = true ∧ padB r.id.size = [0]) ∨ (((r.id.size : Int) % 2 == 0) = false ∧ padB r.id.size = []) := by
    rw [padB]
    rcases (by omega : r.id.size % 2 = 0 ∨ r.id.size % 2 = 1) with h | h
    · left; rw [if_pos h]; refine ⟨?_, rfl⟩; rw [beq_iff_eq]; omega
    · right; rw [if_neg (by omega)]; refine ⟨?_, rfl⟩; rw [beq_eq_false_iff_ne]; omega
  obtain ⟨R, hR⟩ : ∃ R, (⟨(encL r n d).toArray⟩ : ByteArray) = R := ⟨_, rfl⟩
  rw [hR]
  have HR := Lib.hid hR
  clear hR
  rcases hp with ⟨hp, hp2⟩ | ⟨hp, hp2⟩
  all_goals
    have HP2 := Lib.hid hp2
    clear hp2
    go_enter Tryz.func48, Tryz.ntmps48
    go_wp2_with (first | (go_at_call 66; (with_reducible refine (c1 _).mono ?_); rintro e w1 ⟨rfl, rfl⟩) | (go_at_call 67; (with_reducible refine (c2 _).mono ?_); rintro e w1 ⟨rfl, hB⟩; have E0 := ES.init r de hB; obtain ⟨k0, k1, k2, k5, k6, k7⟩ := E0.cr; clear hB))
    have hx5 : wrongs (wrongs de [(r.lba, 4), (r.len, 4)]) [(r.seq, 2)] = 0 := HX.out
    have o1 := outs1_le r
    have HA : Hid ((#[.int .u8 ((bN n).toNat : Int), .int .u8 0] : Array Value) = (cb [bN n, 0]).toArray) := Lib.hid rfl
    have HF : Hid ((#[.int .u8 ((bN r.flags).toNat : Int), .int .u8 0, .int .u8 0] : Array Value) = (cb [bN r.flags, 0, 0]).toArray) := Lib.hid rfl
    have HP : Hid ((#[cN r.lba, cN 4, cN r.len, cN 4] : Array Value) = (flatP [(r.lba, 4), (r.len, 4)]).toArray) := Lib.hid rfl
    have HS : Hid ((#[cN r.seq, cN 2] : Array Value) = (flatP [(r.seq, 2)]).toArray) := Lib.hid rfl
    with_reducible refine (E0.write [bN n, 0] 2 (w1.heap.size + 1 + 1) _ (by simp) HA.out rfl (by simp) (by decide)).mono ?_
    rintro e w2 ⟨rfl, E1⟩
    obtain ⟨k0, k1, k2, k5, k6, k7⟩ := E1.cr
    go_wp2_with fail
    with_reducible refine (E1.nums [(r.lba, 4), (r.len, 4)] 4 _ HP.out rfl (by simp) (by simp) (by simp)).mono ?_
    rintro e w3 ⟨rfl, E2⟩
    clear k0 k1 k2 k5 k6 k7 E1
    go_wp2_with fail
    with_reducible refine (E2.str d (by simp; omega) (by omega)).mono ?_
    rintro e w4 ⟨rfl, E3⟩
    clear E2
    obtain ⟨k0, k1, k2, k5, k6, k7⟩ := E3.cr
    go_wp2_with fail
    with_reducible refine (E3.write [bN r.flags, 0, 0] 3 _ _ rfl HF.out rfl (by simp; omega) (by decide)).mono ?_
    rintro e w5 ⟨rfl, E4⟩
    clear k0 k1 k2 k5 k6 k7 E3
    obtain ⟨k0, k1, k2, k5, k6, k7⟩ := E4.cr
    go_wp2_with fail
    with_reducible refine (E4.nums [(r.seq, 2)] 2 _ HS.out rfl (by simp) (by simp; omega) (by simp)).mono ?_
    rintro e w6 ⟨rfl, E5⟩
    clear k0 k1 k2 k5 k6 k7 E4
    rw [hx5] at E5
    obtain ⟨k0, k1, k2, k5, k6, k7⟩ := E5.cr
    have cx := E5.cx
    clear hx5
    have E6 : ES w _ _ r 0 (encH r n d) w6 := E5
    have hel := encH_len r n d hd
    obtain ⟨H, hH⟩ : ∃ H, encH r n d = H := ⟨_, rfl⟩
    rw [hH] at E6 hel
    have HH := Lib.hid hH
    clear hH
    clear E5
    go_wp2_with fail
    with_reducible refine (E6.byte (bN r.id.size) (by omega)).mono ?_
    rintro e w7 ⟨rfl, E7⟩
    obtain ⟨k0, k1, k2, k5, k6, k7⟩ := E7.cr
    clear E6
    go_wp2_with fail
    with_reducible refine (E7.str r.id (by simp; omega) (by omega)).mono ?_
    rintro e w8 ⟨rfl, E8⟩
    clear k0 k1 k2 k5 k6 k7 E7
    obtain ⟨k0, k1, k2, k5, k6, k7⟩ := E8.cr
    go_wp2_with fail
    first
    | (have cz := E8.byte 0 (by simp; omega)
       rw [show ((0 : UInt8).toNat : Int) = 0 from rfl] at cz
       with_reducible refine cz.mono ?_
       rintro e w9 ⟨rfl, E9⟩
       clear k0 k1 k2 k5 k6 k7 E8 cz
       obtain ⟨k0, k1, k2, k5, k6, k7⟩ := E9.cr
       go_wp2_with fail
       with_reducible refine (E9.str r.use (by simp; omega) (by omega)).mono ?_
       rintro e w10 ⟨rfl, E10⟩
       clear k0 k1 k2 k5 k6 k7 E9
       go_wp2_with fail
       with_reducible refine E10.done.mono ?_
       rintro e w11 ⟨rfl, hB⟩
       go_wp2
       go_ret2
       refine ⟨?_, hB⟩
       have hL : encL r n d = H ++ bN r.id.size :: (r.id.data.toList ++ 0 :: r.use.data.toList) := by rw [encL, HH.out, HP2.out]; simp
       rw [← HR.out, hL]
       rfl)
    | (with_reducible refine (E8.str r.use (by simp; omega) (by omega)).mono ?_
       rintro e w10 ⟨rfl, E10⟩
       clear k0 k1 k2 k5 k6 k7 E8
       go_wp2_with fail
       with_reducible refine E10.done.mono ?_
       rintro e w11 ⟨rfl, hB⟩
       go_wp2
       go_ret2
       refine ⟨?_, hB⟩
       have hL : encL r n d = H ++ bN r.id.size :: (r.id.data.toList ++ r.use.data.toList) := by rw [encL, HH.out, HP2.out]; simp
       rw [← HR.out, hL]
       rfl)
end Go.Proofs.YtnmlephjhcmbhaaGreat
