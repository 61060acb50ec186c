/- directory.Encode. -/
import Derived.Test.YtnmlephjhcmbhaaGreatDkk
import Derived.Test.YtnmlephjhcmbhaaGreatDkh
import Derived.Test.YtnmlephjhcmbhaaGreatDkm
import Derived.Lib.BufferWrite
namespace Go.Proofs.YtnmlephjhcmbhaaGreat
set_option linter.unusedSimpArgs false
set_option linter.unusedVariables false
open Go Go.RowKit
theorem strInfo : (Tryz.prog.info? 9).map (fun i => (i.zero, i.size, i.bytes)) = some (some (.string ByteArray.empty), 1, 16) := by kernel_rfl
/-- The state of Encode behind k records. -/
structure EnS (w : World) (l : List Rec) (k : Nat) (v u : Value) (W : World) : Prop where
  strs : W.ownsRow w.heap.size 9 1 v k (strV (l.take k))
  lens : W.ownsRow w.heap.size 3 1 u k (ints (lenR (l.take k)))
  err : firstE (l.take k) = 0
  bel : Below w.heap.size w W
theorem EnS.start (w : World) (l : List Rec) : EnS w l 0 (.slice none 0 0) (.slice none 0 0) w := ⟨⟨rfl, .inl ⟨rfl, rfl⟩⟩, ⟨rfl, .inl ⟨rfl, rfl⟩⟩, rfl, Below.refl _ _⟩
theorem EnS.below {w : World} {l : List Rec} {k : Nat} {v u : Value} {W W' : World} (h : EnS w l k v u W) (b : Below W.heap.size W W') : EnS w l k v u W' :=
  ⟨own_keep h.strs b, own_keep h.lens b, h.err, bthen h.bel b⟩
theorem take_snocR (l : List Rec) (k : Nat) (hk : k < l.length) : l.take (k + 1) = l.take k ++ [l.getD k recD] := by
  rw [List.take_succ_eq_append_getElem hk, List.getD_eq_getElem?_getD, List.getElem?_eq_getElem hk, Option.getD_some]
theorem EnS.put1 {w : World} {l : List Rec} {k : Nat} {v u v' : Value} {W W1 : World} {x : Value} (h : EnS w l k v u W)
    (ho : W1.ownsRow w.heap.size 9 1 v' (k + 1) (strV (l.take k) ++ [x])) (hg : (W.alloc (.cells #[x] 9)).grownBy W1 v.ownBlock) :
    W1.ownsRow w.heap.size 3 1 u k (ints (lenR (l.take k))) ∧ Below w.heap.size w W1 := by
  have hb := Below.refl W.heap.size W
  have h1 := own_keep h.strs (hb.alloc (Nat.le_refl _) (.cells #[x] 9))
  have h2 := own_keep h.lens (hb.alloc (Nat.le_refl _) (.cells #[x] 9))
  refine ⟨h2.kept hg (own_apart h2 h1 (by decide)), ?_⟩
  exact (h.bel.alloc h.bel.size _).grown hg (by have := h.bel.size; simp; omega) (fun k e => (h1.lt k e).1)
theorem EnS.put2 {w : World} {l : List Rec} {k : Nat} {v' u u' : Value} {W1 W2 : World} {y : Value} (hk : k < l.length) (he : enE (l.getD k recD) = 0) (herr : firstE (l.take k) = 0)
    (ho : W1.ownsRow w.heap.size 9 1 v' (k + 1) (strV (l.take k) ++ [.string (enS (l.getD k recD))])) (hl : W1.ownsRow w.heap.size 3 1 u k (ints (lenR (l.take k)))) (hb : Below w.heap.size w W1)
    (hy : y = cN (((enS (l.getD k recD)).size : Nat) : Int))
    (h2 : W2.ownsRow w.heap.size 3 1 u' (k + 1) (ints (lenR (l.take k)) ++ [y])) (hg : (W1.alloc (.cells #[y] 3)).grownBy W2 u.ownBlock) : EnS w l (k + 1) v' u' W2 := by
  have hb0 := Below.refl W1.heap.size W1
  have o1 := own_keep ho (hb0.alloc (Nat.le_refl _) (.cells #[y] 3))
  have o2 := own_keep hl (hb0.alloc (Nat.le_refl _) (.cells #[y] 3))
  refine ⟨?_, ?_, ?_, ?_⟩
  · have := o1.kept hg (own_apart o1 o2 (by decide))
    rw [take_snocR l k hk]
    simpa [strV] using this
  · subst hy
    rw [take_snocR l k hk]
    simpa [lenR, ints] using h2
  · rw [take_snocR l k hk, firstE_snoc, if_pos herr, he]
  · exact (hb.alloc hb.size _).grown hg (by have := hb.size; simp; omega) (fun k e => (o2.lt k e).1)
/-- All but the block G is as it was. -/
structure Out (G : Nat) (w w' : World) : Prop where
  os : w'.os = w.os
  tape : w'.tape = w.tape
  output : w'.output = w.output
  size : w.heap.size ≤ w'.heap.size
  block : ∀ k, k ≠ G → k < w.heap.size → w'.heap[k]? = w.heap[k]?
theorem Out.refl (G : Nat) (w : World) : Out G w w := ⟨rfl, rfl, rfl, Nat.le_refl _, fun _ _ _ => rfl⟩
theorem Out.trans {G : Nat} {a b c : World} (h : Out G a b) (k : Out G b c) : Out G a c :=
  ⟨k.os.trans h.os, k.tape.trans h.tape, k.output.trans h.output, Nat.le_trans h.size k.size, fun i hi hl => (k.block i hi (Nat.lt_of_lt_of_le hl h.size)).trans (h.block i hi hl)⟩
theorem Out.drew {G : Nat} {a b : World} (h : Out G a b) : Out G a b.drew := ⟨h.os, h.tape, h.output, h.size, h.block⟩
theorem Out.below {G : Nat} {a b w : World} (h : Out G a b) (hb : Below w.heap.size w a) (hG : w.heap.size ≤ G) : Below w.heap.size w b :=
  hb.trans ⟨h.os, h.tape, h.output, h.size, fun k hk => h.block k (by omega) (by have := hb.size; omega)⟩
theorem Out.cell {G : Nat} {a b : World} (h : Out G a b) {k o : Nat} {v : Value} (hk : k ≠ G) (hc : a.cell? ⟨k, o, none⟩ = some v) : b.cell? ⟨k, o, none⟩ = some v :=
  (World.cell?_of_block (w := a) (h.block k hk (lt_of_cell hc))).trans hc
theorem RowI_own {W : World} {b : Nat} {u : Value} (m : List Nat) (h : W.ownsRow b 3 1 u m.length (ints m)) : ∃ a c, u = .slice a m.length c ∧ RowI W a (toI m) := by
  by_cases h0 : m = []
  · obtain ⟨a, c, rfl⟩ := own_form h
    exact ⟨a, c, rfl, fun k hk => by subst h0; simp [toI] at hk⟩
  · obtain ⟨g, c, rfl, hc⟩ := own_cells h h0
    refine ⟨some ⟨g, 0, none⟩, c, rfl, fun k hk => ⟨g, 0, rfl, ?_, ?_⟩⟩
    · exact lt_of_cell (hc 0 (by cases m with | nil => exact absurd rfl h0 | cons _ _ => simp))
    · rw [toI, List.length_map] at hk
      rw [hc k hk, toI_getD m k hk]
theorem lenI_toI (l : List Rec) : lenI l = toI (lenR l) := by simp [lenI, lenR, toI]
theorem own_strs {W : World} {b : Nat} {u : Value} {l : List Rec} (h : W.ownsRow b 9 1 u l.length (strV l)) : ∀ k, k < l.length → ∃ g c, u = .slice (some ⟨g, 0, none⟩) l.length c ∧ (∃ cur, W.heap[g]? = some (.cells cur 9 (0, 0))) ∧ W.cell? ⟨g, k, none⟩ = some (.string (enS (l.getD k recD))) := by
  intro k hk
  rcases h.2 with ⟨rfl, h0⟩ | ⟨g, cap, cur, rfl, hb, hg, h1, h2, h3, h4⟩
  · omega
  · refine ⟨g, cap, rfl, ⟨cur, hg⟩, ?_⟩
    have hc := World.ownsRow.cellAt h k (by omega)
    rw [hc]
    simp [strV, List.getD_eq_getElem?_getD, hk]
theorem own_ints {W : World} {b : Nat} {u : Value} {m : List Nat} (h : W.ownsRow b 3 1 u m.length (ints m)) : ∀ k, k < m.length → ∃ g c, u = .slice (some ⟨g, 0, none⟩) m.length c ∧ (∃ cur, W.heap[g]? = some (.cells cur 3 (0, 0))) ∧ W.cell? ⟨g, k, none⟩ = some (cN ((m.getD k 0 : Nat) : Int)) := by
  intro k hk
  rcases h.2 with ⟨rfl, h0⟩ | ⟨g, cap, cur, rfl, hb, hg, h1, h2, h3, h4⟩
  · omega
  · refine ⟨g, cap, rfl, ⟨cur, hg⟩, ?_⟩
    have hc := World.ownsRow.cellAt h k (by omega)
    rw [hc]
    simp [ints, List.getD_eq_getElem?_getD, hk]
theorem block_ne {W : World} {g G : Nat} {c1 c2 : Array Value} {t1 t2 : TypeId} {f1 f2 : Nat × Nat} (h1 : W.heap[g]? = some (.cells c1 t1 f1)) (h2 : W.heap[G]? = some (.cells c2 t2 f2)) (ht : t1 ≠ t2) : g ≠ G := by
  rintro rfl
  rw [h1] at h2
  simp only [Option.some.injEq, Obj.cells.injEq] at h2
  exact ht h2.2.1
theorem cb_splice (L : List UInt8) (s : List UInt8) (p q : Nat) : (cb L).take p ++ Lib.byteCells s ++ (cb L).drop q = cb (L.take p ++ s ++ L.drop q) := by simp [cb, Lib.byteCells]
/-- Bytes, copied to their place. -/
theorem put_bytes (G p T : Nat) (L L' : List UInt8) (s : ByteArray) (W : World) (hl : L.length = T) (hT : p + s.size ≤ T) (hL : L.take p ++ s.data.toList ++ L.drop (p + s.size) = L')
    (hg : W.heap[G]? = some (.cells (cb L).toArray 5 (0, 0))) :
    ∃ wz, (Builtin.copy_ #[69, 9] 3 #[.slice (some ⟨G, p, none⟩) (T - p) (T - p), .string s]).run Tryz.prog W = .ok (goInt s.size) wz ∧ wz.heap[G]? = some (.cells (cb L').toArray 5 (0, 0)) ∧ Out G W wz := by
  have h := Lib.run_copy_row_string (P := Tryz.prog) W 69 9 3 5 G p (T - p) (T - p) s _ 5 Tryz.underlying69 (by kernel_rfl) hg (by omega) (by simp [cb_length, hl]; omega)
  refine ⟨_, h, ?_, ?_⟩
  · refine (setRow_heap W G _ _ 5 (0, 0) hg).trans ?_
    rw [List.toList_toArray, cb_splice, hL]
  · exact ⟨rfl, rfl, rfl, by simp [World.setRow], fun j hj _ => setRow_other W G j _ hj⟩
/-- A record, copied to its place. -/
theorem put_rec (T : Nat) (l : List Rec) (k : Nat) (hk : k < l.length) (G : Nat) (W : World) (p : Nat) (s : ByteArray) (hs : enS (l.getD k recD) = s) (hp : p = plc (plcE 0 (lenR (l.take k))) s.size) (hT : p + s.size ≤ T)
    (hg : W.heap[G]? = some (.cells (cb (bufL T (enL (l.take k)))).toArray 5 (0, 0))) :
    ∃ wz, (Builtin.copy_ #[69, 9] 3 #[.slice (some ⟨G, p, none⟩) (T - p) (T - p), .string s]).run Tryz.prog W = .ok (goInt s.size) wz ∧
      wz.heap[G]? = some (.cells (cb (bufL T (enL (l.take (k + 1))))).toArray 5 (0, 0)) ∧ Out G W wz := by
  have hpos : plcE 0 (lensN (enL (l.take k))) ≤ T := by
    rw [lensN_enL]
    have := (plc_le (plcE 0 (lenR (l.take k))) s.size).1
    omega
  refine put_bytes G p T _ _ s W (buf_len T (enL (l.take k)) hpos) hT ?_ hg
  have hb := buf_put T (enL (l.take k)) s.data.toList (by rw [lensN_enL, list_size, ← hp]; exact hT)
  rw [lensN_enL, list_size, ← hp] at hb
  rw [hb, take_snocR l k hk, show enL (l.take k ++ [l.getD k recD]) = enL (l.take k) ++ [(enS (l.getD k recD)).data.toList] by simp [enL], hs]
theorem lenR_take (l : List Rec) (k : Nat) : (lenR l).take k = lenR (l.take k) := by simp [lenR]
theorem lenR_get (l : List Rec) (k : Nat) (hk : k < l.length) : (lenR l).getD k 0 = (enS (l.getD k recD)).size := by
  simp [lenR, List.getD_eq_getElem?_getD, hk]
theorem place_eq (l : List Rec) (k : Nat) (hk : k < l.length) (p : Nat) (s : ByteArray) (hs : enS (l.getD k recD) = s) (hp : (plcs 0 (lenR l)).getD k 0 = p) : p = plc (plcE 0 (lenR (l.take k))) s.size := by
  rw [← hp, plcs_get _ _ _ (by simpa [lenR] using hk), lenR_take, lenR_get l k hk, hs]
theorem place_of (l : List Rec) (k : Nat) (hk : k < l.length) (h0 : firstE l = 0) : ∃ p s, enS (l.getD k recD) = s ∧ (plcs 0 (lenR l)).getD k 0 = p ∧ p + s.size ≤ totT l ∧ 34 ≤ s.size := by
  refine ⟨_, _, rfl, rfl, ?_, ?_⟩
  · have e := place_eq l k hk _ _ rfl rfl
    rw [e]
    have h1 := totT_ge h0
    have h2 := plcE_take (lenR l) (k + 1) 0
    rw [lenR_take, take_snocR l k hk, show lenR (l.take k ++ [l.getD k recD]) = lenR (l.take k) ++ [(enS (l.getD k recD)).size] by simp [lenR], plcE_snoc] at h2
    omega
  · have hm : l.getD k recD ∈ l := by
      rw [List.getD_eq_getElem?_getD, List.getElem?_eq_getElem hk, Option.getD_some]
      exact List.getElem_mem hk
    exact (enS_size (firstE_all h0 _ hm)).2.1
/-- What remains behind the first loop. -/
def EnE (w : World) (l : List Rec) (e : Ending) (w' : World) : Prop := e = .returned (.tuple #[.string (encDS l), cN (encDE l)]) ∧ Below w.heap.size w w'
theorem EnE.bad {w w' : World} {l : List Rec} {x : Int} (hx : encDE l = x) (h0 : x ≠ 0) (hb : Below w.heap.size w w') : EnE w l (.returned (.tuple #[.string ⟨#[]⟩, cN x])) w' := by
  refine ⟨?_, hb⟩
  rw [hx, encDS, hx, if_neg h0]
  rfl
set_option maxRecDepth 100000 in
set_option maxHeartbeats 400000 in
theorem denc_large (a : Option Addr) (c : Nat) (l : List Rec) (w : World) (hl : 1024 < l.length) :
    Calls Tryz.prog 24 #[.slice a l.length c] w (EnE w l) := by
  have hx : encDE l = 7 := by rw [encDE, if_pos hl]
  have g1 : (1024 : Int) < (l.length : Int) := by omega
  have HX := Lib.hid hx
  clear hx
  go_enter Tryz.func24, Tryz.ntmps24
  go_wp2
  go_ret2
  exact EnE.bad HX.out (by decide) (Below.refl _ _)
set_option maxRecDepth 100000 in
set_option maxHeartbeats 4000000 in
theorem denc_small (a : Option Addr) (c : Nat) (l : List Rec) (w : World) (hl : l.length ≤ 1024) (hrow : RowR w a l) (hsz : ∀ r ∈ l, r.id.size ≤ maxLen ∧ r.use.size ≤ maxLen) :
    Calls Tryz.prog 24 #[.slice a l.length c] w (EnE w l) := by
  obtain ⟨i0, hi, hz0, hz1, hz2⟩ := info_parts i64Info
  obtain ⟨j0, hj, ky0, ky1, ky2⟩ := info_parts strInfo
  have HR := Lib.hid hrow
  have HZ := Lib.hid hsz
  have g1 : ¬ (1024 : Int) < (l.length : Int) := by omega
  clear hrow hsz
  go_enter Tryz.func24, Tryz.ntmps24
  go_wp2
  go_loopw [18, 4, 5, 8, 9] (fun i v u _ _ wr => ∃ k : Nat, i = cN k ∧ k ≤ l.length ∧ EnS w l k v u wr) (fun i _ _ _ _ _ => l.length - (intOf i).toNat)
  case atStart => exact ⟨0, rfl, Nat.zero_le _, EnS.start w l⟩
  case round =>
    obtain ⟨k, rfl, hk, hS⟩ := hrel
    have HS := Lib.hid hS
    have hB := hS.bel
    clear hS
    by_cases hlt : (k : Int) < (l.length : Int)
    · have hkl : k < l.length := by omega
      obtain ⟨b, off, rfl, hb, hc⟩ := HR.out k hkl
      obtain ⟨r, hr⟩ : ∃ r, l.getD k recD = r := ⟨_, rfl⟩
      rw [hr] at hc
      have hmem : r ∈ l := by rw [← hr, List.getD_eq_getElem?_getD, List.getElem?_eq_getElem hkl, Option.getD_some]; exact List.getElem_mem hkl
      obtain ⟨q0, q1, q2, q3, q4, q5, q6, q7⟩ := hc.below hb hB
      obtain ⟨z1, z2⟩ := HZ.out r hmem
      have c1 := fun W => drenc_ok r W z1 z2
      have HRR := Lib.hid hr
      have HB := Lib.hid hB
      have HM := Lib.hid (show wr.heap.size + 1 ≤ wr.heap.size + 1 from Nat.le_refl _)
      clear hr hc hmem hB z1 z2
      by_cases he : enE r = 0
      · rw [he] at c1
        have HE := Lib.hid he
        clear he
        go_wp2_with fail
        with_reducible refine (c1 _).mono ?_
        rintro e w1 ⟨rfl, hB1⟩
        have H1 := HS.out.below (bthen (bald (Below.refl _ wr) _) hB1)
        have hsz1 := H1.bel.size
        clear hB1
        go_wp2_with (at_builtin; refine wpList_append_own _ rfl _ _ 53 rfl w.heap.size 9 j0 (.string ByteArray.empty) 1 16 Tryz.underlying53 hj ky0 ky1 ky2 rfl (by decide) _ _ _ rfl (H1.strs.alloc _) ⟨w1.heap.size, 0, none⟩ 1 1 [.string (enS r)] rfl rfl ?c1 ?c2 ?c3 ?c4 ?c5 ?_)
        try case c1 => intro j u h; exact cell_one_new _ _ _ j u h
        case c2 => first | rfl | (intro u h; rw [List.mem_singleton.1 h]; rfl)
        case c3 => unfold maxLen; omega
        case c4 => omega
        case c5 => first | omega | (simp; omega)
        intro v' w2 ho hg _
        obtain ⟨hl2, hb2⟩ := H1.put1 ho hg
        have hsz2 := hb2.size
        have HO := Lib.hid ho
        clear ho hg
        go_wp2_with (at_builtin; refine wpList_append_own _ rfl _ _ 33 rfl w.heap.size 3 i0 (.int .i64 0) 1 8 Tryz.underlying33 hi hz0 hz1 hz2 rfl (by decide) _ _ _ rfl (hl2.alloc _) ⟨w2.heap.size, 0, none⟩ 1 1 [cN ((enS r).size : Int)] rfl rfl ?e1 ?e2 ?e3 ?e4 ?e5 ?_)
        try case e1 => intro j u h; exact cell_one_new _ _ _ j u h
        case e2 => first | rfl | (intro u h; rw [List.mem_singleton.1 h]; rfl)
        case e3 => unfold maxLen; omega
        case e4 => omega
        case e5 => first | omega | (simp; omega)
        intro u' w3 ho3 hg3 _
        have H3 : EnS w l (k + 1) v' u' w3 := EnS.put2 hkl (by rw [HRR.out]; exact HE.out) HS.out.err (by rw [HRR.out]; exact HO.out) hl2 hb2 (by rw [HRR.out]) ho3 hg3
        have H3' := Lib.hid H3
        clear ho3 hg3 hl2 hb2 H3
        go_wp2
        go_roundw
        case rel => exact ⟨k + 1, by go_num, by omega, H3'.out⟩
        case measure => simp [intOf]; omega
      · have hf := firstE_bad l k hkl HS.out.err (by rw [HRR.out]; exact he)
        rw [HRR.out] at hf
        obtain ⟨x, hx⟩ : ∃ x, enE r = x := ⟨_, rfl⟩
        rw [hx] at c1 hf he
        have g2 : (x != 0) = true := by simpa using he
        have HX := Lib.hid (show encDE l = x by rw [encDE, if_neg (by omega), hf])
        have HN := Lib.hid he
        clear hf hx he
        go_wp2_with fail
        with_reducible refine (c1 _).mono ?_
        rintro e w1 ⟨rfl, hB1⟩
        go_wp2
        go_ret2
        exact EnE.bad HX.out HN.out (bthen (bald HB.out _) hB1)
    · obtain rfl : k = l.length := by omega
      have H := HS.out
      obtain ⟨o1, o2, herr, -⟩ := H
      rw [List.take_length] at o1 o2 herr
      obtain ⟨a2, c2, rfl, hI⟩ := RowI_own (lenR l) (by rw [show (lenR l).length = l.length by simp [lenR]]; exact o2)
      rw [← lenI_toI] at hI
      have hlen : (lenR l).length = (lenI l).length := by simp [lenR, lenI]
      have hlen2 : (lenI l).length = l.length := by simp [lenI]
      rw [hlen] at *
      have c1 := blks_ok a2 c2 (lenI l) wr (by omega) hI
      have c3 := fun (W : World) (hW : Below wr.heap.size wr W) => offs_ok a2 c2 (lenI l) W (by omega) (hI.below hW)
      have hE := endM_le (lenI l)
      have hT0 : totT l = blkM (lenI l) * 2048 := rfl
      have hB0 : blkM (lenI l) ≤ 5000000 := by unfold blkM; omega
      obtain ⟨B, hBB⟩ : ∃ B, blkM (lenI l) = B := ⟨_, rfl⟩
      rw [hBB] at c1 hT0 hB0
      obtain ⟨T, hTT⟩ : ∃ T, totT l = T := ⟨_, rfl⟩
      rw [hTT] at hT0
      have hmk : ∀ W, (Instr.makeSlice 69 (.int .i64 ((B : Int) * 2048)) (.int .i64 ((B : Int) * 2048))).run Tryz.prog W = .ok (.slice (some ⟨W.heap.size, 0, none⟩) T T) (W.alloc (.cells (cb (bufL T [])).toArray 5)) := fun W => by
        have e := make_bytes (P := Tryz.prog) Tryz.underlying69 u8Info T (by omega) W
        rw [show ((B : Int) * 2048) = ((T : Nat) : Int) by omega, e]
        congr 3
        apply Array.toList_inj.1
        simp [cb, bufL, bodyL, lensN, plcE]
      have m0 : (0 : Int) ≤ (B : Int) := by omega
      have m1 : (B : Int) ≤ 5000000 := by omega
      have m2 : (B : Int) * 2048 = T := by omega
      have HT := Lib.hid hTT
      have HER := Lib.hid herr
      have HO1 := Lib.hid o1
      have HMK := Lib.hid m2
      clear hE hT0 hB0 hBB hTT herr o1 o2 hI HR HZ hlen hlen2 m2
      go_wp2_with (go_at_call 19; (with_reducible refine c1.mono ?_); rintro e w1 ⟨rfl, hB1⟩)
      have HG : Hid ((w1.alloc (.cells (cb (bufL T [])).toArray 5)).heap[w1.heap.size]? = some (.cells (cb (bufL T [])).toArray 5 (0, 0))) := Lib.hid (World.alloc_heap_new _ _)
      have hB2 : Below wr.heap.size wr (w1.alloc (.cells (cb (bufL T [])).toArray 5)) := bald hB1 _
      have HB2 := Lib.hid hB2
      have c4 := c3 _ hB2
      rw [offM, if_pos (lenI_ok HER.out), natS_lenI] at c4
      have hpl : (plcs 0 (lenR l)).length = l.length := by rw [plcs_len]; simp [lenR]
      clear c3 hB2
      go_wp2_with (go_at_call 22; (with_reducible refine c4.mono ?_); rintro e w3 ⟨x, rfl, hI⟩; have HI := Lib.hid hI; obtain ⟨a3, c5, rfl⟩ := own_form hI.1; rw [hpl]; clear hI)
      have hB3 := HI.out.2
      have hG3 : w3.heap[w1.heap.size]? = some (.cells (cb (bufL T (enL (l.take 0)))).toArray 5 (0, 0)) := (hB3.block _ (lt_of_block HG.out)).trans HG.out
      have hbel : Below w.heap.size w w3 := bthen HS.out.bel (bthen HB2.out hB3)
      have hwG : w.heap.size ≤ w1.heap.size := by have := HS.out.bel.size; have := hB1.size; omega
      have ho1 := own_keep HO1.out (bthen HB2.out hB3)
      have O1 := Lib.hid (own_strs ho1)
      have O2 := Lib.hid (own_ints HI.out.1)
      have HW := Lib.hid hwG
      have HG3 := Lib.hid hG3
      have HBE := Lib.hid hbel
      have HPL := Lib.hid hpl
      clear hB3 hG3 hbel hwG ho1 hpl c1 c4
      go_loopw [47, 11, 12] (fun i _ _ wq => ∃ k : Nat, i = cN k ∧ k ≤ l.length ∧ wq.heap[w1.heap.size]? = some (.cells (cb (bufL T (enL (l.take k)))).toArray 5 (0, 0)) ∧ Out w1.heap.size w3 wq) (fun i _ _ _ => l.length - (intOf i).toNat)
      case atStart => exact ⟨0, rfl, Nat.zero_le _, HG3.out, Out.refl _ _⟩
      case round =>
        obtain ⟨k, rfl, hk, hg, hO⟩ := hrel
        by_cases hlt : (k : Int) < (l.length : Int)
        · have hkl : k < l.length := by omega
          obtain ⟨g1, d1, rfl, ⟨cur1, hc1⟩, hs1⟩ := O1.out k hkl
          obtain ⟨g2, d2, he2, ⟨cur2, hc2⟩, hs2⟩ := O2.out k (by rw [HPL.out]; exact hkl)
          simp only [Value.slice.injEq] at he2
          obtain ⟨rfl, -, rfl⟩ := he2
          have q1 := hO.cell (block_ne hc1 HG3.out (by decide)) hs1
          have q2 := hO.cell (block_ne hc2 HG3.out (by decide)) hs2
          obtain ⟨p, s, hs, hp, hT, hn⟩ := place_of l k hkl HER.out
          rw [hs] at q1
          rw [hp] at q2
          rw [HT.out] at hT
          have hne : ¬ T = p := by omega
          have hpT : (p : Int) ≤ T := by omega
          have hp0 : (0 : Int) ≤ (p : Int) := by omega
          obtain ⟨wz, hcp, hz1, hz2⟩ := put_rec T l k hkl w1.heap.size wr.drew p s hs (place_eq l k hkl p s hs hp) hT hg
          have HZ1 := Lib.hid hz1
          have HZ2 := Lib.hid (hO.drew.trans hz2)
          clear hc1 hs1 hc2 hs2 hs hp hT hn hg hO hz1 hz2
          go_wp2
          refine region_sch (fun w' => w' = wr.drew) [(true, 0), (true, 1), (true, 2), (true, 3), (true, 4), (true, 5), (true, 6)] [7] (by kernel_rfl) (by kernel_rfl) (by rintro ⟨_, _, h⟩; cases h.1) (fun _ _ d _ _ h => by cases d <;> exact h) rfl ?_
          simp only [pickM, pickT, List.filterMap_cons, List.filterMap_nil, List.getElem?_cons_zero, List.getElem?_cons_succ, Option.map_some]
          repeat (refine m_float ⟨?_, .inl ⟨?_, .inl ?_⟩, fun K' hK => ?_⟩; rotate_left; (first | rfl | (go_simp; done)); (intro w' hS; subst hS; go_simp; try rfl); (simp only [Act.put, List.setIfInBounds_toArray, List.set_cons_succ, List.set_cons_zero]; refine hK _ ?_; clear hK K'))
          refine m_nil ?_
          show wpList Tryz.prog _ _ (List.cons _ _) _ _
          go_wp2
          go_roundw
          case rel => exact ⟨k + 1, by go_num, by omega, HZ1.out, HZ2.out⟩
          case measure => simp [intOf]; omega
        · obtain rfl : k = l.length := by omega
          have hT := totT_ge HER.out
          rw [HT.out, ← lensN_enL] at hT
          have hbl := buf_len T (enL l) hT
          rw [List.take_length] at hg
          have hcv := row_string (P := Tryz.prog) (src := 69) (dst := 9) (n := T) (cap := T) Tryz.underlying69 Tryz.underlying5 Tryz.underlying9 hbl hg
          have HOO := Lib.hid hO
          clear hT hbl hg hO
          go_wp2
          go_ret2
          refine ⟨?_, HOO.out.below HBE.out HW.out⟩
          have hde : encDE l = 0 := by rw [encDE, if_neg (by omega), HER.out]
          rw [encDS, hde, if_pos rfl, HT.out]
          rfl
theorem denc_ok (a : Option Addr) (c : Nat) (l : List Rec) (w : World) (hrow : RowR w a l) (hsz : ∀ r ∈ l, r.id.size ≤ maxLen ∧ r.use.size ≤ maxLen) :
    Calls Tryz.prog 24 #[.slice a l.length c] w fun e w' => e = .returned (.tuple #[.string (encDS l), cN (encDE l)]) ∧ Below w.heap.size w w' := by
  by_cases hl : 1024 < l.length
  · exact denc_large a c l w hl
  · exact denc_small a c l w (by omega) hrow hsz
end Go.Proofs.YtnmlephjhcmbhaaGreat
