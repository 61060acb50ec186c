/- The contents of a directory, plain. -/
import Derived.Test.YtnmlephjhcmbhaaGreatDkg
import Derived.Test.YtnmlephjhcmbhaaGreatDki
import Derived.Laws.CopyOwn
namespace Go.Proofs.YtnmlephjhcmbhaaGreat
set_option linter.unusedSimpArgs false
set_option linter.unusedVariables false
open Go Go.RowKit
theorem enc_cases2 (r : Rec) : ∃ (d : ByteArray) (de : Int), ((de = 0 ∨ de = 2) ∧ d.size ≤ 7 ∧ RecS r.time r.zone d de ∧ (errM r de = 0 → ∃ n H, EncF r n H (strM r d de)) ∧ (errM r de ≠ 0 → strM r d de = ByteArray.empty)) ∧ (inT r.time r.zone → de = 0) := by
  by_cases hT : inT r.time r.zone
  · obtain ⟨x, hh, mm, ss, k⟩ := time_of hT
    refine ⟨recB x hh mm ss r.zone, 0, ⟨.inl rfl, Nat.le_refl 7, recS_good hT k, ?_, fun h => by rw [strM, if_neg h]⟩, fun _ => rfl⟩
    intro h
    obtain ⟨i1, i2, i3, f0, f1, n, hn, h0⟩ := errM_zero h hT
    obtain ⟨hH, hd⟩ := head_of_enc (n := n) hT k i1 i2 i3 f0 f1 (by have := size_facts hn h0; omega)
    refine ⟨n, _, hH, hd, hn, h0, ?_⟩
    rw [strM, if_pos h, hn, ← encL_head]
  · obtain ⟨d, de, h⟩ := enc_cases r
    exact ⟨d, de, h, fun k => absurd k hT⟩
noncomputable def dOf (r : Rec) : ByteArray := (enc_cases2 r).choose
noncomputable def deOf (r : Rec) : Int := (enc_cases2 r).choose_spec.choose
theorem deOf_in {r : Rec} (h : inT r.time r.zone) : deOf r = 0 := (enc_cases2 r).choose_spec.choose_spec.2 h
theorem ofSpec (r : Rec) : (deOf r = 0 ∨ deOf r = 2) ∧ (dOf r).size ≤ 7 ∧ RecS r.time r.zone (dOf r) (deOf r) ∧ (errM r (deOf r) = 0 → ∃ n H, EncF r n H (strM r (dOf r) (deOf r))) ∧ (errM r (deOf r) ≠ 0 → strM r (dOf r) (deOf r) = ByteArray.empty) := (enc_cases2 r).choose_spec.choose_spec.1
/-- What Encode gives of a record. -/
noncomputable def enS (r : Rec) : ByteArray := strM r (dOf r) (deOf r)
noncomputable def enE (r : Rec) : Int := errM r (deOf r)
theorem drenc_ok (r : Rec) (w : World) (h1 : r.id.size ≤ maxLen) (h2 : r.use.size ≤ maxLen) : Calls Tryz.prog 48 #[.agg (recA r)] w fun e w' => e = .returned (.tuple #[.string (enS r), cN (enE r)]) ∧ Below w.heap.size w w' :=
  encode_ok r (dOf r) (deOf r) w (ofSpec r).1 (ofSpec r).2.1 h1 h2 (ofSpec r).2.2.1.main
theorem rdrenc_ok (r : Rec) (w : World) (h1 : r.id.size ≤ maxLen) (h2 : r.use.size ≤ maxLen) : Calls Tryz.prog 49 #[.agg (recA r)] w fun e w' => e = .returned (.tuple #[.string (enS r), cN (enE r)]) ∧ Below w.heap.size w w' :=
  rencode_ok r (dOf r) (deOf r) w (ofSpec r).1 (ofSpec r).2.1 h1 h2 (ofSpec r).2.2.1.ref
theorem enE_range (r : Rec) : enE r = 0 ∨ enE r = 1 ∨ enE r = 2 ∨ enE r = 7 := by
  unfold enE errM
  split
  · omega
  · split
    · omega
    · split <;> omega
theorem enS_good {r : Rec} (h : enE r = 0) : ∃ n H, EncF r n H (enS r) := (ofSpec r).2.2.2.1 h
theorem enS_bad {r : Rec} (h : enE r ≠ 0) : enS r = ByteArray.empty := (ofSpec r).2.2.2.2 h
theorem enS_size {r : Rec} (h : enE r = 0) : sizeI r.id.size r.use.size = (enS r).size ∧ 34 ≤ (enS r).size ∧ (enS r).size ≤ 254 ∧ (enS r).size % 2 = 0 := by
  obtain ⟨n, H, F⟩ := enS_good h
  have hs := F.size
  have hn := F.hn
  have h0 := F.h0
  have f := size_facts hn h0
  rw [hs]
  exact ⟨hn, f.1, f.2.1, f.2.2.1⟩
/-- The first error. -/
noncomputable def firstE : List Rec → Int
  | [] => 0
  | r :: l => if enE r = 0 then firstE l else enE r
theorem firstE_snoc (l : List Rec) (r : Rec) : firstE (l ++ [r]) = if firstE l = 0 then enE r else firstE l := by
  induction l with
  | nil =>
    simp [firstE]
    exact fun h => h.symm
  | cons x l ih =>
    rw [List.cons_append, firstE, firstE, ih]
    by_cases h : enE x = 0
    · rw [if_pos h, if_pos h]
    · rw [if_neg h, if_neg h, if_neg h]
theorem firstE_bad (l : List Rec) (k : Nat) (hk : k < l.length) (h0 : firstE (l.take k) = 0) (h : enE (l.getD k recD) ≠ 0) : firstE l = enE (l.getD k recD) := by
  induction l generalizing k with
  | nil => simp at hk
  | cons x l ih =>
    cases k with
    | zero => simp only [List.getD_cons_zero] at h ⊢; rw [firstE, if_neg h]
    | succ k =>
      rw [List.take_succ_cons, firstE] at h0
      by_cases hx : enE x = 0
      · rw [if_pos hx] at h0
        rw [firstE, if_pos hx]
        simp only [List.getD_cons_succ] at h ⊢
        exact ih k (by simpa using hk) h0 h
      · rw [if_neg hx] at h0; exact absurd h0 hx
theorem firstE_all {l : List Rec} (h : firstE l = 0) : ∀ r ∈ l, enE r = 0 := by
  induction l with
  | nil => intro r hr; cases hr
  | cons x l ih =>
    rw [firstE] at h
    by_cases hx : enE x = 0
    · rw [if_pos hx] at h
      intro r hr
      rcases List.mem_cons.1 hr with rfl | hr
      · exact hx
      · exact ih h r hr
    · rw [if_neg hx] at h; exact absurd h hx
noncomputable def lenR (l : List Rec) : List Nat := l.map fun r => (enS r).size
noncomputable def lenI (l : List Rec) : List Int := l.map fun r => ((enS r).size : Int)
noncomputable def strV (l : List Rec) : List Value := l.map fun r => .string (enS r)
noncomputable def enL (l : List Rec) : List (List UInt8) := l.map fun r => (enS r).data.toList
theorem lenI_ok {l : List Rec} (h : firstE l = 0) : okL (lenI l) = true := by
  unfold okL lenI
  rw [List.all_map, List.all_eq_true]
  intro r hr
  have := enS_size (firstE_all h r hr)
  simp only [Function.comp, okS]
  exact decide_eq_true (by omega)
theorem natS_lenI (l : List Rec) : natS (lenI l) = lenR l := by simp [natS, lenI, lenR]
/-- The records, each at its place, from the place a on. -/
def bodyL : Nat → List (List UInt8) → List UInt8
  | _, [] => []
  | a, s :: l => List.replicate (plc a s.length - a) 0 ++ (s ++ bodyL (plc a s.length + s.length) l)
def lensN (l : List (List UInt8)) : List Nat := l.map List.length
theorem lensN_enL (l : List Rec) : lensN (enL l) = lenR l := by simp [lensN, enL, lenR, list_size]
theorem body_len : ∀ (l : List (List UInt8)) (a : Nat), (bodyL a l).length + a = plcE a (lensN l)
  | [], a => by simp [bodyL, lensN, plcE]
  | s :: l, a => by
    have h := body_len l (plc a s.length + s.length)
    have h2 := plc_le a s.length
    simp only [lensN, List.map_cons] at h ⊢
    rw [bodyL, plcE, ← h]
    simp
    omega
theorem body_snoc : ∀ (l : List (List UInt8)) (a : Nat) (s : List UInt8), bodyL a (l ++ [s]) = bodyL a l ++ (List.replicate (plc (plcE a (lensN l)) s.length - plcE a (lensN l)) 0 ++ s)
  | [], a, s => by simp [bodyL, lensN, plcE]
  | x :: l, a, s => by
    rw [List.cons_append, bodyL, body_snoc l, bodyL]
    simp [lensN, plcE]
def bufL (T : Nat) (l : List (List UInt8)) : List UInt8 := bodyL 0 l ++ List.replicate (T - plcE 0 (lensN l)) 0
theorem buf_len (T : Nat) (l : List (List UInt8)) (h : plcE 0 (lensN l) ≤ T) : (bufL T l).length = T := by
  have := body_len l 0
  simp only [bufL, List.length_append, List.length_replicate]
  omega
theorem buf_put (T : Nat) (l : List (List UInt8)) (s : List UInt8) (h : plc (plcE 0 (lensN l)) s.length + s.length ≤ T) :
    (bufL T l).take (plc (plcE 0 (lensN l)) s.length) ++ s ++ (bufL T l).drop (plc (plcE 0 (lensN l)) s.length + s.length) = bufL T (l ++ [s]) := by
  have hb := body_len l 0
  obtain ⟨E, hE⟩ : ∃ E, plcE 0 (lensN l) = E := ⟨_, rfl⟩
  have hE2 : plcE 0 (lensN (l ++ [s])) = plc E s.length + s.length := by
    rw [lensN, List.map_append, List.map_cons, List.map_nil, plcE_snoc, ← hE]; rfl
  unfold bufL
  rw [hE2, body_snoc, hE]
  rw [hE] at h hb
  have hp := (plc_le E s.length).1
  obtain ⟨p, hpp⟩ : ∃ p, plc E s.length = p := ⟨_, rfl⟩
  rw [hpp] at h hp ⊢
  have hbl : (bodyL 0 l).length = E := by omega
  have e1 : (bodyL 0 l ++ List.replicate (T - E) (0 : UInt8)).take p = bodyL 0 l ++ List.replicate (p - E) 0 := by
    rw [List.take_append, List.take_of_length_le (by omega), hbl, List.take_replicate]
    congr 2
    omega
  have e2 : (bodyL 0 l ++ List.replicate (T - E) (0 : UInt8)).drop (p + s.length) = List.replicate (T - (p + s.length)) 0 := by
    rw [List.drop_append, List.drop_eq_nil_of_le (by omega), hbl, List.nil_append, List.drop_replicate]
    congr 1
    omega
  rw [e1, e2]
  simp
theorem plcE_ge : ∀ (l : List Nat) (a : Nat), a ≤ plcE a l
  | [], _ => Nat.le_refl _
  | n :: l, a => by
    have h1 := (plc_le a n).1
    have h2 := plcE_ge l (plc a n + n)
    rw [plcE]; omega
theorem plcE_append : ∀ (l m : List Nat) (a : Nat), plcE a (l ++ m) = plcE (plcE a l) m
  | [], _, _ => rfl
  | n :: l, m, a => by rw [List.cons_append, plcE, plcE_append l m, plcE]
theorem plcE_take (l : List Nat) (k : Nat) (a : Nat) : plcE a (l.take k) ≤ plcE a l := by
  conv => rhs; rw [← List.take_append_drop k l, plcE_append]
  exact plcE_ge _ _
theorem plcs_get : ∀ (l : List Nat) (a k : Nat), k < l.length → (plcs a l).getD k 0 = plc (plcE a (l.take k)) (l.getD k 0)
  | [], _, _, h => by simp at h
  | n :: l, a, 0, _ => by simp [plcs, plcE]
  | n :: l, a, k + 1, h => by
    rw [plcs, List.getD_cons_succ, List.getD_cons_succ, List.take_succ_cons, plcE, plcs_get l _ k (by simpa using h)]
noncomputable def totT (l : List Rec) : Nat := blkM (lenI l) * 2048
theorem totT_ge {l : List Rec} (h : firstE l = 0) : plcE 0 (lenR l) ≤ totT l := by
  unfold totT blkM endM
  rw [if_pos (lenI_ok h), natS_lenI]
  omega
/-- What Encode gives. -/
noncomputable def encDE (l : List Rec) : Int := if 1024 < l.length then 7 else firstE l
noncomputable def encDS (l : List Rec) : ByteArray := if encDE l = 0 then ⟨(bufL (totT l) (enL l)).toArray⟩ else ByteArray.empty
end Go.Proofs.YtnmlephjhcmbhaaGreat
