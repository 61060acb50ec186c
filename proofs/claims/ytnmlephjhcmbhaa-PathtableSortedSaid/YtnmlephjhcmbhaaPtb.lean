/- What pathtable.Order gives is a path table. -/
import Derived.Test.YtnmlephjhcmbhaaPta
namespace Go.Proofs.Ytnmlephjhcmbhaa
set_option linter.unusedSimpArgs false
set_option linter.unusedVariables false
open Go Go.RowKit
theorem numK_get (o : List Nat) (n : Nat) (hn : o.Nodup) (hlt : ∀ i ∈ o, i < n) : ∀ k j, k ≤ o.length → j < k → (numK o n k).getD (o.getD j 0) 0 = j + 1
  | 0, j, _, h => by omega
  | k + 1, j, h1, h2 => by
    rw [numK]
    have hl := numK_len o n k
    have hk := hlt _ (getD_mem (g := o) (j := k) (by omega))
    by_cases e : j = k
    · subst e
      simp [List.getD_eq_getElem?_getD, hl, show o[j]?.getD 0 < n by rw [← List.getD_eq_getElem?_getD]; exact hk]
    · have hne : o.getD k 0 ≠ o.getD j 0 := fun h => e (getD_inj hn (by omega) (by omega) h.symm)
      have ih := numK_get o n hn hlt k j (by omega) (by omega)
      rw [List.getD_eq_getElem?_getD, List.getElem?_set_ne hne, ← List.getD_eq_getElem?_getD]
      exact ih
theorem outK_get (l : List PE) (o : List Nat) (n : Nat) : ∀ m k, k < m → (outK l o n m).getD k peD = entK l o n k
  | 0, k, h => by omega
  | m + 1, k, h => by
    rw [outK]
    have hl := outK_len l o n m
    rw [List.getD_eq_getElem?_getD]
    rcases Nat.lt_or_ge k m with hlt | hge
    · rw [List.getElem?_append_left (by omega), ← List.getD_eq_getElem?_getD]
      exact outK_get l o n m k hlt
    · obtain rfl : k = m := by omega
      rw [List.getElem?_append_right (by omega), hl, Nat.sub_self]
      rfl
/-- All is well with the entries. -/
structure OG (l : List PE) (wide : Bool) : Prop where
  fin : OrdFin l wide
  hpos : 0 < l.length
  hroot : RootP (l.getD 0 peD)
  hgood : ∀ i, 1 ≤ i → i < l.length → NamedP (l.getD i peD) ∧ 1 ≤ (l.getD i peD).par ∧ (l.getD i peD).par ≤ l.length
theorem OG.ords {l : List PE} {wide : Bool} (h : OG l wide) : OrdS l l.length (ordO l wide) :=
  ordF_ok l wide h.hpos l.length (by have := h.fin.full; unfold ordO at this; omega)
theorem OG.ordb {l : List PE} {wide : Bool} (h : OG l wide) : OrdB l wide l.length (ordO l wide) false := by
  have := ordB_ok l wide h.hpos l.length (by have := h.fin.full; unfold ordO at this; omega)
  rw [h.fin.dup] at this
  exact this
theorem OG.lt {l : List PE} {wide : Bool} (h : OG l wide) {k : Nat} (hk : k < l.length) : (ordO l wide).getD k 0 < l.length :=
  h.ords.lt _ (getD_mem (by rw [h.fin.full]; exact hk))
theorem OG.ne0 {l : List PE} {wide : Bool} (h : OG l wide) {k : Nat} (h1 : 1 ≤ k) (hk : k < l.length) : (ordO l wide).getD k 0 ≠ 0 := fun e => by
  have := getD_inj h.ords.nd (i := k) (j := 0) (by rw [h.fin.full]; exact hk) (by rw [h.fin.full]; omega) (by rw [e, h.ordb.at0])
  omega
theorem OG.num {l : List PE} {wide : Bool} (h : OG l wide) {k j : Nat} (hk : k ≤ l.length) (hj : j < k) : (numK (ordO l wide) l.length k).getD ((ordO l wide).getD j 0) 0 = j + 1 :=
  numK_get _ _ h.ords.nd h.ords.lt k j (by rw [h.fin.full]; exact hk) hj
/-- The one above. -/
theorem OG.par {l : List PE} {wide : Bool} (h : OG l wide) {k : Nat} (h1 : 1 ≤ k) (hk : k < l.length) : ∃ j, j < k ∧ (l.getD ((ordO l wide).getD k 0) peD).par = (((ordO l wide).getD j 0 + 1 : Nat) : Int) ∧ (entK l (ordO l wide) l.length k).par = ((j + 1 : Nat) : Int) := by
  obtain ⟨j, -, a2, a3⟩ := h.ordb.pos k h1 (by rw [h.fin.full]; exact hk)
  refine ⟨j, a2, a3, ?_⟩
  show (((numK (ordO l wide) l.length (k + 1)).getD ((l.getD ((ordO l wide).getD k 0) peD).par.toNat - 1) 0 : Nat) : Int) = _
  rw [a3, Int.toNat_natCast, Nat.add_sub_cancel, h.num (by omega) (by omega)]
theorem OG.ent0 {l : List PE} {wide : Bool} (h : OG l wide) : (entK l (ordO l wide) l.length 0).par = 1 ∧ (entK l (ordO l wide) l.length 0).id = (l.getD 0 peD).id ∧ (entK l (ordO l wide) l.length 0).lba = (l.getD 0 peD).lba := by
  have e := h.num (k := 1) (j := 0) (by have := h.hpos; omega) (by omega)
  rw [h.ordb.at0] at e
  refine ⟨?_, ?_, ?_⟩
  · show (((numK (ordO l wide) l.length (0 + 1)).getD ((l.getD ((ordO l wide).getD 0 0) peD).par.toNat - 1) 0 : Nat) : Int) = _
    rw [h.ordb.at0, h.hroot.2]
    show (((numK (ordO l wide) l.length 1).getD 0 0 : Nat) : Int) = _
    rw [e]
    rfl
  · show (l.getD ((ordO l wide).getD 0 0) peD).id = _
    rw [h.ordb.at0]
  · show (l.getD ((ordO l wide).getD 0 0) peD).lba = _
    rw [h.ordb.at0]
def outO (l : List PE) (wide : Bool) : List PE := outK l (ordO l wide) l.length l.length
theorem outO_len (l : List PE) (wide : Bool) : (outO l wide).length = l.length := outK_len _ _ _ _
theorem outO_get (l : List PE) (wide : Bool) {k : Nat} (hk : k < l.length) : (outO l wide).getD k peD = entK l (ordO l wide) l.length k := outK_get _ _ _ _ _ hk
theorem OG.vt {l : List PE} {wide : Bool} (h : OG l wide) (hl : l.length ≤ 1024) : VTb wide (outO l wide) := by
  have hb := h.ordb
  have hf := h.fin.full
  have hp := h.hpos
  refine ⟨by rw [outO_len]; omega, by rw [outO_len]; exact hl, fun i h1 hi => ?_, fun i h1 hi => ?_, fun i h1 hi => ?_, fun i h1 hi he => ?_, fun i h1 hi => ?_, fun i hi => ?_, ?_⟩
  · rw [outO_len] at hi
    obtain ⟨j, a1, a2, a3⟩ := h.par h1 hi
    rw [outO_get _ _ hi, a3]
    omega
  · rw [outO_len] at hi
    obtain ⟨j, a1, a2, a3⟩ := h.par h1 hi
    rw [outO_get _ _ hi, a3]
    omega
  · rw [outO_len] at hi
    obtain ⟨j, a1, a2, a3⟩ := h.par h1 hi
    rw [outO_get _ _ hi, outO_get _ _ (by omega), a3]
    rcases Nat.lt_or_ge 1 i with h2 | h2
    · obtain ⟨j', b1, b2, b3⟩ := h.par (k := i - 1) (by omega) (by omega)
      rw [b3]
      have := hb.mono (i - 1) j' j (by omega) (by omega) (by omega) (by omega) b2 (by rw [show i - 1 + 1 = i by omega]; exact a2)
      omega
    · obtain rfl : i = 1 := by omega
      rw [Nat.sub_self, h.ent0.1]
      omega
  · rw [outO_len] at hi
    obtain ⟨j, a1, a2, a3⟩ := h.par (by omega) hi
    obtain ⟨j', b1, b2, b3⟩ := h.par (k := i - 1) (by omega) (by omega)
    rw [outO_get _ _ hi, outO_get _ _ (by omega)] at he ⊢
    rw [a3, b3] at he
    obtain rfl : j = j' := by omega
    have := hb.sib (i - 1) (by omega) (by omega) (by rw [show i - 1 + 1 = i by omega, a2, b2]) rfl
    rw [show i - 1 + 1 = i by omega] at this
    exact this
  · rw [outO_len] at hi
    rw [outO_get _ _ hi]
    exact (h.hgood _ (by have := h.ne0 h1 hi; omega) (h.lt hi)).1
  · rw [outO_len] at hi
    rw [outO_get _ _ hi]
    show BlockP (l.getD ((ordO l wide).getD i 0) peD).lba
    have hlt := h.lt hi
    have hk := h.fin.blk
    rw [List.any_eq_false] at hk
    have := hk (l.getD ((ordO l wide).getD i 0) peD) (by rw [List.getD_eq_getElem?_getD, List.getElem?_eq_getElem hlt, Option.getD_some]; exact List.getElem_mem hlt)
    simpa using this
  · rw [outO_get _ _ hp]
    have e := h.ent0
    have r := h.hroot
    unfold RootP
    rw [e.2.1, e.1]
    exact ⟨r.1, rfl⟩
/-- Where an entry has gone. -/
theorem OG.at_ {l : List PE} {wide : Bool} (h : OG l wide) {i : Nat} (hi : i < l.length) : ∃ p, p < l.length ∧ (ordO l wide).getD p 0 = i ∧ (numK (ordO l wide) l.length l.length).getD i 0 = p + 1 := by
  obtain ⟨p, hp, e⟩ := List.getElem_of_mem (nodup_full _ _ h.ords.nd h.ords.lt h.fin.full i hi)
  have hpl : p < l.length := by rw [← h.fin.full]; exact hp
  have e2 : (ordO l wide).getD p 0 = i := by rw [List.getD_eq_getElem?_getD, List.getElem?_eq_getElem hp, Option.getD_some, e]
  refine ⟨p, hpl, e2, ?_⟩
  have := h.num (Nat.le_refl _) hpl
  rw [e2] at this
  exact this
/-- What it is there. -/
theorem OG.moved {l : List PE} {wide : Bool} (h : OG l wide) {i p : Nat} (hi : i < l.length) (hp : p < l.length) (he : (ordO l wide).getD p 0 = i) :
    1 ≤ (l.getD i peD).par ∧ (l.getD i peD).par ≤ l.length ∧ (outO l wide).getD p peD = ⟨(l.getD i peD).id, (l.getD i peD).lba, (((numK (ordO l wide) l.length l.length).getD ((l.getD i peD).par.toNat - 1) 0 : Nat) : Int)⟩ := by
  rw [outO_get _ _ hp]
  rcases Nat.eq_zero_or_pos p with h0 | h0
  · subst h0
    rw [h.ordb.at0] at he
    subst he
    have r := h.hroot.2
    have e0 := h.ent0
    have e1 := h.num (k := l.length) (j := 0) (Nat.le_refl _) h.hpos
    rw [h.ordb.at0] at e1
    refine ⟨by omega, by have := h.hpos; omega, ?_⟩
    rw [r]
    show _ = PE.mk _ _ (((numK (ordO l wide) l.length l.length).getD 0 0 : Nat) : Int)
    rw [e1]
    cases hx : entK l (ordO l wide) l.length 0
    rw [hx] at e0
    obtain ⟨a1, a2, a3⟩ := e0
    simp only at a1 a2 a3
    rw [a1, a2, a3]
    rfl
  · obtain ⟨j, a1, a2, a3⟩ := h.par h0 hp
    have hjl := h.lt (k := j) (by omega)
    rw [he] at a2
    refine ⟨by omega, by omega, ?_⟩
    rw [a2, Int.toNat_natCast, Nat.add_sub_cancel, h.num (Nat.le_refl _) (by omega)]
    cases hx : entK l (ordO l wide) l.length p
    rw [hx] at a3
    simp only at a3
    have b1 : (entK l (ordO l wide) l.length p).id = (l.getD i peD).id := by show (l.getD ((ordO l wide).getD p 0) peD).id = _; rw [he]
    have b2 : (entK l (ordO l wide) l.length p).lba = (l.getD i peD).lba := by show (l.getD ((ordO l wide).getD p 0) peD).lba = _; rw [he]
    rw [hx] at b1 b2
    simp only at b1 b2
    rw [a3, b1, b2]
/-- All is well with a valid table. -/
theorem VTb.og {wide : Bool} {l : List PE} (h : VTb wide l) : OG l wide :=
  ⟨h.fin, Nat.pos_of_ne_zero h.ne, h.root, fun i h1 h2 => ⟨h.nam i h1 h2, h.lo i h1 h2, by have := h.hi i h1 h2; omega⟩⟩
theorem VTb.numI {wide : Bool} {l : List PE} (h : VTb wide l) {j : Nat} (hj : j < l.length) : (numK (ordO l wide) l.length l.length).getD j 0 = j + 1 := by
  have e := h.og.num (Nat.le_refl _) hj
  unfold ordO at e ⊢
  rw [h.ordF_is] at e ⊢
  simpa [List.getD_eq_getElem?_getD, hj] using e
theorem VTb.out {wide : Bool} {l : List PE} (h : VTb wide l) : outO l wide = l := by
  have hg := h.og
  refine List.ext_getElem (outO_len _ _) fun i h1 h2 => ?_
  have e := hg.moved (i := i) (p := i) h2 h2 (by unfold ordO; rw [h.ordF_is]; simp [List.getD_eq_getElem?_getD, h2])
  obtain ⟨e1, e2, e3⟩ := e
  obtain ⟨j, hj⟩ : ∃ j : Nat, (l.getD i peD).par = ((j + 1 : Nat) : Int) := ⟨(l.getD i peD).par.toNat - 1, by omega⟩
  rw [hj, Int.toNat_natCast, Nat.add_sub_cancel, h.numI (by omega), ← hj] at e3
  rw [List.getD_eq_getElem?_getD, List.getD_eq_getElem?_getD, List.getElem?_eq_getElem h1, List.getElem?_eq_getElem h2, Option.getD_some, Option.getD_some] at e3
  exact e3
end Go.Proofs.Ytnmlephjhcmbhaa
