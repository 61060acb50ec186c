/- pathtable.Order: plain. -/
import Derived.Test.YtnmlephjhcmbhaaNb
import Derived.Test.YtnmlephjhcmbhaaPpb
import Derived.Test.YtnmlephjhcmbhaaDka
namespace Go.Proofs.Ytnmlephjhcmbhaa
set_option linter.unusedSimpArgs false
set_option linter.unusedVariables false
open Go Go.RowKit
/-- The comparison of indices. -/
def cfP (l : List PE) (wide : Bool) (x y : Nat) : Int := cmpM (l.getD x peD).id.data.toList (l.getD y peD).id.data.toList wide
theorem cfP_ok (l : List PE) (wide : Bool) : OrdI (cfP l wide) := ⟨fun x y => cmpM_swap _ _ _, fun x y z h1 h2 => cmpM_trans _ _ _ _ h1 h2⟩
/-- A sort that stays. -/
def insI (cf : Nat → Nat → Int) (x : Nat) : List Nat → List Nat
  | [] => [x]
  | y :: l => if cf x y < 0 ∨ (cf x y = 0 ∧ x < y) then x :: y :: l else y :: insI cf x l
def srtI (cf : Nat → Nat → Int) (l : List Nat) : List Nat := l.foldr (insI cf) []
theorem insI_perm (cf : Nat → Nat → Int) (x : Nat) : ∀ l, (insI cf x l).Perm (x :: l)
  | [] => List.Perm.refl _
  | y :: l => by
    rw [insI]
    split
    · exact List.Perm.refl _
    · exact ((insI_perm cf x l).cons y).trans (List.Perm.swap x y l)
theorem srtI_perm (cf : Nat → Nat → Int) : ∀ l, (srtI cf l).Perm l
  | [] => List.Perm.refl _
  | x :: l => (insI_perm cf x _).trans ((srtI_perm cf l).cons x)
theorem ltI_total {cf : Nat → Nat → Int} (h : OrdI cf) {x y : Nat} (hne : x ≠ y) (hn : ¬ ltI cf x y) : ltI cf y x := by
  have s := h.swap x y
  unfold ltI at *
  by_cases h1 : cf y x < 0
  · exact .inl h1
  · right
    have h2 : ¬ cf x y < 0 := fun k => hn (.inl k)
    have h3 : cf x y = 0 := by omega
    refine ⟨by omega, ?_⟩
    have h4 : ¬ x < y := fun k => hn (.inr ⟨h3, k⟩)
    omega
theorem insI_sorted {cf : Nat → Nat → Int} (h : OrdI cf) (x : Nat) : ∀ l, l.Pairwise (ltI cf) → x ∉ l → (insI cf x l).Pairwise (ltI cf)
  | [], _, _ => by simp [insI]
  | y :: l, hs, hx => by
    rw [insI]
    rw [List.pairwise_cons] at hs
    split
    · rename_i hlt
      refine List.pairwise_cons.2 ⟨fun z hz => ?_, List.pairwise_cons.2 hs⟩
      rcases List.mem_cons.1 hz with rfl | hz
      · exact hlt
      · exact ltI_trans h _ _ _ hlt (hs.1 z hz)
    · rename_i hlt
      refine List.pairwise_cons.2 ⟨fun z hz => ?_, insI_sorted h x l hs.2 fun k => hx (List.mem_cons_of_mem _ k)⟩
      rcases List.mem_cons.1 ((insI_perm cf x l).subset hz) with rfl | hz
      · exact ltI_total h (fun e => hx (by rw [e]; exact List.mem_cons_self ..)) hlt
      · exact hs.1 z hz
theorem srtI_sorted {cf : Nat → Nat → Int} (h : OrdI cf) : ∀ l, l.Nodup → (srtI cf l).Pairwise (ltI cf)
  | [], _ => List.Pairwise.nil
  | x :: l, hn => by
    rw [List.nodup_cons] at hn
    exact insI_sorted h x _ (srtI_sorted h l hn.2) fun k => hn.1 ((srtI_perm cf l).subset k)
/-- Only one row has the elements in their order. -/
theorem sorted_unique {cf : Nat → Nat → Int} (h : OrdI cf) : ∀ (a b : List Nat), a.Perm b → a.Pairwise (ltI cf) → b.Pairwise (ltI cf) → a = b
  | [], b, hp, _, _ => (List.Perm.nil_eq hp)
  | x :: a, [], hp, _, _ => by have := hp.length_eq; simp at this
  | x :: a, y :: b, hp, ha, hb => by
    rw [List.pairwise_cons] at ha hb
    have hxy : x = y := by
      have h1 : x ∈ y :: b := hp.subset (List.mem_cons_self ..)
      have h2 : y ∈ x :: a := hp.symm.subset (List.mem_cons_self ..)
      rcases List.mem_cons.1 h1 with e | h1
      · exact e
      · rcases List.mem_cons.1 h2 with e | h2
        · exact e.symm
        · exact (ltI_asymm h (ha.1 y h2) (hb.1 x h1)).elim
    subst hxy
    rw [sorted_unique h a b (List.Perm.cons_inv hp) ha.2 hb.2]
theorem sort_is {cf : Nat → Nat → Int} (h : OrdI cf) {m l : List Nat} (hl : l.Nodup) (hp : m.Perm l) (hs : m.Pairwise (ltI cf)) : m = srtI cf l :=
  sorted_unique h _ _ (hp.trans (srtI_perm cf l).symm) hs (srtI_sorted h l hl)
/-- The indices below a number, among the first n. -/
def kidsM (l : List PE) (n j : Nat) : List Nat := (List.range' 1 (n - 1)).filter fun i => (l.getD i peD).par == (j : Int)
theorem kids_snoc (l : List PE) (n j : Nat) (h : 1 ≤ n) : kidsM l (n + 1) j = kidsM l n j ++ if (l.getD n peD).par == (j : Int) then [n] else [] := by
  unfold kidsM
  rw [show n + 1 - 1 = n - 1 + 1 by omega, List.range'_1_concat, List.filter_append, show 1 + (n - 1) = n by omega]
  congr 1
  simp only [List.filter_cons, List.filter_nil]
theorem kids_inc (l : List PE) (n j : Nat) : (kidsM l n j).Pairwise (· < ·) := (List.pairwise_lt_range' (s := 1) (n := n - 1)).sublist List.filter_sublist
theorem kids_mem {l : List PE} {n j i : Nat} (h : i ∈ kidsM l n j) : 1 ≤ i ∧ i < n ∧ (l.getD i peD).par = j := by
  unfold kidsM at h
  rw [List.mem_filter, List.mem_range'_1] at h
  exact ⟨h.1.1, by omega, by simpa using h.2⟩
theorem kids_len (l : List PE) (n j : Nat) : (kidsM l n j).length ≤ n - 1 := by
  have := List.length_filter_le (fun i => (l.getD i peD).par == (j : Int)) (List.range' 1 (n - 1))
  rw [List.length_range'] at this
  exact this
theorem inc_nodup {l : List Nat} (h : l.Pairwise (· < ·)) : l.Nodup := h.imp fun h => by omega
/-- Two neighbours of one place. -/
def dupB (cf : Nat → Nat → Int) : List Nat → Bool
  | x :: y :: l => cf x y == 0 || dupB cf (y :: l)
  | _ => false
/-- Round by round: the order so far, and whether there were two of one place. -/
def ordF (l : List PE) (wide : Bool) : Nat → List Nat × Bool
  | 0 => ([0], false)
  | k + 1 =>
    let o := ordF l wide k
    if k < o.1.length then
      let g := srtI (cfP l wide) (kidsM l l.length (o.1.getD k 0 + 1))
      (o.1 ++ g, o.2 || dupB (cfP l wide) g)
    else o
/-- All is different, and each but the first stands below one in front. -/
structure OrdS (l : List PE) (k : Nat) (o : List Nat) : Prop where
  nd : o.Nodup
  lt : ∀ i ∈ o, i < l.length
  up : ∀ i ∈ o, i ≠ 0 → ∃ j, j < k ∧ j < o.length ∧ (l.getD i peD).par = ((o.getD j 0 + 1 : Nat) : Int)
theorem ordS_start (l : List PE) (h : 0 < l.length) : OrdS l 0 [0] := ⟨by simp, by simpa using h, by intro i hi h0; simp at hi; omega⟩
theorem getD_app {o g : List Nat} {j : Nat} (h : j < o.length) : (o ++ g).getD j 0 = o.getD j 0 := by
  rw [List.getD_eq_getElem?_getD, List.getD_eq_getElem?_getD, List.getElem?_append_left h]
theorem ordS_step {l : List PE} {k : Nat} {o g : List Nat} (h : OrdS l k o) (hk : k < o.length) (hg : ∀ i, i ∈ g ↔ i ∈ kidsM l l.length (o.getD k 0 + 1)) (hgn : g.Nodup) : OrdS l (k + 1) (o ++ g) := by
  refine ⟨?_, ?_, ?_⟩
  · rw [List.nodup_append]
    refine ⟨h.nd, hgn, fun x hx y hy e => ?_⟩
    subst e
    obtain ⟨h1, h2, h3⟩ := kids_mem ((hg x).1 hy)
    obtain ⟨j, hj, hjl, hp⟩ := h.up x hx (by omega)
    rw [h3] at hp
    have e : o.getD j 0 = o.getD k 0 := by omega
    rw [List.getD_eq_getElem?_getD, List.getD_eq_getElem?_getD, List.getElem?_eq_getElem hjl, List.getElem?_eq_getElem hk, Option.getD_some, Option.getD_some] at e
    have hlt : j < k := by omega
    have h9 : ∀ i j (hi : i < o.length) (hj : j < o.length), i < j → o[i] ≠ o[j] := fun i j hi hj hij => List.pairwise_iff_getElem.1 h.nd i j hi hj hij
    exact h9 j k hjl hk hlt e
  · intro i hi
    rcases List.mem_append.1 hi with hi | hi
    · exact h.lt i hi
    · exact (kids_mem ((hg i).1 hi)).2.1
  · intro i hi h0
    rcases List.mem_append.1 hi with hi | hi
    · obtain ⟨j, hj, hjl, hp⟩ := h.up i hi h0
      exact ⟨j, by omega, by rw [List.length_append]; omega, by rw [getD_app hjl]; exact hp⟩
    · exact ⟨k, by omega, by rw [List.length_append]; omega, by rw [getD_app hk]; exact (kids_mem ((hg i).1 hi)).2.2⟩
theorem ordF_ok (l : List PE) (wide : Bool) (h0 : 0 < l.length) : ∀ k, k ≤ (ordF l wide k).1.length → OrdS l k (ordF l wide k).1
  | 0, _ => ordS_start l h0
  | k + 1, h => by
    rw [ordF] at h ⊢
    by_cases hk : k < (ordF l wide k).1.length
    · simp only [hk, if_true] at h ⊢
      refine ordS_step (ordF_ok l wide h0 k (by omega)) hk (fun i => (srtI_perm _ _).mem_iff) ?_
      exact (srtI_perm _ _).nodup_iff.2 (inc_nodup (kids_inc _ _ _))
    · simp only [hk, if_false] at h ⊢
      omega
theorem nodup_le : ∀ (n : Nat) (o : List Nat), o.Nodup → (∀ i ∈ o, i < n) → o.length ≤ n
  | 0, o, _, h => by
    cases o with
    | nil => simp
    | cons x o => have := h x (List.mem_cons_self ..); omega
  | n + 1, o, hn, h => by
    by_cases hm : n ∈ o
    · have h1 := nodup_le n (o.erase n) (hn.erase n) fun i hi => by
        have h2 := (List.Nodup.mem_erase_iff hn).1 hi
        have := h i h2.2
        have := h2.1
        omega
      rw [List.length_erase_of_mem hm] at h1
      omega
    · have := nodup_le n o hn fun i hi => by
        have h1 := h i hi
        have h2 : i ≠ n := fun e => hm (e ▸ hi)
        omega
      omega
theorem ordS_len {l : List PE} {k : Nat} {o : List Nat} (h : OrdS l k o) : o.length ≤ l.length := by
  exact nodup_le l.length o h.nd h.lt
end Go.Proofs.Ytnmlephjhcmbhaa
