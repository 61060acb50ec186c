/- PathtableFinds: for every input the law returns true and leaves its arguments as they were. No condition. -/
import Derived.Test.YtnmlephjhcmbhaaRows
import Derived.Test.YtnmlephjhcmbhaaCl15
import Derived.Test.YtnmlephjhcmbhaaPqa
import Derived.WalkKit
import Derived.ProofKit
import Derived.OpenShut
import Derived.ShutString
import Derived.ChangeOld
import Derived.Below
namespace Go.Proofs.Ytnmlephjhcmbhaa.pathtableFinds
set_option linter.unusedSimpArgs false
set_option linter.unusedVariables false
open Go Go.ChangeShapes Go.WideShapes Go.ChangeAt Go.RowKit
theorem up_fuel (l : List PE) : ∀ (n f g : Nat), n ≤ f → n ≤ g → upL l f n = upL l g n := by
  intro n
  induction n using Nat.strongRecOn with
  | _ n ih =>
    intro f g hf hg
    by_cases h1 : n ≤ 1
    · rw [upL_one l f n h1, upL_one l g n h1]
    · obtain ⟨f, rfl⟩ : ∃ f', f = f' + 1 := ⟨f - 1, by omega⟩
      obtain ⟨g, rfl⟩ : ∃ g', g = g' + 1 := ⟨g - 1, by omega⟩
      rw [upL, upL, if_neg h1, if_neg h1]
      by_cases hb : (l.getD (n - 1) peD).par < 1 ∨ (n : Int) ≤ (l.getD (n - 1) peD).par
      · rw [if_pos hb, if_pos hb]
      · rw [if_neg hb, if_neg hb, ih (l.getD (n - 1) peD).par.toNat (by omega) f g (by omega) (by omega)]
/-- What a valid table says of its parents. -/
structure VP (wide : Bool) (l : List PE) : Prop where
  ne : l.length ≠ 0
  le : l.length ≤ 1024
  lo : ∀ i, 1 ≤ i → i < l.length → 1 ≤ (l.getD i peD).par
  hi : ∀ i, 1 ≤ i → i < l.length → (l.getD i peD).par ≤ i
  mono : ∀ i, 1 ≤ i → i < l.length → (l.getD (i - 1) peD).par ≤ (l.getD i peD).par
  ord : ∀ i, 1 < i → i < l.length → (l.getD i peD).par = (l.getD (i - 1) peD).par → cmpM (l.getD (i - 1) peD).id.data.toList (l.getD i peD).id.data.toList wide < 0
  root : RootP (l.getD 0 peD)
theorem vp_of {wide : Bool} {l : List PE} (h : pvB wide l = true) : VP wide l := by
  unfold pvB at h
  rw [Bool.and_eq_true, decide_eq_true_eq, List.all_eq_true] at h
  have h2 : ∀ i, 1 ≤ i → i < l.length → VAt wide i (l.getD (i - 1) peD) (l.getD i peD) := fun i _ hi => by
    have := h.2 i (List.mem_range.2 hi)
    simpa [vatB] using this
  refine ⟨h.1.1, h.1.2.1, fun i h1 hi => ?_, fun i h1 hi => ?_, fun i h1 hi => ?_, fun i h1 hi he => ?_, h.1.2.2⟩
  · rcases (h2 i h1 hi).2 with k | k
    · omega
    · exact k.2.1
  · rcases (h2 i h1 hi).2 with k | k
    · omega
    · exact k.2.2.2.1
  · rcases (h2 i h1 hi).2 with k | k
    · omega
    · exact k.2.2.1
  · rcases (h2 i (by omega) hi).2 with k | k
    · omega
    · have := k.2.2.2.2
      rcases Int.lt_or_le (cmpM (l.getD (i - 1) peD).id.data.toList (l.getD i peD).id.data.toList wide) 0 with hc | hc
      · exact hc
      · exact absurd ⟨h1, he, hc⟩ this
/-- The path of an entry. -/
def pthU (l : List PE) (n : Nat) : List ByteArray := ((upL l n n).getD []).reverse
theorem up_some {wide : Bool} {l : List PE} (h : VP wide l) : ∀ n, n ≤ l.length → ∃ U, upL l n n = some U := by
  intro n
  induction n using Nat.strongRecOn with
  | _ n ih =>
    intro hn
    by_cases h1 : n ≤ 1
    · exact ⟨[], upL_one l n n h1⟩
    · obtain ⟨f, rfl⟩ : ∃ f', n = f' + 1 := ⟨n - 1, by omega⟩
      have a1 := h.lo f (by omega) (by omega)
      have a2 := h.hi f (by omega) (by omega)
      obtain ⟨U, hU⟩ := ih (l.getD f peD).par.toNat (by omega) (by omega)
      rw [upL, if_neg h1, Nat.add_sub_cancel, if_neg (by omega), up_fuel l _ f (l.getD f peD).par.toNat (by omega) (Nat.le_refl _), hU]
      exact ⟨_, rfl⟩
theorem pth_step {wide : Bool} {l : List PE} (h : VP wide l) (f : Nat) (h1 : 1 ≤ f) (hf : f < l.length) : pthU l (f + 1) = pthU l (l.getD f peD).par.toNat ++ [(l.getD f peD).id] := by
  have a1 := h.lo f h1 hf
  have a2 := h.hi f h1 hf
  obtain ⟨U, hU⟩ := up_some h (l.getD f peD).par.toNat (by omega)
  unfold pthU
  rw [upL, if_neg (by omega), Nat.add_sub_cancel, if_neg (by omega), up_fuel l _ f (l.getD f peD).par.toNat (by omega) (Nat.le_refl _), hU]
  simp
theorem pth_one (l : List PE) : pthU l 1 = [] := rfl
theorem path_pth {wide : Bool} {l : List PE} (h : VP wide l) (n : Nat) (h1 : 1 ≤ n) (hn : n ≤ l.length) : pathR l (n : Int) = (pthU l n, 0) := by
  obtain ⟨U, hU⟩ := up_some h n hn
  rw [pathR, if_neg (by omega), Int.toNat_natCast, pthU, hU]
  rfl
theorem pth_len {wide : Bool} {l : List PE} (h : VP wide l) : ∀ n, n ≤ l.length → (pthU l n).length ≤ n := by
  intro n
  induction n using Nat.strongRecOn with
  | _ n ih =>
    intro hn
    by_cases h1 : n ≤ 1
    · unfold pthU
      rw [upL_one l n n h1]
      simp
    · obtain ⟨f, rfl⟩ : ∃ f', n = f' + 1 := ⟨n - 1, by omega⟩
      have a1 := h.lo f (by omega) (by omega)
      have a2 := h.hi f (by omega) (by omega)
      have := ih (l.getD f peD).par.toNat (by omega) (by omega)
      rw [pth_step h f (by omega) (by omega), List.length_append, List.length_singleton]
      omega
theorem find_app (l : List PE) (id : ByteArray) : ∀ (p : List ByteArray) (n m : Nat), findM l p n = ((m : Int), 0) → findM l (p ++ [id]) n = findM l [id] m := by
  intro p
  induction p with
  | nil =>
    intro n m h
    rw [findM] at h
    simp only [Prod.mk.injEq, and_true] at h
    obtain rfl : n = m := by omega
    rfl
  | cons x p ih =>
    intro n m h
    rw [List.cons_append, findM]
    rw [findM] at h
    by_cases hn : nextF l n x < 0
    · rw [if_pos hn] at h
      simp at h
    · rw [if_neg hn] at h ⊢
      exact ih _ _ h
theorem mono_le {wide : Bool} {l : List PE} (h : VP wide l) : ∀ k j, 1 ≤ j → j ≤ k → k < l.length → (l.getD j peD).par ≤ (l.getD k peD).par := by
  intro k
  induction k with
  | zero => intro j h1 h2; omega
  | succ k ih =>
    intro j h1 h2 h3
    rcases Nat.lt_or_ge k j with hlt | hge
    · obtain rfl : j = k + 1 := by omega
      exact Int.le_refl _
    · have a := ih j h1 hge (by omega)
      have b := h.mono (k + 1) (by omega) h3
      rw [Nat.add_sub_cancel] at b
      omega
theorem sib_lt {wide : Bool} {l : List PE} (h : VP wide l) : ∀ k j, 1 ≤ j → j < k → k < l.length → (l.getD j peD).par = (l.getD k peD).par → cmpM (l.getD j peD).id.data.toList (l.getD k peD).id.data.toList wide < 0 := by
  intro k
  induction k with
  | zero => intro j h1 h2; omega
  | succ k ih =>
    intro j h1 h2 h3 he
    have b1 := h.mono (k + 1) (by omega) h3
    have b2 := mono_le h k j h1 (by omega) (by omega)
    rw [Nat.add_sub_cancel] at b1
    have o := h.ord (k + 1) (by omega) h3 (by rw [Nat.add_sub_cancel]; omega)
    rw [Nat.add_sub_cancel] at o
    rcases Nat.lt_or_ge j k with hlt | hge
    · exact cmpM_trans_lt _ _ _ _ (ih j h1 hlt (by omega) (by omega)) (by omega)
    · obtain rfl : j = k := by omega
      exact o
theorem next_is {wide : Bool} {l : List PE} (h : VP wide l) (k : Nat) (h1 : 1 ≤ k) (hk : k < l.length) : nextF l (l.getD k peD).par.toNat (l.getD k peD).id = ((k - (l.getD k peD).par.toNat : Nat) : Int) := by
  have a1 := h.lo k h1 hk
  have a2 := h.hi k h1 hk
  obtain ⟨n, hn⟩ : ∃ n : Nat, (l.getD k peD).par = (n : Int) := ⟨_, (Int.toNat_of_nonneg (by omega)).symm⟩
  rw [hn, Int.toNat_natCast]
  unfold nextF
  have hkn : k - n < (l.drop n).length := by rw [List.length_drop]; omega
  have hget : ∀ i, n + i < l.length → (l.drop n).getD i peD = l.getD (n + i) peD := fun i _ => by
    simp [List.getD_eq_getElem?_getD, List.getElem?_drop]
  have hno : ∀ i, i ≤ k - n → i ≤ (l.drop n).findIdx (fun x => x.par == (n : Int) && x.id.toList == (l.getD k peD).id.toList) := by
    intro i
    induction i with
    | zero => intro _; exact Nat.zero_le _
    | succ i ih =>
      intro hi
      refine fidx_no (x := l.getD (n + i) peD) (ih (by omega)) (by omega) (hget i (by omega)) ?_
      rw [Bool.and_eq_false_iff]
      by_cases hp : (l.getD (n + i) peD).par = (n : Int)
      · right
        have := sib_lt h k (n + i) (by omega) (by omega) hk (by rw [hp, hn])
        rw [beq_eq_false_iff_ne]
        intro e
        have e2 : (l.getD (n + i) peD).id = (l.getD k peD).id := by
          rw [Lib.toList_data, Lib.toList_data] at e
          cases h1 : (l.getD (n + i) peD).id
          cases h2 : (l.getD k peD).id
          rw [h1, h2] at e
          exact congrArg ByteArray.mk (Array.toList_inj.1 e)
        rw [e2, cmpM_self] at this
        omega
      · left
        exact beq_eq_false_iff_ne.2 hp
  refine fidx_yes (hno (k - n) (Nat.le_refl _)) hkn ((hget (k - n) (by omega)).trans (by rw [show n + (k - n) = k by omega])) ?_
  rw [hn]
  simp
theorem find_pth {wide : Bool} {l : List PE} (h : VP wide l) : ∀ n, 1 ≤ n → n ≤ l.length → findM l (pthU l n) 1 = ((n : Int), 0) := by
  intro n
  induction n using Nat.strongRecOn with
  | _ n ih =>
    intro h1 hn
    by_cases h2 : n = 1
    · subst h2
      rfl
    · obtain ⟨f, rfl⟩ : ∃ f', n = f' + 1 := ⟨n - 1, by omega⟩
      have a1 := h.lo f (by omega) (by omega)
      have a2 := h.hi f (by omega) (by omega)
      rw [pth_step h f (by omega) (by omega), find_app l _ _ 1 _ (ih (l.getD f peD).par.toNat (by omega) (by omega) (by omega)), findM, next_is h f (by omega) (by omega), if_neg (by omega), findM]
      congr 1
      omega
theorem find_back {wide : Bool} {l : List PE} (h : VP wide l) (k : Nat) (hk : k < l.length) : findR l (pthU l (k + 1)) = ((k : Int) + 1, 0) := by
  rw [findR, if_neg h.ne, find_pth h (k + 1) (by omega) (by omega)]
  congr 1
theorem pth_nil {wide : Bool} {l : List PE} (h : VP wide l) (k : Nat) (hk : k < l.length) : ((pthU l (k + 1)).length = 0) ↔ k = 0 := by
  constructor
  · intro e
    rcases Nat.eq_zero_or_pos k with h0 | h0
    · exact h0
    · rw [pth_step h k h0 hk, List.length_append] at e
      simp at e
  · intro e
    subst e
    rfl
/-- slices.Clone and Equal of rows of strings of the call's own. -/
theorem clone_own {B : Nat} {u : Value} {W : World} (l : List ByteArray) (h : W.ownsRow B 9 1 u l.length (strB l)) (hl : l.length ≤ 2000) :
    Calls Try.prog 44 #[u] W fun e w' => ∃ v, e = .returned v ∧ w'.ownsRow W.heap.size 9 1 v l.length (strB l) ∧ Below W.heap.size W w' := by
  obtain ⟨a, c, rfl, hr⟩ := RowB_own l h
  cases a with
  | none =>
    have h0 : l.length = 0 := by
      rcases Nat.eq_zero_or_pos l.length with h0 | h0
      · exact h0
      · obtain ⟨b, off, e, -⟩ := hr 0 h0
        cases e
    have hl0 : l = [] := List.eq_nil_of_length_eq_zero h0
    subst hl0
    refine (Try.slices_Clone_string_nil _ c W).mono ?_
    rintro e w' ⟨rfl, rfl⟩
    exact ⟨_, rfl, ⟨rfl, .inl ⟨rfl, rfl⟩⟩, Below.refl _ _⟩
  | some A =>
    rcases Nat.eq_zero_or_pos l.length with h0 | h0
    · have hl0 : l = [] := List.eq_nil_of_length_eq_zero h0
      subst hl0
      refine (Try.slices_Clone_string_zero A c W).mono ?_
      rintro e w' ⟨v, rfl, ho, -, hB⟩
      exact ⟨_, rfl, ho, hB⟩
    · obtain ⟨b, off, e, -, -⟩ := hr 0 h0
      simp only [Option.some.injEq] at e
      subst e
      refine (Try.slices_Clone_string b off l.length c l W (Nat.le_refl _) (by omega) (fun j hj => ?_)).mono ?_
      · obtain ⟨b2, o2, e2, -, hc⟩ := hr j hj
        simp only [Option.some.injEq, Addr.mk.injEq] at e2
        obtain ⟨rfl, rfl, -⟩ := e2
        exact hc
      · rintro e w' ⟨v, rfl, ho, -, hB⟩
        rw [List.take_length] at ho
        exact ⟨_, rfl, ho, hB⟩
theorem eqstr_own {B B' : Nat} {u v : Value} {W : World} (l m : List ByteArray) (h : W.ownsRow B 9 1 u l.length (strB l)) (h' : W.ownsRow B' 9 1 v m.length (strB m)) (hl : l.length ≤ 2000) (hm : m.length ≤ 2000) :
    Calls Try.prog 40 #[u, v] W fun e w' => e = .returned (.bool (decide (l = m))) ∧ Below W.heap.size W w' := by
  obtain ⟨a, c, rfl, hr⟩ := RowB_own l h
  obtain ⟨a', c', rfl, hr'⟩ := RowB_own m h'
  rcases Nat.eq_zero_or_pos l.length with h0 | h0
  · have hl0 : l = [] := List.eq_nil_of_length_eq_zero h0
    subst hl0
    refine (Try.slices_Equal_string_empty a a' c m.length c' W (by omega)).mono ?_
    rintro e w' ⟨rfl, rfl⟩
    refine ⟨?_, Below.refl _ _⟩
    congr 2
    cases m <;> simp
  · rcases Nat.eq_zero_or_pos m.length with h1 | h1
    · have hm0 : m = [] := List.eq_nil_of_length_eq_zero h1
      subst hm0
      refine (Try.slices_Equal_string_lens a a' l.length c 0 c' W (by omega)).mono ?_
      rintro e w' ⟨rfl, rfl⟩
      refine ⟨?_, Below.refl _ _⟩
      congr 2
      symm
      rw [decide_eq_false_iff_not]
      intro e
      rw [e] at h0
      simp at h0
    · obtain ⟨b, off, e, -, -⟩ := hr 0 h0
      obtain ⟨b', off', e', -, -⟩ := hr' 0 h1
      subst e
      subst e'
      refine (Try.slices_Equal_string b off l.length c b' off' m.length c' l m W (Nat.le_refl _) (Nat.le_refl _) (by omega) (by omega) (fun j hj => ?_) (fun j hj => ?_)).mono ?_
      · obtain ⟨b2, o2, e2, -, hc⟩ := hr j hj
        simp only [Option.some.injEq, Addr.mk.injEq] at e2
        obtain ⟨rfl, rfl, -⟩ := e2
        exact hc
      · obtain ⟨b2, o2, e2, -, hc⟩ := hr' j hj
        simp only [Option.some.injEq, Addr.mk.injEq] at e2
        obtain ⟨rfl, rfl, -⟩ := e2
        exact hc
      · rintro e w' ⟨rfl, q, rfl⟩
        rw [List.take_length, List.take_length]
        exact ⟨rfl, below_drewN (Below.refl _ _) q⟩
section
variable {P : Program} {md : Region.Mode} {ops : Array Oper} {S : World → Prop} {fl nS : Nat → Bool} {Q : Exit → Act → World → Prop}
def wpPre (P : Program) (ops : Array Oper) (S : World → Prop) (fl nS : Nat → Bool) (Q : Exit → Act → World → Prop) (K : Act → World → Prop) : List Nat → Act → World → Prop
  | [], a, w => K a w
  | i :: rest, a, w => stepX P ops S fl nS Q i (wpPre P ops S fl nS Q K rest) a w
def preB (md : Region.Mode) (ops : Array Oper) (fl : Nat → Bool) : List Nat → Array Bool → Bool
  | [], _ => true
  | i :: rest, listed => (if fl i = true then (Region.ready md ops listed).contains i && Region.free md ops listed i else decide (Region.ready md ops listed = [i])) && preB md ops fl rest (listed.setIfInBounds i true)
def listedBy : List Nat → Array Bool → Array Bool
  | [], l => l
  | i :: r, l => listedBy r (l.setIfInBounds i true)
theorem wpX_pre (hsel : Region.noSelect ops = true) (hQ : ∀ c a d v w, Q (.panic c) (a.put d v) w → Q (.panic c) a w) (n : Nat) :
    ∀ (L : List Nat) (listed : Array Bool) (a : Act) (w : World), preB md ops fl L listed = true → wpPre P ops S fl nS Q (wpX P md ops S fl nS Q n (listedBy L listed)) L a w → wpX P md ops S fl nS Q (n + L.length) listed a w
  | [], listed, a, w, hB, h => h
  | i :: rest, listed, a, w, hB, h => by
    simp only [preB, Bool.and_eq_true] at hB
    obtain ⟨h1, h2⟩ := hB
    by_cases hf : fl i = true
    · rw [if_pos hf] at h1
      simp only [Bool.and_eq_true] at h1
      unfold wpPre stepX at h
      cases ho : ops[i]? with
      | none => simp only [ho] at h
      | some o =>
        simp only [ho] at h
        rw [if_pos hf] at h
        obtain ⟨v, hy, hk⟩ := h
        exact wpX_first ho hf (Region.noSelect_spec hsel) hQ (n + rest.length) listed a w (Region.free_spec ho h1.2) (by simpa using h1.1) hy (wpX_pre hsel hQ n rest _ _ _ h2 hk)
    · rw [if_neg hf] at h1
      have hr : Region.ready md ops listed = [i] := of_decide_eq_true h1
      refine ⟨fun h0 => (by rw [hr] at h0; cases h0), fun j hj => ?_⟩
      rw [hr] at hj
      obtain rfl : j = i := by simpa using hj
      exact stepX_mono (fun a' w' hk => wpX_pre hsel hQ n rest _ a' w' h2 hk) h
theorem pre_of_M {l : List Oper} {K K' : Act → World → Prop} (hK : ∀ a w, K a w → K' a w) :
    ∀ (M : List (Bool × Nat)) (a : Act) (w : World), (∀ x ∈ M, fl x.2 = x.1 ∧ x.2 < l.length) → wpM P l.toArray S Q K (pickM l M) a w → wpPre P l.toArray S fl nS Q K' (M.map (·.2)) a w
  | [], a, w, _, h => hK a w h
  | (b, i) :: M, a, w, hf, h => by
    obtain ⟨hfi, hlt⟩ := hf (b, i) (List.mem_cons_self ..)
    have hf' : ∀ x ∈ M, fl x.2 = x.1 ∧ x.2 < l.length := fun x hx => hf x (List.mem_cons_of_mem _ hx)
    have ho : l[i]? = some l[i] := List.getElem?_eq_getElem hlt
    have hp : pickM l ((b, i) :: M) = (b, l[i]) :: pickM l M := by simp [pickM, ho]
    rw [hp] at h
    have ho' : l.toArray[i]? = some l[i] := by simp [hlt]
    show wpPre P l.toArray S fl nS Q K' (i :: M.map (·.2)) a w
    unfold wpPre stepX
    simp only [ho']
    simp only at hfi
    cases b with
    | true =>
      obtain ⟨v, hy, hk⟩ := h
      rw [if_pos hfi]
      exact ⟨v, hy, pre_of_M hK M _ _ hf' hk⟩
    | false =>
      unfold wpM at h
      rw [if_neg (by rw [hfi]; simp)]
      by_cases hw : Region.wanted l[i] (yielded l.toArray a.tmps) = true
      · rw [if_pos hw] at h ⊢
        exact Oper.wp_mono (fun a' w' hk => ⟨fun _ => hk.1, pre_of_M hK M a' w' hf' hk.2⟩) h
      · rw [if_neg hw] at h ⊢
        exact pre_of_M hK M _ _ hf' h
/-- Every check: M0 the prefix; then MA or MB; then T. -/
def rgtB (l : List Oper) (M0 MA MB : List (Bool × Nat)) (iA iB : Nat) (T : List Nat) : Bool :=
  let F := flM (M0 ++ (false, iA) :: MA)
  let N := nsM (M0 ++ (false, iA) :: MA)
  let L0 := listedBy (M0.map (·.2)) (Array.replicate l.toArray.size false)
  Region.noSelect l.toArray && safeB .any l.toArray F N && preB .any l.toArray F (M0.map (·.2)) (Array.replicate l.toArray.size false) && decide (Region.ready .any l.toArray L0 = [iA, iB]) &&
  schedB .any l.toArray F (MA.map (·.2) ++ T) (L0.setIfInBounds iA true) && schedB .any l.toArray F (MB.map (·.2) ++ T) (L0.setIfInBounds iB true) &&
  decide (MA.length + T.length + 1 + M0.length = l.length) && decide (MB.length = MA.length) && (M0.all fun x => F x.2 == x.1 && decide (x.2 < l.length)) && (((false, iA) :: MA).all fun x => F x.2 == x.1 && decide (x.2 < l.length)) &&
  (((false, iB) :: MB).all fun x => F x.2 == x.1 && decide (x.2 < l.length)) && T.all fun i => !F i && !N i && decide (i < l.length)
theorem region_two {id : Nat} {l : List Oper} {a : Act} {w : World} (S : World → Prop) (M0 MA MB : List (Bool × Nat)) (iA iB : Nat) (T : List Nat) (hm : P.follows .mixedOrders = true) (hB : rgtB l M0 MA MB iA iB T = true)
    (hL : ¬ LetsOut Q) (hQ : ∀ c a d v w, Q (.panic c) (a.put d v) w → Q (.panic c) a w) (hS : S w.drew)
    (h : wpM P l.toArray S Q (fun a w => wpM P l.toArray S Q (wpList P l.toArray Q (pickT l T)) (pickM l ((false, iA) :: MA)) a w ∧ wpM P l.toArray S Q (wpList P l.toArray Q (pickT l T)) (pickM l ((false, iB) :: MB)) a w) (pickM l M0) a w.drew) :
    (Code.region id l.toArray true).wp P Q a w := by
  refine wp_region_any hm ?_
  unfold rgtB at hB
  simp only [Bool.and_eq_true, List.all_eq_true, decide_eq_true_eq, Bool.not_eq_true', beq_iff_eq] at hB
  obtain ⟨⟨⟨⟨⟨⟨⟨⟨⟨⟨⟨h1, h2⟩, h3⟩, h4⟩, h5⟩, h6⟩, h7⟩, h8⟩, h9⟩, h10⟩, h11⟩, h12⟩ := hB
  have tl := fun a w hk => sch_tail (P := P) (S := S) hL T a w (fun i hi => ⟨(h12 i hi).1.1, (h12 i hi).1.2, (h12 i hi).2⟩) hk
  have hpre := pre_of_M (S := S) (P := P) (Q := Q) (fl := flM (M0 ++ (false, iA) :: MA)) (nS := nsM (M0 ++ (false, iA) :: MA)) (K' := wpX P .any l.toArray S (flM (M0 ++ (false, iA) :: MA)) (nsM (M0 ++ (false, iA) :: MA)) Q (MA.length + T.length + 1) (listedBy (M0.map (·.2)) (Array.replicate l.toArray.size false))) (fun a w hk => by
    obtain ⟨hA, hBb⟩ := hk
    have sA := sch_of_M tl ((false, iA) :: MA) a w (fun x hx => h10 x hx) hA
    have sB := sch_of_M tl ((false, iB) :: MB) a w (fun x hx => h11 x hx) hBb
    refine ⟨fun h0 => (by rw [h4] at h0; cases h0), fun j hj => ?_⟩
    rw [h4] at hj
    simp only [List.mem_cons, List.not_mem_nil, or_false] at hj
    rcases hj with rfl | rfl
    · refine stepX_mono (fun a' w' hk => ?_) sA
      have := wpX_of_sch h1 hQ _ _ a' w' h5 hk
      rwa [show (MA.map (·.2) ++ T).length = MA.length + T.length by simp] at this
    · refine stepX_mono (fun a' w' hk => ?_) sB
      have := wpX_of_sch h1 hQ _ _ a' w' h6 hk
      rwa [show (MB.map (·.2) ++ T).length = MA.length + T.length by simp [h8]] at this) M0 a w.drew (fun x hx => h9 x hx) h
  have hx := wpX_pre h1 hQ _ (M0.map (·.2)) _ a w.drew h3 hpre
  rw [show MA.length + T.length + 1 + (M0.map (·.2)).length = l.toArray.size by simp [h7]] at hx
  exact wpAny_of_X h2 _ _ _ _ (down_start _) (by simp) (fun _ => hS) hx
end
theorem wpList_want {P : Program} {ops : Array Oper} {Q : Exit → Act → World → Prop} {a : Act} {w : World} {rest : List Oper} {o : Oper} (hw : Region.wanted o (yielded ops a.tmps) = true) (h : ∀ K : Act → World → Prop, (∀ a w, wpList P ops Q rest a w → K a w) → o.wp P a w K Q) : wpList P ops Q (o :: rest) a w :=
  wpList_step fun K hK => by simp only [hw, if_true]; exact h K hK
theorem own_weak {B B' sz n : Nat} {e : TypeId} {v : Value} {xs : List Value} {W : World} (hb : B' ≤ B) (h : W.ownsRow B e sz v n xs) : W.ownsRow B' e sz v n xs := by
  refine ⟨h.1, ?_⟩
  rcases h.2 with hn | ⟨g, cap, cur, rfl, hbg, rest⟩
  · exact .inl hn
  · exact .inr ⟨g, cap, cur, rfl, Nat.le_trans hb hbg, rest⟩
theorem cell_oneB {W : World} {g : Nat} {s : ByteArray} (h : W.heap[g]? = some (.cells #[.string s] 9 (0, 0))) : ∀ j u, [Value.string s][j]? = some u → W.cell? ((⟨g, 0, none⟩ : Addr).add j) = some u := by
  intro j u hj
  cases j with
  | zero =>
    rw [add_none, Nat.add_zero, Lib.cell_of_heap h]
    exact hj
  | succ j => simp at hj
set_option maxRecDepth 100000 in
set_option maxHeartbeats 8000000 in
theorem walk (a : Option Addr) (c : Nat) (l : List PE) (wide : Bool) (w : World) (hr : RowP w a l ∧ l.length ≤ c ∧ ∀ r ∈ l, r.id.size ≤ maxLen) : Calls Try.prog 15 #[.slice a l.length c, .bool wide] w fun e w' => e = .returned (.bool true) ∧ Below w.heap.size w w' := by
  obtain ⟨j0, hj, ky0, ky1, ky2⟩ := info_parts strInfo
  obtain ⟨hrow, hlc, hsz⟩ := hr
  have HR := Lib.hid hrow
  have HZ := Lib.hid hsz
  have c1 := fun (W : World) (hW : Below w.heap.size w W) => psmall_ok a c l W (hrow.below hW) hsz
  clear hrow hsz
  cases hs : smallPL l
  · rw [hs] at c1
    clear hs
    go_enter Try.func15, Try.ntmps15
    go_wp2_with fail
    with_reducible refine (awake22_ok _).mono ?_
    rintro e w1 ⟨rfl, hB1⟩
    have c2 := c1 _ hB1
    go_wp2_with fail
    with_reducible refine c2.mono ?_
    rintro e w2 ⟨rfl, rfl⟩
    go_wp2
    go_ret
    exact ⟨rfl, hB1⟩
  · rw [hs] at c1
    obtain ⟨hl40, hsz3⟩ := smallPL_spec hs
    have c3 := fun (W : World) (hW : Below w.heap.size w W) => pvalid_ok a c l wide W (HR.out.below hW) (fun x hx => by have := hsz3 x hx; omega)
    have HC3 := Lib.hid hsz3
    clear hs hsz3
    cases hv : pvB wide l
    · simp only [hv] at c3
      clear hv
      go_enter Try.func15, Try.ntmps15
      go_wp2_with fail
      with_reducible refine (awake22_ok _).mono ?_
      rintro e w1 ⟨rfl, hB1⟩
      have c2 := c1 _ hB1
      have c4 := c3 _ hB1
      go_wp2_with fail
      with_reducible refine c2.mono ?_
      rintro e w2 ⟨rfl, rfl⟩
      go_wp2_with fail
      with_reducible refine c4.mono ?_
      rintro e w3 ⟨rfl, hB3⟩
      go_wp2
      go_ret
      exact ⟨rfl, bthen hB1 hB3⟩
    · simp only [hv] at c3
      have HV := Lib.hid (vp_of hv)
      clear hv
      go_enter Try.func15, Try.ntmps15
      go_wp2_with fail
      with_reducible refine (awake22_ok _).mono ?_
      rintro e w1 ⟨rfl, hB1⟩
      have c2 := c1 _ hB1
      have c4 := c3 _ hB1
      have HB1 := Lib.hid hB1
      clear hB1 c1 c3
      go_wp2_with fail
      with_reducible refine c2.mono ?_
      rintro e w2 ⟨rfl, rfl⟩
      go_wp2_with fail
      with_reducible refine c4.mono ?_
      rintro e w3 ⟨rfl, hB3⟩
      have HB3 := Lib.hid (bthen HB1.out hB3)
      clear hB3 c2 c4
      go_wp2
      go_loopw [26, 6, 5, 7, 8, 9, 10, 11, 12] (fun i _ _ _ _ _ _ _ _ wr => ∃ k : Nat, i = cN k ∧ k ≤ l.length ∧ Below w.heap.size w wr) (fun i _ _ _ _ _ _ _ _ _ => l.length - (intOf i).toNat)
      case atStart => exact ⟨0, rfl, Nat.zero_le _, HB3.out⟩
      case round =>
        obtain ⟨k, rfl, hk, hB⟩ := hrel
        have HB := Lib.hid hB
        by_cases hlt : (k : Int) < (l.length : Int)
        · have hkl : k < l.length := by omega
          obtain ⟨b, off, rfl, hb, hc⟩ := HR.out k hkl
          obtain ⟨x, hx⟩ : ∃ x, l.getD k peD = x := ⟨_, rfl⟩
          have HRW := Lib.hid (HR.out.below hB)
          rw [hx] at hc
          obtain ⟨q0, q1, q2⟩ := hc.below hb hB
          have e1 := path_pth HV.out (k + 1) (by omega) (by omega)
          have e2 := find_back HV.out k hkl
          have e3 := pth_nil HV.out k hkl
          have e4 := pth_len HV.out (k + 1) (by omega)
          have cp := fun (W : World) (hW : Below wr.heap.size wr W) => ppath_ok (some ⟨b, off, none⟩) c l ((k + 1 : Nat) : Int) W (by omega) (HRW.out.below hW)
          unfold PathEnd at cp
          rw [e1] at cp
          have cf := fun pa pc (W : World) (hW : Below wr.heap.size wr W) => pfind_ok (some ⟨b, off, none⟩) c l pa pc (pthU l (k + 1)) W (by omega) (by omega) hlc (HRW.out.below hW)
          rw [e2] at cf
          have HX := Lib.hid hx
          have HK := Lib.hid (fun (h : 1 ≤ k) => pth_step HV.out k h hkl)
          obtain ⟨P, hP⟩ : ∃ P, pthU l (k + 1) = P := ⟨_, rfl⟩
          rw [hP] at cp cf HK e3 e4
          rw [show ((k + 1 : Nat) : Int) = (k : Int) + 1 by omega] at cp
          clear e1 e2 hP hx hc hB hb
          have cp1 := cp _ (bald (Below.refl _ wr) (.cells (peA x) 63))
          go_wp2_with fail
          with_reducible refine cp1.mono ?_
          rintro e w4 ⟨v, rfl, ho4, hB4⟩
          obtain ⟨pa, pc, rfl, hrb⟩ := RowB_own P ho4
          have cf1 := cf pa pc _ (Below.trans (bald (Below.refl _ wr) (.cells (peA x) 63)) (hB4.mono (by simp))) hrb
          have HOP := Lib.hid ho4
          have HB4 := Lib.hid (Below.trans (bald (Below.refl _ wr) (.cells (peA x) 63)) (hB4.mono (by simp)))
          have HE4 := Lib.hid ((hB4.block wr.heap.size (by simp)).trans (World.alloc_heap_new wr (.cells (peA x) 63)))
          clear ho4 hB4 hrb cf cp1
          go_wp2_with fail
          with_reducible refine cf1.mono ?_
          rintro e w5 ⟨rfl, hB5⟩
          have HO5 := Lib.hid (own_keep HOP.out hB5)
          have HE5 := Lib.hid ((hB5.block wr.heap.size (lt_of_block HE4.out)).trans HE4.out)
          have HB5 := Lib.hid (HB4.out.trans (hB5.mono HB4.out.size))
          clear hB5 cf1 HOP HE4 HB4
          rcases Nat.eq_zero_or_pos k with hk0 | hk0
          · subst hk0
            have g1 : ((P.length : Int) == 0) = true := by rw [e3.2 rfl]; rfl
            clear e3
            go_wp2
            go_roundw
            case rel => exact ⟨1, by go_num, by omega, HB.out.trans (HB5.out.mono HB.out.size)⟩
            case measure => simp [intOf]; omega
          · have g1 : ((P.length : Int) == 0) = false := beq_eq_false_iff_ne.2 (by intro h; have := e3.1 (by omega); omega)
            have g2 : ((k : Int) == 0) = false := beq_eq_false_iff_ne.2 (by omega)
            have HPP := Lib.hid (HK.out hk0)
            have hlo := HV.out.lo k hk0 hkl
            have hhi := HV.out.hi k hk0 hkl
            rw [HX.out] at hlo hhi
            obtain ⟨q, hq⟩ : ∃ q : Nat, x.par = q := ⟨x.par.toNat, by omega⟩
            have e5 := path_pth HV.out q (by omega) (by omega)
            have e6 := pth_len HV.out q (by omega)
            have hPU : P = pthU l q ++ [x.id] := by rw [HPP.out, HX.out, hq, Int.toNat_natCast]
            have cq := ppath_ok (some ⟨b, off, none⟩) c l (q : Int) w5 (by omega) (HRW.out.below HB5.out)
            unfold PathEnd at cq
            rw [e5] at cq
            obtain ⟨U, hU⟩ : ∃ U, pthU l q = U := ⟨_, rfl⟩
            rw [hU] at cq hPU e6
            rw [← hq] at cq
            have HQ := Lib.hid hq
            have HPU := Lib.hid hPU
            have hq40 : q ≤ 40 := by omega
            have hgt : ¬ ((k : Int) < x.par) := by omega
            have hgd : decide ((k : Int) < x.par) = false := decide_eq_false hgt
            clear e3 HK HPP e5 hU hPU cp
            have p2 := Lib.cell_of_heap HE5.out 2
            have p0 := Lib.cell_of_heap HE5.out 0
            simp only [peA] at p2 p0
            clear hq
            go_wp2_with fail
            with_reducible refine cq.mono ?_
            rintro e w6 ⟨v6, rfl, ho6, hB6⟩
            have HO6 := Lib.hid (own_keepS HO5.out hB6)
            have HE6 := Lib.hid ((hB6.block wr.heap.size (lt_of_block HE5.out)).trans HE5.out)
            have HB6 := Lib.hid (HB5.out.trans (hB6.mono HB5.out.size))
            have HU6 := Lib.hid ho6
            have HP2 : Hid (∀ W, Below w6.heap.size w6 W → W.cell? ⟨wr.heap.size, 2, none⟩ = some (cN x.par)) := Lib.hid fun W hW => by
              have := (hW.block wr.heap.size (lt_of_block HE6.out)).trans HE6.out
              rw [Lib.cell_of_heap this]
              rfl
            have HP0 : Hid (∀ W, Below w6.heap.size w6 W → W.cell? ⟨wr.heap.size, 0, none⟩ = some (.string x.id)) := Lib.hid fun W hW => by
              have := (hW.block wr.heap.size (lt_of_block HE6.out)).trans HE6.out
              rw [Lib.cell_of_heap this]
              rfl
            have c7 := fun (W : World) (hW : Below w6.heap.size w6 W) => clone_own U (own_keepS HU6.out hW) (by omega)
            obtain ⟨a6, cc6, rfl⟩ := own_formS ho6
            clear hB6 cq p2 p0 ho6 HO5 HE5 HB5
            go_wp2
            refine region_two (fun W' => Below w6.heap.size w6 W') [(true, 0), (true, 1), (true, 2), (true, 3), (true, 4), (true, 5), (true, 6), (true, 7), (true, 8), (true, 9), (true, 10), (true, 12), (true, 13)] [(false, 14), (false, 15), (false, 16), (true, 17)] [(false, 11), (false, 15), (false, 16), (true, 17)] 11 14 [18] (by kernel_rfl) (by kernel_rfl) (by rintro ⟨_, _, h⟩; cases h.1) (fun _ _ d _ _ h => by cases d <;> exact h) (Below.refl _ w6).drew ?_
            simp only [pickM, pickT, List.filterMap_cons, List.filterMap_nil, List.getElem?_cons_zero, List.getElem?_cons_succ, Option.map_some]
            repeat (first | (refine m_float ⟨?_, .inl ⟨?_, .inl ?_⟩, fun K' hK => ?_⟩; rotate_left; (first | rfl | (go_simp; done)); (intro w' hS; have p2 := HP2.out _ hS; have p0 := HP0.out _ hS; clear hS; go_simp; try rfl); (simp only [Act.put, List.setIfInBounds_toArray, List.set_cons_succ, List.set_cons_zero]; refine hK _ ?_; clear hK K')) | (refine m_float ⟨undef, .inr ⟨?_, rfl⟩, fun K' hK => ?_⟩; (first | rfl | (go_simp; done)); (simp only [Act.put, List.setIfInBounds_toArray, List.set_cons_succ, List.set_cons_zero]; refine hK _ ?_; clear hK K')))
            refine m_nil ?_
            refine ⟨?_, ?_⟩
            · refine m_loud ?_ (fun K' hK => ?_)
              · rintro ⟨_, _, h, _⟩; cases h
              go_wp2_with (go_at_call 44; (with_reducible refine (c7 _ (Below.refl _ w6).drew).mono ?_); rintro e w7 ⟨v7, rfl, ho7, hB7⟩)
              have HB7 : Hid (Below w6.heap.size w6 w7) := Lib.hid ((Below.refl _ w6).drew.trans hB7)
              have HO7 : Hid (w7.ownsRow w6.heap.size 9 1 v7 U.length (strB U)) := Lib.hid ho7
              clear c7 ho7 hB7
              refine hK _ _ HB7.out ?_
              clear hK K'
              repeat (first | (refine m_float ⟨?_, .inl ⟨?_, .inl ?_⟩, fun K' hK => ?_⟩; rotate_left; (first | rfl | (go_simp; done)); (intro w' hS; skip; go_simp; try rfl); (simp only [Act.put, List.setIfInBounds_toArray, List.set_cons_succ, List.set_cons_zero]; refine hK _ ?_; clear hK K')) | (refine m_float ⟨undef, .inr ⟨?_, rfl⟩, fun K' hK => ?_⟩; (first | rfl | (go_simp; done)); (simp only [Act.put, List.setIfInBounds_toArray, List.set_cons_succ, List.set_cons_zero]; refine hK _ ?_; clear hK K')))
              refine m_loud ?_ (fun K' hK => ?_)
              · rintro ⟨_, _, h, _⟩; cases h
              go_wp2
              have HB8 : Hid (Below w6.heap.size w6 (w7.alloc (.cells #[.string x.id] 9))) := Lib.hid (bald HB7.out _)
              have HO8 : Hid ((w7.alloc (.cells #[.string x.id] 9)).ownsRow w6.heap.size 9 1 v7 U.length (strB U)) := Lib.hid (HO7.out.alloc _)
              have HC8 : Hid ((w7.alloc (.cells #[.string x.id] 9)).heap[w7.heap.size]? = some (.cells #[.string x.id] 9 (0, 0))) := Lib.hid (World.alloc_heap_new _ _)
              refine hK _ _ HB8.out ?_
              clear hK K'
              repeat (first | (refine m_float ⟨?_, .inl ⟨?_, .inl ?_⟩, fun K' hK => ?_⟩; rotate_left; (first | rfl | (go_simp; done)); (intro w' hS; skip; go_simp; try rfl); (simp only [Act.put, List.setIfInBounds_toArray, List.set_cons_succ, List.set_cons_zero]; refine hK _ ?_; clear hK K')) | (refine m_float ⟨undef, .inr ⟨?_, rfl⟩, fun K' hK => ?_⟩; (first | rfl | (go_simp; done)); (simp only [Act.put, List.setIfInBounds_toArray, List.set_cons_succ, List.set_cons_zero]; refine hK _ ?_; clear hK K')))
              refine m_loud ?_ (fun K' hK => ?_)
              · rintro ⟨_, _, h, _⟩; cases h
              refine wpList_want (by first | rfl | (go_simp; done)) ?_
              intro K1 hK1
              refine wp_append_own _ _ _ 50 rfl w6.heap.size 9 j0 (.string ByteArray.empty) 1 16 Try.underlying50 hj ky0 ky1 ky2 rfl (by decide) _ _ _ rfl HO8.out ⟨w7.heap.size, 0, none⟩ 1 1 [.string x.id] rfl rfl ?c1 ?c2 ?c3 ?c4 ?c5 ?_
              case c1 => exact cell_oneB HC8.out
              case c2 => first | rfl | (intro u h; rw [List.mem_singleton.1 h]; rfl)
              case c3 => unfold maxLen; omega
              case c4 => omega
              case c5 => exact HB8.out.size
              intro v9 w9 ho9 hg9 _
              refine hK1 _ _ ?_
              clear hK1 K1
              have HB9 : Hid (Below w6.heap.size w6 w9) := Lib.hid (HB8.out.grown hg9 HB8.out.size (fun k e => (HO8.out.lt k e).1))
              have HO9 : Hid (w9.ownsRow w6.heap.size 9 1 v9 (U ++ [x.id]).length (strB (U ++ [x.id]))) := Lib.hid (by rw [List.length_append, strB_snoc]; exact ho9)
              clear ho9 hg9
              have c9 := eqstr_own P (U ++ [x.id]) (own_keepS HO6.out HB9.out) HO9.out (by omega) (by simp; omega)
              rw [← HPU.out] at c9
              go_wp2
              refine hK _ _ HB9.out ?_
              clear hK K'
              repeat (first | (refine m_float ⟨?_, .inl ⟨?_, .inl ?_⟩, fun K' hK => ?_⟩; rotate_left; (first | rfl | (go_simp; done)); (intro w' hS; skip; go_simp; try rfl); (simp only [Act.put, List.setIfInBounds_toArray, List.set_cons_succ, List.set_cons_zero]; refine hK _ ?_; clear hK K')) | (refine m_float ⟨undef, .inr ⟨?_, rfl⟩, fun K' hK => ?_⟩; (first | rfl | (go_simp; done)); (simp only [Act.put, List.setIfInBounds_toArray, List.set_cons_succ, List.set_cons_zero]; refine hK _ ?_; clear hK K')))
              refine m_loud ?_ (fun K' hK => ?_)
              · rintro ⟨_, _, h, _⟩; cases h
              go_wp2_with (go_at_call 40; (with_reducible refine c9.mono ?_); rintro e w10 ⟨rfl, hB10⟩)
              have HB10 : Hid (Below w6.heap.size w6 w10) := Lib.hid (bthen HB9.out hB10)
              clear hB10 c9
              refine hK _ _ HB10.out ?_
              clear hK K'
              repeat (first | (refine m_float ⟨?_, .inl ⟨?_, .inl ?_⟩, fun K' hK => ?_⟩; rotate_left; (first | rfl | (go_simp; done)); (intro w' hS; skip; go_simp; try rfl); (simp only [Act.put, List.setIfInBounds_toArray, List.set_cons_succ, List.set_cons_zero]; refine hK _ ?_; clear hK K')) | (refine m_float ⟨undef, .inr ⟨?_, rfl⟩, fun K' hK => ?_⟩; (first | rfl | (go_simp; done)); (simp only [Act.put, List.setIfInBounds_toArray, List.set_cons_succ, List.set_cons_zero]; refine hK _ ?_; clear hK K')))
              refine m_nil ?_
              show wpList Try.prog _ _ (List.cons _ _) _ _
              go_wp2
              go_roundw
              case rel => exact ⟨k + 1, by go_num, by omega, HB.out.trans ((HB6.out.trans (HB10.out.mono HB6.out.size)).mono HB.out.size)⟩
              case measure => simp [intOf]; omega
            · refine m_loud ?_ (fun K' hK => ?_)
              · rintro ⟨_, _, h, _⟩; cases h
              go_wp2
              have hb8 : Below w6.heap.size w6 (w6.alloc (.cells #[.string x.id] 9)).drew := bald (Below.refl _ w6).drew _
              have hc8 : (w6.alloc (.cells #[.string x.id] 9)).drew.heap[w6.heap.size]? = some (.cells #[.string x.id] 9 (0, 0)) := World.alloc_heap_new _ _
              have HA8 := Lib.hid hb8
              have HD8 := Lib.hid hc8
              clear hb8 hc8
              refine hK _ _ HA8.out ?_
              clear hK K'
              repeat (first | (refine m_float ⟨?_, .inl ⟨?_, .inl ?_⟩, fun K' hK => ?_⟩; rotate_left; (first | rfl | (go_simp; done)); (intro w' hS; skip; go_simp; try rfl); (simp only [Act.put, List.setIfInBounds_toArray, List.set_cons_succ, List.set_cons_zero]; refine hK _ ?_; clear hK K')) | (refine m_float ⟨undef, .inr ⟨?_, rfl⟩, fun K' hK => ?_⟩; (first | rfl | (go_simp; done)); (simp only [Act.put, List.setIfInBounds_toArray, List.set_cons_succ, List.set_cons_zero]; refine hK _ ?_; clear hK K')))
              refine m_loud ?_ (fun K' hK => ?_)
              · rintro ⟨_, _, h, _⟩; cases h
              go_wp2_with (go_at_call 44; (with_reducible refine (c7 _ HA8.out).mono ?_); rintro e w8 ⟨v7, rfl, ho7, hB7⟩)
              have HB8 : Hid (Below w6.heap.size w6 w8) := Lib.hid (bthen HA8.out hB7)
              have HO8 : Hid (w8.ownsRow w6.heap.size 9 1 v7 U.length (strB U)) := Lib.hid (own_weak (by simp) ho7)
              have HC8 : Hid (w8.heap[w6.heap.size]? = some (.cells #[.string x.id] 9 (0, 0))) := Lib.hid ((hB7.block _ (lt_of_block HD8.out)).trans HD8.out)
              clear c7 ho7 hB7
              refine hK _ _ HB8.out ?_
              clear hK K'
              repeat (first | (refine m_float ⟨?_, .inl ⟨?_, .inl ?_⟩, fun K' hK => ?_⟩; rotate_left; (first | rfl | (go_simp; done)); (intro w' hS; skip; go_simp; try rfl); (simp only [Act.put, List.setIfInBounds_toArray, List.set_cons_succ, List.set_cons_zero]; refine hK _ ?_; clear hK K')) | (refine m_float ⟨undef, .inr ⟨?_, rfl⟩, fun K' hK => ?_⟩; (first | rfl | (go_simp; done)); (simp only [Act.put, List.setIfInBounds_toArray, List.set_cons_succ, List.set_cons_zero]; refine hK _ ?_; clear hK K')))
              refine m_loud ?_ (fun K' hK => ?_)
              · rintro ⟨_, _, h, _⟩; cases h
              refine wpList_want (by first | rfl | (go_simp; done)) ?_
              intro K1 hK1
              refine wp_append_own _ _ _ 50 rfl w6.heap.size 9 j0 (.string ByteArray.empty) 1 16 Try.underlying50 hj ky0 ky1 ky2 rfl (by decide) _ _ _ rfl HO8.out ⟨w6.heap.size, 0, none⟩ 1 1 [.string x.id] rfl rfl ?c1 ?c2 ?c3 ?c4 ?c5 ?_
              case c1 => exact cell_oneB HC8.out
              case c2 => first | rfl | (intro u h; rw [List.mem_singleton.1 h]; rfl)
              case c3 => unfold maxLen; omega
              case c4 => omega
              case c5 => exact HB8.out.size
              intro v9 w9 ho9 hg9 _
              refine hK1 _ _ ?_
              clear hK1 K1
              have HB9 : Hid (Below w6.heap.size w6 w9) := Lib.hid (HB8.out.grown hg9 HB8.out.size (fun k e => (HO8.out.lt k e).1))
              have HO9 : Hid (w9.ownsRow w6.heap.size 9 1 v9 (U ++ [x.id]).length (strB (U ++ [x.id]))) := Lib.hid (by rw [List.length_append, strB_snoc]; exact ho9)
              clear ho9 hg9
              have c9 := eqstr_own P (U ++ [x.id]) (own_keepS HO6.out HB9.out) HO9.out (by omega) (by simp; omega)
              rw [← HPU.out] at c9
              go_wp2
              refine hK _ _ HB9.out ?_
              clear hK K'
              repeat (first | (refine m_float ⟨?_, .inl ⟨?_, .inl ?_⟩, fun K' hK => ?_⟩; rotate_left; (first | rfl | (go_simp; done)); (intro w' hS; skip; go_simp; try rfl); (simp only [Act.put, List.setIfInBounds_toArray, List.set_cons_succ, List.set_cons_zero]; refine hK _ ?_; clear hK K')) | (refine m_float ⟨undef, .inr ⟨?_, rfl⟩, fun K' hK => ?_⟩; (first | rfl | (go_simp; done)); (simp only [Act.put, List.setIfInBounds_toArray, List.set_cons_succ, List.set_cons_zero]; refine hK _ ?_; clear hK K')))
              refine m_loud ?_ (fun K' hK => ?_)
              · rintro ⟨_, _, h, _⟩; cases h
              go_wp2_with (go_at_call 40; (with_reducible refine c9.mono ?_); rintro e w10 ⟨rfl, hB10⟩)
              have HB10 : Hid (Below w6.heap.size w6 w10) := Lib.hid (bthen HB9.out hB10)
              clear hB10 c9
              refine hK _ _ HB10.out ?_
              clear hK K'
              repeat (first | (refine m_float ⟨?_, .inl ⟨?_, .inl ?_⟩, fun K' hK => ?_⟩; rotate_left; (first | rfl | (go_simp; done)); (intro w' hS; skip; go_simp; try rfl); (simp only [Act.put, List.setIfInBounds_toArray, List.set_cons_succ, List.set_cons_zero]; refine hK _ ?_; clear hK K')) | (refine m_float ⟨undef, .inr ⟨?_, rfl⟩, fun K' hK => ?_⟩; (first | rfl | (go_simp; done)); (simp only [Act.put, List.setIfInBounds_toArray, List.set_cons_succ, List.set_cons_zero]; refine hK _ ?_; clear hK K')))
              refine m_nil ?_
              show wpList Try.prog _ _ (List.cons _ _) _ _
              go_wp2
              go_roundw
              case rel => exact ⟨k + 1, by go_num, by omega, HB.out.trans ((HB6.out.trans (HB10.out.mono HB6.out.size)).mono HB.out.size)⟩
              case measure => simp [intOf]; omega
        · obtain rfl : k = l.length := by omega
          go_wp2
          go_ret
          exact ⟨rfl, HB.out⟩
theorem own : ownKnob Try.prog.godebug = none := by kernel_rfl
theorem laidOut : laidOutB Try.prog = true := by kernel_rfl
set_option maxRecDepth 100000 in
theorem lifted (os : Os) (started : os.Started) (H : Type) (enc : TypeId × Value → H) :
    ReturnsInHanded {} Try.checked os 15 .any (Rows.pathtableFindsSpec.pre6 enc Try.prog Try.f15 Rows.pathtableFindsRow.domain false) (Rows.pathtableFindsSpec.post enc Try.prog Try.f15 false true false false) := by
  refine returnsInHanded_of_change (C := Try.checked) own started (by kernel_rfl) Try.func15
    (ChangeSpec.witness6 (enc := enc) (C := Try.checked) false ⟨#[], #[.slice none 0 0, .bool false], []⟩ 8 (by kernel_rfl) (by kernel_rfl) (by kernel_rfl) (by kernel_rfl)) ?_
  intro W base args ds gs before hval0 hW hcnd _
  have hval : ∀ (j : Nat) t v, Try.f15.params[j]? = some t → args[j]? = some v → Value.okWide Try.prog W .any base t v := hval0
  have hW' := hW
  obtain ⟨p, q, hA0, hV, rfl, hfz, hnd⟩ := hW
  have hA : DataW.TrodAll enc Try.prog W 0 (fun _ => true) true Try.f15.params.toList args.toList ds p := hA0
  rw [Try.params15] at hA hval
  obtain ⟨v0, vs0, d0, ds0, p0, q0, hargs, rfl, rfl, h0, r0⟩ := trodAll_cons hA
  obtain ⟨v1, vs1, d1, ds1, p1, q1, rfl, rfl, rfl, h1, r1⟩ := trodAll_cons r0
  obtain ⟨rfl, rfl, rfl⟩ := trodAll_nil r1
  obtain rfl : args = #[v0, v1] := by cases args; simp_all
  obtain ⟨rfl, rfl⟩ := trodVars_none hV
  have k0 := h0
  have lt0 : ∀ x ∈ p0, x.block < W.heap.size := by obtain ⟨m, hm⟩ := k0; exact DataW.trod_lt m _ _ _ hm
  obtain ⟨a0, n0, c0, rfl⟩ := okWide_slice Try.underlying44 (hval 0 44 v0 rfl rfl)
  obtain ⟨l0, rfl, w0⟩ := open_pes h0
  obtain ⟨a1, rfl, rfl, rfl⟩ := open_bool Try.underlying4 (hval 1 4 v1 rfl rfl) h1
  clear hA0 hval0
  refine (walk a0 c0 l0 a1 W w0).mono fun e W' ⟨he, bel⟩ => ?_
  subst he
  exact ⟨_, rfl, _, _, _, [], _, [], hW', trodAll_mk1 (shut_bool Try.underlying4 _), (trodAll_cons_mk (Below.trod laidOut (by kernel_rfl) (of_decide_eq_true (by kernel_rfl)) k0 bel lt0) (trodAll_cons_mk (shut_bool Try.underlying4 _) trodAll_mk0)), rfl, bel.frame _, fun h => by cases h⟩
theorem over : Rows.pathtableFindsRow.holds Try.pinned (OpenSpec.ofChange Rows.pathtableFindsSpec) :=
  OpenClaim.holds_of_wide 15 Try.f15 rfl rfl rfl rfl rfl rfl rfl ⟨rfl, rfl, rfl, rfl, rfl⟩ rfl rfl rfl rfl rfl (by as_aux_lemma => kernel_rfl) Try.func15 closed
    (of_decide_eq_true (by as_aux_lemma => kernel_rfl)) (by as_aux_lemma => (unfold Func.isWrapper; first | (rw [if_pos (by decide +kernel)]; kernel_rfl) | (rw [if_neg (by decide +kernel)]; exact ⟨rfl, rfl⟩)))
    (fun os started H enc _ => lifted os started H enc)
theorem proved : Rows.PathtableFindsSaid := over
#print axioms proved
end Go.Proofs.Ytnmlephjhcmbhaa.pathtableFinds
