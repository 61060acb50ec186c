/- The order of directories, plain: bytes compared with bytes behind them, the parts of an identifier, keys. -/
import Derived.Test.YtnmlephjhcmbhaaGreatMa
namespace Go.Proofs.YtnmlephjhcmbhaaGreat
set_option linter.unusedSimpArgs false
set_option linter.unusedVariables false
open Go Go.RowKit
def cmpB (x y : UInt8) : Int := if x.toNat < y.toNat then -1 else if y.toNat < x.toNat then 1 else 0
theorem cmpB_self (x : UInt8) : cmpB x x = 0 := by unfold cmpB; rw [if_neg (Nat.lt_irrefl _), if_neg (Nat.lt_irrefl _)]
theorem cmpB_zero {x y : UInt8} (h : cmpB x y = 0) : x = y := by
  unfold cmpB at h
  split at h
  · cases h
  · split at h
    · cases h
    · exact UInt8.toNat_inj.1 (by omega)
theorem cmpB_swap (x y : UInt8) : cmpB y x = - cmpB x y := by unfold cmpB; split <;> split <;> first | rfl | omega
theorem cmpB_range (x y : UInt8) : -1 ≤ cmpB x y ∧ cmpB x y ≤ 1 := by unfold cmpB; split <;> (try split) <;> decide
theorem cmpB_le {x y : UInt8} : cmpB x y ≤ 0 ↔ x.toNat ≤ y.toNat := by unfold cmpB; split <;> (try split) <;> simp <;> omega
theorem cmpB_lt {x y : UInt8} : cmpB x y < 0 ↔ x.toNat < y.toNat := by unfold cmpB; split <;> (try split) <;> simp <;> omega
/-- Two strings, the shorter one with bytes f behind it. -/
def behM (f : UInt8) : List UInt8 → List UInt8 → Int
  | [], [] => 0
  | x :: a, [] => if cmpB x f = 0 then behM f a [] else cmpB x f
  | [], y :: b => if cmpB f y = 0 then behM f [] b else cmpB f y
  | x :: a, y :: b => if cmpB x y = 0 then behM f a b else cmpB x y
theorem behM_step (f : UInt8) (a b : List UInt8) (k : Nat) (h : k < a.length ∨ k < b.length) :
    behM f (a.drop k) (b.drop k) = if cmpB (a.getD k f) (b.getD k f) = 0 then behM f (a.drop (k + 1)) (b.drop (k + 1)) else cmpB (a.getD k f) (b.getD k f) := by
  by_cases ha : k < a.length
  · rw [List.drop_eq_getElem_cons ha]
    by_cases hb : k < b.length
    · rw [List.drop_eq_getElem_cons hb, behM]
      simp [List.getD_eq_getElem?_getD, ha, hb]
    · have e1 : b.drop k = [] := List.drop_eq_nil_of_le (by omega)
      have e2 : b.drop (k + 1) = [] := List.drop_eq_nil_of_le (by omega)
      rw [e1, e2, behM]
      simp [List.getD_eq_getElem?_getD, ha, hb]
  · have hb : k < b.length := by omega
    have e1 : a.drop k = [] := List.drop_eq_nil_of_le (by omega)
    have e2 : a.drop (k + 1) = [] := List.drop_eq_nil_of_le (by omega)
    rw [List.drop_eq_getElem_cons hb, e1, e2, behM]
    simp [List.getD_eq_getElem?_getD, ha, hb]
theorem behM_end (f : UInt8) (a b : List UInt8) (k : Nat) (ha : a.length ≤ k) (hb : b.length ≤ k) : behM f (a.drop k) (b.drop k) = 0 := by
  rw [List.drop_eq_nil_of_le ha, List.drop_eq_nil_of_le hb, behM]
theorem behM_range (f : UInt8) (a b : List UInt8) : -1 ≤ behM f a b ∧ behM f a b ≤ 1 := by
  induction a, b using behM.induct f with
  | case1 => rw [behM]; decide
  | case2 x a h ih => rw [behM, if_pos h]; exact ih
  | case3 x a h => rw [behM, if_neg h]; exact cmpB_range _ _
  | case4 y b h ih => rw [behM, if_pos h]; exact ih
  | case5 y b h => rw [behM, if_neg h]; exact cmpB_range _ _
  | case6 x a y b h ih => rw [behM, if_pos h]; exact ih
  | case7 x a y b h => rw [behM, if_neg h]; exact cmpB_range _ _
/-- Two rows of bytes of one length. -/
def lexc : List UInt8 → List UInt8 → Int
  | x :: a, y :: b => if cmpB x y = 0 then lexc a b else cmpB x y
  | _, _ => 0
theorem lexc_range (a b : List UInt8) : -1 ≤ lexc a b ∧ lexc a b ≤ 1 := by
  induction a, b using lexc.induct with
  | case1 x a y b h ih => rw [lexc, if_pos h]; exact ih
  | case2 x a y b h => rw [lexc, if_neg h]; exact cmpB_range _ _
  | case3 a b h => rw [lexc]; · decide
                   · exact h
theorem lexc_swap (a b : List UInt8) : lexc b a = - lexc a b := by
  induction a, b using lexc.induct with
  | case1 x a y b h ih => rw [lexc, lexc, if_pos h, if_pos (by rw [cmpB_swap, h]; rfl), ih]
  | case2 x a y b h => rw [lexc, lexc, if_neg h, if_neg (by rw [cmpB_swap]; omega), cmpB_swap]
  | case3 a b h =>
    have e1 : lexc a b = 0 := by rw [lexc]; exact h
    have e2 : lexc b a = 0 := by
      cases a with
      | nil => cases b <;> rfl
      | cons x a => cases b with
        | nil => rfl
        | cons y b => exact (h x a y b rfl rfl).elim
    rw [e1, e2]; rfl
theorem lexc_self (a : List UInt8) : lexc a a = 0 := by
  induction a with
  | nil => rfl
  | cons x a ih => rw [lexc, if_pos (cmpB_self x), ih]
theorem lexc_eq {a b : List UInt8} (hl : a.length = b.length) (h : lexc a b = 0) : a = b := by
  induction a, b using lexc.induct with
  | case1 x a y b hc ih =>
    rw [lexc, if_pos hc] at h
    rw [cmpB_zero hc, ih (by simpa using hl) h]
  | case2 x a y b hc => rw [lexc, if_neg hc] at h; exact absurd h hc
  | case3 a b hn =>
    cases a with
    | nil => exact (List.eq_nil_of_length_eq_zero (by simpa using hl.symm)).symm
    | cons x a => cases b with
      | nil => simp at hl
      | cons y b => exact (hn x a y b rfl rfl).elim
theorem lexc_trans : ∀ (a b c : List UInt8), a.length = b.length → b.length = c.length → lexc a b ≤ 0 → lexc b c ≤ 0 → lexc a c ≤ 0
  | [], [], [], _, _, _, _ => by decide
  | x :: a, y :: b, z :: c, h1, h2, h3, h4 => by
    rw [lexc] at h3 h4 ⊢
    have hx : cmpB x y ≤ 0 := by split at h3 <;> omega
    have hy : cmpB y z ≤ 0 := by split at h4 <;> omega
    have hz : cmpB x z ≤ 0 := cmpB_le.2 (Nat.le_trans (cmpB_le.1 hx) (cmpB_le.1 hy))
    split
    · rename_i h0
      have e := cmpB_zero h0
      subst e
      have exy : cmpB x y = 0 := by rw [cmpB_swap] at hy; omega
      have eyx : cmpB y x = 0 := by rw [cmpB_swap, exy]; rfl
      rw [if_pos exy] at h3
      rw [if_pos eyx] at h4
      exact lexc_trans a b c (by simpa using h1) (by simpa using h2) h3 h4
    · exact hz
theorem lexc_append : ∀ (a b x y : List UInt8), a.length = b.length → lexc (a ++ x) (b ++ y) = if lexc a b = 0 then lexc x y else lexc a b
  | [], [], x, y, _ => by simp [lexc]
  | p :: a, q :: b, x, y, h => by
    rw [List.cons_append, List.cons_append, lexc, lexc, lexc_append a b x y (by simpa using h)]
    split <;> simp_all
/-- Bytes f behind, and in front of, a row, to the length n. -/
def padR (n : Nat) (f : UInt8) (l : List UInt8) : List UInt8 := l ++ List.replicate (n - l.length) f
def padL (n : Nat) (f : UInt8) (l : List UInt8) : List UInt8 := List.replicate (n - l.length) f ++ l
theorem padR_len {n : Nat} {f : UInt8} {l : List UInt8} (h : l.length ≤ n) : (padR n f l).length = n := by simp [padR]; omega
theorem padL_len {n : Nat} {f : UInt8} {l : List UInt8} (h : l.length ≤ n) : (padL n f l).length = n := by simp [padL]; omega
theorem lexc_rep (f : UInt8) (n : Nat) : lexc (List.replicate n f) (List.replicate n f) = 0 := lexc_self _
theorem behM_padR (f : UInt8) : ∀ (a b : List UInt8) (n : Nat), a.length ≤ n → b.length ≤ n → behM f a b = lexc (padR n f a) (padR n f b)
  | [], [], n, _, _ => by rw [lexc_self, behM]
  | x :: a, [], n + 1, h1, h2 => by
    have e : padR (n + 1) f [] = f :: padR n f [] := by simp [padR, List.replicate_succ]
    have e2 : padR (n + 1) f (x :: a) = x :: padR n f a := by simp [padR]
    rw [e, e2, behM, lexc, behM_padR f a [] n (by simpa using h1) (Nat.zero_le _)]
  | [], y :: b, n + 1, h1, h2 => by
    have e : padR (n + 1) f [] = f :: padR n f [] := by simp [padR, List.replicate_succ]
    have e2 : padR (n + 1) f (y :: b) = y :: padR n f b := by simp [padR]
    rw [e, e2, behM, lexc, behM_padR f [] b n (Nat.zero_le _) (by simpa using h2)]
  | x :: a, y :: b, n + 1, h1, h2 => by
    have e1 : padR (n + 1) f (x :: a) = x :: padR n f a := by simp [padR]
    have e2 : padR (n + 1) f (y :: b) = y :: padR n f b := by simp [padR]
    rw [e1, e2, behM, lexc, behM_padR f a b n (by simpa using h1) (by simpa using h2)]
/-- Digits in front: to whatever length. -/
theorem lexc_padL (f : UInt8) (a b : List UInt8) (n m : Nat) (ha : a.length ≤ n) (hb : b.length ≤ n) (hnm : n ≤ m) : lexc (padL m f a) (padL m f b) = lexc (padL n f a) (padL n f b) := by
  obtain ⟨d, rfl⟩ : ∃ d, m = n + d := ⟨m - n, by omega⟩
  have e : ∀ l : List UInt8, l.length ≤ n → padL (n + d) f l = List.replicate d f ++ padL n f l := fun l hl => by
    unfold padL
    rw [← List.append_assoc, List.replicate_append_replicate]
    congr 2; omega
  rw [e a ha, e b hb, lexc_append _ _ _ _ rfl, lexc_self, if_pos rfl]
/-- Rows of one length, with some byte behind: the same. -/
theorem behM_lexc (f : UInt8) : ∀ (a b : List UInt8), a.length = b.length → behM f a b = lexc a b
  | [], [], _ => by rw [behM, lexc]; simp
  | x :: a, y :: b, h => by rw [behM, lexc, behM_lexc f a b (by simpa using h)]
/-- The parts of an identifier. -/
def ixD (l : List UInt8) : Nat := l.findIdx fun c => c == 46 || c == 59
def ixS (l : List UInt8) : Nat := l.findIdx fun c => c == 59
def restL (l : List UInt8) : List UInt8 := l.drop (ixD l + 1)
def dotB (l : List UInt8) : Bool := l.getD (ixD l) 0 == 46
def nameL (l : List UInt8) : List UInt8 := l.take (ixD l)
def extL (l : List UInt8) : List UInt8 := if dotB l then (restL l).take (ixS (restL l)) else []
def verL (l : List UInt8) : List UInt8 := if dotB l then (restL l).drop (ixS (restL l) + 1) else restL l
theorem nameL_len (l : List UInt8) : (nameL l).length ≤ l.length := by simp [nameL]; omega
theorem restL_len (l : List UInt8) : (restL l).length ≤ l.length := by simp [restL]
theorem extL_len (l : List UInt8) : (extL l).length ≤ l.length := by
  unfold extL
  split
  · have := restL_len l; simp; omega
  · exact Nat.zero_le _
theorem verL_len (l : List UInt8) : (verL l).length ≤ l.length := by
  unfold verL
  have := restL_len l
  split
  · simp; omega
  · exact this
def rankM (l : List UInt8) : Nat := if l = [0] then 0 else if l = [1] then 1 else 2
theorem rankM_le (l : List UInt8) : rankM l ≤ 2 := by unfold rankM; split <;> (try split) <;> omega
def orI (a b : Int) : Int := if a = 0 then b else a
def cmpI (a b : Int) : Int := if a < b then -1 else if b < a then 1 else 0
/-- The version numbers, compared: the greater one comes first. -/
def verC (a b : List UInt8) : Int := lexc (padL (max a.length b.length) 48 b) (padL (max a.length b.length) 48 a)
def inv8 (x : UInt8) : UInt8 := UInt8.ofNat (255 - x.toNat)
theorem inv8_nat (x : UInt8) : (inv8 x).toNat = 255 - x.toNat := by
  have := UInt8.toNat_lt x
  simp [inv8, UInt8.toNat_ofNat']
  omega
theorem cmpB_inv (x y : UInt8) : cmpB (inv8 x) (inv8 y) = cmpB y x := by
  have h1 := UInt8.toNat_lt x
  have h2 := UInt8.toNat_lt y
  unfold cmpB
  rw [inv8_nat, inv8_nat]
  split <;> split <;> (try split) <;> first | rfl | omega
theorem lexc_inv : ∀ a b : List UInt8, lexc (a.map inv8) (b.map inv8) = lexc b a
  | [], b => by cases b <;> simp [lexc]
  | x :: a, [] => by simp [lexc]
  | x :: a, y :: b => by rw [List.map_cons, List.map_cons, lexc, lexc, cmpB_inv, lexc_inv a b]
def nmC (a b : List UInt8) : Int := orI (behM 32 (nameL a) (nameL b)) (behM 32 (extL a) (extL b))
/-- What Compare gives. -/
def cmpM (a b : List UInt8) (wide : Bool) : Int :=
  if rankM a < 2 ∨ rankM b < 2 then cmpI (rankM a) (rankM b) else if wide then behM 0 a b else orI (nmC a b) (verC (verL a) (verL b))
/-- The key of an identifier, of one length for all of at most n bytes. -/
def keyM (n : Nat) (wide : Bool) (a : List UInt8) : List UInt8 :=
  UInt8.ofNat (rankM a) :: (if rankM a < 2 then List.replicate (3 * n) 0 else if wide then padR n 0 a ++ List.replicate (2 * n) 0 else padR n 32 (nameL a) ++ (padR n 32 (extL a) ++ (padL n 48 (verL a)).map inv8))
theorem keyM_len (n : Nat) (wide : Bool) (a : List UInt8) (h : a.length ≤ n) : (keyM n wide a).length = 3 * n + 1 := by
  unfold keyM
  have h1 := nameL_len a; have h2 := extL_len a; have h3 := verL_len a
  rw [List.length_cons]
  split
  · simp
  · split
    · rw [List.length_append, padR_len h, List.length_replicate]; omega
    · rw [List.length_append, List.length_append, padR_len (by omega), padR_len (by omega), List.length_map, padL_len (by omega)]; omega
theorem cmpB_rank (a b : List UInt8) : cmpB (UInt8.ofNat (rankM a)) (UInt8.ofNat (rankM b)) = cmpI (rankM a) (rankM b) := by
  have ha := rankM_le a; have hb := rankM_le b
  have e : ∀ n, n ≤ 2 → (UInt8.ofNat n).toNat = n := fun n hn => by simp [UInt8.toNat_ofNat']; omega
  unfold cmpB cmpI
  rw [e _ ha, e _ hb]
  split <;> split <;> (try split) <;> first | rfl | omega
theorem cmpM_key (n : Nat) (wide : Bool) (a b : List UInt8) (ha : a.length ≤ n) (hb : b.length ≤ n) : cmpM a b wide = lexc (keyM n wide a) (keyM n wide b) := by
  have a1 := nameL_len a; have a2 := extL_len a; have a3 := verL_len a
  have b1 := nameL_len b; have b2 := extL_len b; have b3 := verL_len b
  have ra := rankM_le a; have rb := rankM_le b
  unfold keyM
  rw [lexc, cmpB_rank]
  unfold cmpM
  by_cases h1 : rankM a < 2
  · rw [if_pos (.inl h1)]
    split
    · rename_i h0
      have he : rankM b = rankM a := by unfold cmpI at h0; split at h0; · cases h0
                                        · split at h0; · cases h0
                                          · omega
      rw [h0, if_pos (by omega), lexc_self]
    · rfl
  · by_cases h2 : rankM b < 2
    · rw [if_pos (.inr h2), if_neg]
      unfold cmpI; rw [if_neg (by omega), if_pos (by omega)]; decide
    · rw [if_neg (by omega), if_pos (show cmpI (rankM a) (rankM b) = 0 by unfold cmpI; rw [if_neg (by omega), if_neg (by omega)]), if_neg h1, if_neg h2]
      cases wide
      · simp only [Bool.false_eq_true, ↓reduceIte]
        rw [lexc_append _ _ _ _ (by rw [padR_len (by omega), padR_len (by omega)]), ← behM_padR 32 _ _ n (by omega) (by omega),
          lexc_append _ _ _ _ (by rw [padR_len (by omega), padR_len (by omega)]), ← behM_padR 32 _ _ n (by omega) (by omega),
          lexc_inv, lexc_padL 48 (verL b) (verL a) (max (verL a).length (verL b).length) n (by omega) (by omega) (by omega)]
        unfold orI nmC orI verC
        by_cases g1 : behM 32 (nameL a) (nameL b) = 0
        · simp [g1]
        · simp [g1]
      · simp only [↓reduceIte]
        rw [lexc_append _ _ _ _ (by rw [padR_len ha, padR_len hb]), ← behM_padR 0 _ _ n ha hb, lexc_self]
        split
        · assumption
        · rfl
theorem cmpM_range (a b : List UInt8) (wide : Bool) : -1 ≤ cmpM a b wide ∧ cmpM a b wide ≤ 1 := by
  rw [cmpM_key (max a.length b.length) wide a b (by omega) (by omega)]
  exact lexc_range _ _
theorem cmpM_swap (a b : List UInt8) (wide : Bool) : cmpM b a wide = - cmpM a b wide := by
  rw [cmpM_key (max a.length b.length) wide a b (by omega) (by omega), cmpM_key (max a.length b.length) wide b a (by omega) (by omega)]
  exact lexc_swap _ _
theorem cmpM_self (a : List UInt8) (wide : Bool) : cmpM a a wide = 0 := by
  rw [cmpM_key a.length wide a a (Nat.le_refl _) (Nat.le_refl _)]
  exact lexc_self _
theorem cmpM_trans (a b c : List UInt8) (wide : Bool) (h1 : cmpM a b wide ≤ 0) (h2 : cmpM b c wide ≤ 0) : cmpM a c wide ≤ 0 := by
  obtain ⟨n, hn⟩ : ∃ n, n = max a.length (max b.length c.length) := ⟨_, rfl⟩
  rw [cmpM_key n wide _ _ (by omega) (by omega)] at h1 h2 ⊢
  exact lexc_trans _ _ _ (by rw [keyM_len _ _ _ (by omega), keyM_len _ _ _ (by omega)]) (by rw [keyM_len _ _ _ (by omega), keyM_len _ _ _ (by omega)]) h1 h2
theorem cmpM_trans_lt (a b c : List UInt8) (wide : Bool) (h1 : cmpM a b wide < 0) (h2 : cmpM b c wide ≤ 0) : cmpM a c wide < 0 := by
  have h := cmpM_trans a b c wide (by omega) h2
  rcases Int.lt_or_eq_of_le h with h | h
  · exact h
  · have := cmpM_trans b c a wide h2 (by rw [cmpM_swap]; omega)
    rw [cmpM_swap] at this
    omega
theorem cmpM_lt_trans (a b c : List UInt8) (wide : Bool) (h1 : cmpM a b wide ≤ 0) (h2 : cmpM b c wide < 0) : cmpM a c wide < 0 := by
  have h := cmpM_trans a b c wide h1 (by omega)
  rcases Int.lt_or_eq_of_le h with h | h
  · exact h
  · have := cmpM_trans c a b wide (by rw [cmpM_swap]; omega) h1
    rw [cmpM_swap] at this
    omega
end Go.Proofs.YtnmlephjhcmbhaaGreat
