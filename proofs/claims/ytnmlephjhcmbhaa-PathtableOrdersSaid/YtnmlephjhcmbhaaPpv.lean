/- The chapter's example of path tables: facts. -/
import Derived.Test.YtnmlephjhcmbhaaPpt
import Derived.Test.YtnmlephjhcmbhaaPpi
import Derived.Test.YtnmlephjhcmbhaaPpd
import Derived.ProofKit
namespace Go.Proofs.Ytnmlephjhcmbhaa
set_option linter.unusedSimpArgs false
set_option linter.unusedVariables false
open Go Go.RowKit
def exL : List PE := [⟨⟨#[0]⟩, 18, 1⟩, ⟨⟨#[65]⟩, 19, 1⟩, ⟨⟨#[66]⟩, 20, 1⟩, ⟨⟨#[67]⟩, 21, 3⟩, ⟨⟨#[97]⟩, 22, 3⟩, ⟨⟨#[68]⟩, 23, 2⟩]
def exO : List PE := [⟨⟨#[0]⟩, 18, 1⟩, ⟨⟨#[65]⟩, 19, 1⟩, ⟨⟨#[66]⟩, 20, 1⟩, ⟨⟨#[68]⟩, 23, 2⟩, ⟨⟨#[67]⟩, 21, 3⟩, ⟨⟨#[97]⟩, 22, 3⟩]
def exN : List Nat := [1, 2, 3, 5, 6, 4]
theorem getD_small {l : List PE} (h : ∀ x ∈ l, x.id.size ≤ 1) (i : Nat) : (l.getD i peD).id.data.toList.length ≤ 10 := by
  rw [list_size]
  by_cases hi : i < l.length
  · have := h (l.getD i peD) (by rw [List.getD_eq_getElem?_getD, List.getElem?_eq_getElem hi, Option.getD_some]; exact List.getElem_mem hi)
    omega
  · rw [List.getD_eq_getElem?_getD, List.getElem?_eq_none (by omega), Option.getD_none]
    exact Nat.zero_le _
theorem ex_small : ∀ x ∈ exL, x.id.size ≤ 1 := by decide +kernel
theorem ex_smallO : ∀ x ∈ exO, x.id.size ≤ 1 := by decide +kernel
def cfK (l : List PE) (x y : Nat) : Int := lexc (keyM 10 false (l.getD x peD).id.data.toList) (keyM 10 false (l.getD y peD).id.data.toList)
theorem cfP_key {l : List PE} (h : ∀ x ∈ l, x.id.size ≤ 1) : cfP l false = cfK l := by
  funext x y
  rw [cfP, cfK, cmpM_key 10 false _ _ (getD_small h x) (getD_small h y)]
def ordC (cf : Nat → Nat → Int) (l : List PE) : Nat → List Nat × Bool
  | 0 => ([0], false)
  | k + 1 =>
    let o := ordC cf l k
    if k < o.1.length then
      let g := srtI cf (kidsM l l.length (o.1.getD k 0 + 1))
      (o.1 ++ g, o.2 || dupB cf g)
    else o
theorem ordF_C (l : List PE) (wide : Bool) : ∀ k, ordF l wide k = ordC (cfP l wide) l k
  | 0 => rfl
  | k + 1 => by rw [ordF, ordC, ordF_C l wide k]
theorem ex_ordC : ordC (cfK exL) exL exL.length = ([0, 1, 2, 5, 3, 4], false) := by decide +kernel
theorem ex_ord : ordO exL false = [0, 1, 2, 5, 3, 4] := by rw [ordO, ordF_C, cfP_key ex_small, ex_ordC]
theorem ex_dup : (ordF exL false exL.length).2 = false := by rw [ordF_C, cfP_key ex_small, ex_ordC]
def VAtK (i : Nat) (p x : PE) : Prop :=
  BlockP x.lba ∧ (i = 0 ∨ (NamedP x ∧ 1 ≤ x.par ∧ p.par ≤ x.par ∧ x.par ≤ i ∧ ¬ (1 < i ∧ x.par = p.par ∧ 0 ≤ lexc (keyM 10 false p.id.data.toList) (keyM 10 false x.id.data.toList))))
instance (i : Nat) (p x : PE) : Decidable (VAtK i p x) := by unfold VAtK; infer_instance
theorem vat_key {l : List PE} (h : ∀ x ∈ l, x.id.size ≤ 1) : vatB false l = fun i => decide (VAtK i (l.getD (i - 1) peD) (l.getD i peD)) := by
  funext i
  rw [vatB]
  congr 1
  rw [VAt, VAtK, cmpM_key 10 false _ _ (getD_small h _) (getD_small h _)]
theorem ex_blk : exL.any (fun x => !decide (BlockP x.lba)) = false := by decide +kernel
theorem ex_fin : OrdFin exL false := ⟨by rw [ex_ord]; rfl, ex_dup, ex_blk⟩
theorem ex_nums : numK (ordO exL false) exL.length exL.length = exN := by rw [ex_ord]; decide +kernel
theorem ex_out : outK exL (ordO exL false) exL.length exL.length = exO := by rw [ex_ord]; kernel_rfl
theorem ex_good : ∀ k, 1 ≤ k → k < exL.length → GoodE exL k := by
  intro k h1 h2
  have hk : k = 1 ∨ k = 2 ∨ k = 3 ∨ k = 4 ∨ k = 5 := by have : exL.length = 6 := rfl; omega
  rcases hk with rfl | rfl | rfl | rfl | rfl <;> (unfold GoodE; decide +kernel)
theorem ex_root : RootP (exL.getD 0 peD) := by decide +kernel
theorem ex_validO : pvB false exO = true := by rw [pvB, vat_key ex_smallO]; decide +kernel
theorem ex_validL : pvB false exL = false := by rw [pvB, vat_key ex_small]; decide +kernel
theorem ex_size : sizeM exO = 60 := by decide +kernel
theorem ex_enc1 : encPE false [⟨⟨#[65]⟩, 19, 1⟩] = 0 := by decide +kernel
theorem ex_enc1s : (encPS false [⟨⟨#[65]⟩, 19, 1⟩]).data.toList = [1, 0, 19, 0, 0, 0, 1, 0, 65, 0] := by decide +kernel
theorem ex_enc2 : encPE true exO = 0 := by decide +kernel
theorem ex_enc2s : (encPS true exO).size = 60 := by decide +kernel
theorem ex_dec : pdR true (encPS true exO) = (0, exO) := by kernel_rfl
theorem ex_path : pathR exO 6 = ([⟨#[66]⟩, ⟨#[97]⟩], 0) := by kernel_rfl
theorem ex_find : findR exO [⟨#[65]⟩, ⟨#[68]⟩] = (4, 0) := by decide +kernel
end Go.Proofs.Ytnmlephjhcmbhaa
