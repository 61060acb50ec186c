/- Replace of both: one value. -/
import Derived.Test.YtocncjimepnlcaaGreatCng
import Derived.Test.YtocncjimepnlcaaGreatCnf
namespace Go.Proofs.YtocncjimepnlcaaGreat
set_option linter.unusedSimpArgs false
set_option linter.unusedVariables false
open Go Go.RowKit
def repE (s block : Int) (l : List Sp) : Int := if validB s l = false then 1 else if block < 0 ∨ 4294967279 < block then 2 else if bestK l l.length = -1 then 12 else if s = 4294967295 then 7 else 0
def repM (s block : Int) (l : List Sp) : Int := if repE s block l = 0 then (at_ l (bestK l l.length).toNat).2 else 0
def repS (s block : Int) (l : List Sp) : Int := if repE s block l = 0 then s + 1 else 0
def repL (s block : Int) (l : List Sp) : List Sp := if repE s block l = 0 then outR l (bestK l l.length).toNat (block - block % 8) l.length else []
def RepR (s block : Int) (l : List Sp) (w : World) (e : Ending) (w' : World) : Prop :=
  ∃ v, e = .returned (.tuple #[.agg #[cN (repS s block l), v], cN (repM s block l), cN (repE s block l)]) ∧ SL w' v (repL s block l) ∧ Below w.heap.size w w'
theorem RepR.bad {s block : Int} {l : List Sp} {w w' : World} {e : Ending} {x : Int} (hx : repE s block l = x) (h0 : x ≠ 0) (he : e = .returned (.tuple #[.agg #[cN 0, .slice none 0 0], cN 0, cN x])) (hb : Below w.heap.size w w') : RepR s block l w e w' := by
  refine ⟨.slice none 0 0, ?_, ?_, hb⟩
  · rw [he, repS, repM, hx, if_neg h0, if_neg h0]
  · rw [repL, hx, if_neg h0]
    exact .inl ⟨rfl, none, 0, rfl⟩
theorem first_un {block : Int} (h0 : 0 ≤ block) (h1 : block ≤ 4294967279) : block - block % 8 ≠ UN := by
  show block - block % 8 ≠ 4294967295
  omega
theorem srep_ok (s block : Int) (v : Value) (l : List Sp) (w : World) (h : SL w v l) : Calls Tryz.prog 16 #[.agg #[cN s, v], cN block] w (RepR s block l w) := by
  cases hv : validB s l with
  | false => exact (replace_bad s block v l w h hv).mono fun e w' ⟨he, hb⟩ => RepR.bad (by rw [repE, if_pos hv]) (by decide) he hb
  | true =>
    have hv' : ¬ validB s l = false := by rw [hv]; decide
    by_cases hf : block < 0 ∨ 4294967279 < block
    · exact (replace_far s block v l w h hv (by omega)).mono fun e w' ⟨he, hb⟩ => RepR.bad (by rw [repE, if_neg hv', if_pos hf]) (by decide) he hb
    · have hun := first_un (block := block) (by omega) (by omega)
      refine (replace_walk s block v l w h hv (by omega) (by omega)).mono fun e w' ⟨hb, hr⟩ => ?_
      rcases hr with ⟨he, hno⟩ | ⟨he, hs, hy⟩ | ⟨v', u, m, he, hsl, hrep, hs⟩
      · exact RepR.bad (by rw [repE, if_neg hv', if_neg hf, if_pos (none_best hun hno)]) (by decide) he hb
      · exact RepR.bad (by rw [repE, if_neg hv', if_neg hf, if_neg (some_best hy), if_pos hs]) (by decide) he hb
      · have hsb := rep_some hrep
        have hE : repE s block l = 0 := by rw [repE, if_neg hv', if_neg hf, if_neg hsb, if_neg hs]
        rcases bestK_spec l l.length (Nat.le_refl _) with h1 | ⟨b, h1, hbl, hbu⟩
        · exact absurd h1.1 hsb
        · obtain ⟨e1, e2⟩ := rep_same hun h1 hbl hbu hrep
          refine ⟨v', ?_, ?_, hb⟩
          · rw [he, repS, repM, hE, if_pos rfl, if_pos rfl, h1, Int.toNat_natCast, e1]
          · rw [repL, hE, if_pos rfl, h1, Int.toNat_natCast, ← e2]
            exact hsl
theorem rsrep_ok (s block : Int) (v : Value) (l : List Sp) (w : World) (h : SL w v l) : Calls Tryz.prog 17 #[.agg #[cN s, v], cN block] w (RepR s block l w) := by
  cases hv : validB s l with
  | false => exact (rreplace_bad s block v l w h hv).mono fun e w' ⟨he, hb⟩ => RepR.bad (by rw [repE, if_pos hv]) (by decide) he hb
  | true =>
    have hv' : ¬ validB s l = false := by rw [hv]; decide
    by_cases hf : block < 0 ∨ 4294967279 < block
    · exact (rreplace_far s block v l w h hv (by omega)).mono fun e w' ⟨he, hb⟩ => RepR.bad (by rw [repE, if_neg hv', if_pos hf]) (by decide) he hb
    · refine (rreplace_walk s block v l w h hv (by omega) (by omega)).mono fun e w' ⟨hb, hr⟩ => ?_
      rcases hr with ⟨he, hno⟩ | ⟨he, hs, b, hy⟩ | ⟨v', b, he, hsl, h1, hbl, hbu, hs⟩
      · exact RepR.bad (by rw [repE, if_neg hv', if_neg hf, if_pos hno]) (by decide) he hb
      · exact RepR.bad (by rw [repE, if_neg hv', if_neg hf, if_neg (by omega), if_pos hs]) (by decide) he hb
      · have hE : repE s block l = 0 := by rw [repE, if_neg hv', if_neg hf, if_neg (by omega), if_neg hs]
        refine ⟨v', ?_, ?_, hb⟩
        · rw [he, repS, repM, hE, if_pos rfl, if_pos rfl, h1, Int.toNat_natCast]
        · rw [repL, hE, if_pos rfl, h1, Int.toNat_natCast]
          exact hsl
theorem repL_len (s block : Int) (l : List Sp) (hl : l.length ≤ 1000) : (repL s block l).length ≤ 1000 := by
  unfold repL
  split
  · exact Nat.le_trans (outR_len _ _ _ _) hl
  · exact Nat.zero_le _
end Go.Proofs.YtocncjimepnlcaaGreat
