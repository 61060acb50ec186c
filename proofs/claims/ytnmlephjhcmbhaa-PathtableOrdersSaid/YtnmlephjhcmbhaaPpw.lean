/- The chapter's example of path tables: awake. -/
import Derived.Test.YtnmlephjhcmbhaaPpv
import Derived.Test.YtnmlephjhcmbhaaPph
namespace Go.Proofs.Ytnmlephjhcmbhaa
set_option linter.unusedSimpArgs false
set_option linter.unusedVariables false
open Go Go.RowKit
theorem RowP_own2 {W : World} {b : Nat} {u : Value} (l : List PE) (h : W.ownsRow b 63 3 u l.length (flatE l)) : ∃ a c, u = .slice a l.length c ∧ RowP W a l ∧ l.length ≤ c := by
  obtain ⟨a, c, rfl, hr⟩ := RowP_own l h
  refine ⟨a, c, rfl, hr, ?_⟩
  rcases h.2 with ⟨e, h0⟩ | ⟨g, cap, cur, e, hb, hg, h1, -⟩
  · omega
  · simp at e
    omega
set_option maxRecDepth 100000 in
set_option maxHeartbeats 400000 in
theorem example22_ok (w : World) : Calls Try.prog 67 #[] w fun e w' => e = .returned (.slice (some ⟨w.heap.size, 0, none⟩) 6 6) ∧ w'.heap[w.heap.size]? = some (.cells (flatE exL).toArray 63 (0, 0)) ∧ Below w.heap.size w w' := by
  go_enter Try.func67, Try.ntmps67
  go_wp2
  go_ret
  exact ⟨rfl, World.alloc_heap_new _ _, bald (Below.refl _ w) _⟩
theorem ex_order (g : Nat) (W : World) (h : W.heap[g]? = some (.cells (flatE exL).toArray 63 (0, 0))) : Calls Try.prog 33 #[.slice (some ⟨g, 0, none⟩) 6 6, .bool false] W fun e w' =>
    ∃ ab ao c b d, e = .returned (.tuple #[.slice (some ⟨ab, ao, none⟩) 6 c, .slice b 6 d, cN 0]) ∧ RowP w' (some ⟨ab, ao, none⟩) exO ∧ 6 ≤ c ∧ w'.ownsRow W.heap.size 3 1 (.slice b 6 d) 6 (ints exN) ∧ Below W.heap.size W w' := by
  refine (porder_good g 0 6 exL false W ⟨by decide, by decide, by decide, by decide, fun e he => by have := ex_small e he; omega, RowP_block h rfl, ex_root, ex_good⟩ ex_fin).mono ?_
  rintro e w' ⟨v, u, rfl, hv, hu, hB⟩
  rw [ex_out] at hv
  rw [ex_nums] at hu
  obtain ⟨a, c, rfl, hr, hc⟩ := RowP_own2 exO hv
  obtain ⟨ab, ao, rfl, -⟩ := hr.addr (by decide)
  obtain ⟨b, d, rfl⟩ := own_formS hu
  exact ⟨ab, ao, c, b, d, rfl, hr, hc, hu, hB⟩
theorem ex_penc1 (S : ByteArray) (hS : S = encPS false [⟨⟨#[65]⟩, 19, 1⟩]) (g : Nat) (W : World) (h : W.heap[g]? = some (.cells #[.string ⟨#[65]⟩, cN 19, cN 1] 63 (0, 0))) : Calls Try.prog 41 #[.slice (some ⟨g, 0, none⟩) 1 1, .bool false] W fun e w' => e = .returned (.tuple #[.string S, cN 0]) ∧ Below W.heap.size W w' := by
  have := penc_ok (some ⟨g, 0, none⟩) 1 [⟨⟨#[65]⟩, 19, 1⟩] false W (RowP_block (l := [⟨⟨#[65]⟩, 19, 1⟩]) h rfl)
  unfold PeEnd at this
  rw [← hS, ex_enc1] at this
  exact this
theorem ex_penc2 (S : ByteArray) (hS : S = encPS true exO) (a : Option Addr) (c : Nat) (W : World) (h : RowP W a exO) : Calls Try.prog 41 #[.slice a 6 c, .bool true] W fun e w' => e = .returned (.tuple #[.string S, cN 0]) ∧ Below W.heap.size W w' := by
  have := penc_ok a c exO true W h
  unfold PeEnd at this
  rw [← hS, ex_enc2] at this
  exact this
theorem ex_pdec (S : ByteArray) (hS : S = encPS true exO) (W : World) : Calls Try.prog 42 #[.string S, .bool true] W fun e w' => ∃ a c, e = .returned (.tuple #[.slice a 6 c, cN 0]) ∧ RowP w' a exO ∧ Below W.heap.size W w' := by
  have := pdecb_ok S W (by rw [hS, ex_enc2s]; decide)
  rw [hS, ex_dec] at this
  rw [hS]
  refine this.mono ?_
  rintro e w' ⟨v, rfl, hv, hB⟩
  obtain ⟨a, c, rfl, hr⟩ := RowP_own exO hv
  exact ⟨a, c, rfl, hr, hB⟩
def exP : List ByteArray := [⟨#[66]⟩, ⟨#[97]⟩]
theorem ex_ppath (a : Option Addr) (c : Nat) (W : World) (h : RowP W a exO) : Calls Try.prog 36 #[.slice a 6 c, cN 6] W fun e w' => ∃ b d, e = .returned (.tuple #[.slice b 2 d, cN 0]) ∧ w'.ownsRow W.heap.size 9 1 (.slice b 2 d) 2 (strB exP) ∧ Below W.heap.size W w' := by
  have := ppath_ok a c exO 6 W (by decide) h
  rw [ex_path] at this
  refine this.mono ?_
  rintro e w' ⟨v, rfl, hv, hB⟩
  obtain ⟨b, d, rfl⟩ := own_formS hv
  exact ⟨b, d, rfl, hv, hB⟩
theorem RowB_block {W : World} {g : Nat} {l : List ByteArray} (h : W.heap[g]? = some (.cells (strB l).toArray 9 (0, 0))) : RowB W (some ⟨g, 0, none⟩) l := fun k hk => ⟨g, 0, rfl, lt_of_block h, by rw [Nat.zero_add, Lib.cell_of_heap h, strB_get l k hk]⟩
theorem ex_pfind (a : Option Addr) (c g : Nat) (W : World) (hc : 6 ≤ c) (h : RowP W a exO) (hg : W.heap[g]? = some (.cells #[.string ⟨#[65]⟩, .string ⟨#[68]⟩] 9 (0, 0))) : Calls Try.prog 38 #[.slice a 6 c, .slice (some ⟨g, 0, none⟩) 2 2] W fun e w' => e = .returned (.tuple #[cN 4, cN 0]) ∧ Below W.heap.size W w' := by
  have := pfind_ok a c exO (some ⟨g, 0, none⟩) 2 [⟨#[65]⟩, ⟨#[68]⟩] W (by decide) (by decide) hc h (RowB_block (l := [⟨#[65]⟩, ⟨#[68]⟩]) hg)
  rw [ex_find] at this
  exact this
theorem ex_eqi (B : Nat) (b : Option Addr) (d g : Nat) (W : World) (h1 : W.ownsRow B 3 1 (.slice b 6 d) 6 (ints exN)) (hg : W.heap[g]? = some (.cells #[cN 1, cN 2, cN 3, cN 5, cN 6, cN 4] 3 (0, 0))) :
    Calls Try.prog 25 #[.slice b 6 d, .slice (some ⟨g, 0, none⟩) 6 6] W fun e w' => e = .returned (.bool true) ∧ Below W.heap.size W w' := by
  have := equal_own (l := exN) (m := exN) h1 (own_row (n := 6) exN rfl rfl (by decide) hg) (by decide) (by decide)
  rw [show (exN == exN) = true from by decide] at this
  exact this
theorem ex_eqs (B : Nat) (b : Option Addr) (d g : Nat) (W : World) (h1 : W.ownsRow B 9 1 (.slice b 2 d) 2 (strB exP)) (hg : W.heap[g]? = some (.cells #[.string ⟨#[66]⟩, .string ⟨#[97]⟩] 9 (0, 0))) :
    Calls Try.prog 40 #[.slice b 2 d, .slice (some ⟨g, 0, none⟩) 2 2] W fun e w' => e = .returned (.bool true) ∧ Below W.heap.size W w' := by
  obtain ⟨a', c', e, hr⟩ := RowB_own exP h1
  simp only [Value.slice.injEq] at e
  obtain ⟨rfl, -, rfl⟩ := e
  obtain ⟨b', o', rfl, -, -⟩ := hr 0 (by decide)
  refine (Try.slices_Equal_string b' o' 2 d g 0 2 2 exP exP W (by decide) (by decide) (by decide) (by decide) (fun j hj => ?_) (fun j hj => ?_)).mono ?_
  · obtain ⟨b2, o2, e2, -, hc⟩ := hr j hj
    simp only [Option.some.injEq, Addr.mk.injEq] at e2
    obtain ⟨rfl, rfl, -⟩ := e2
    exact hc
  · rw [Nat.zero_add, Lib.cell_of_heap hg]
    exact strB_get exP j hj
  · rintro e w' ⟨rfl, q, rfl⟩
    exact ⟨by rw [decide_eq_true rfl], below_drewN (Below.refl _ _) q⟩
theorem ex_psize (a : Option Addr) (c : Nat) (W : World) (h : RowP W a exO) : Calls Try.prog 43 #[.slice a 6 c] W fun e w' => e = .returned (cN 60) ∧ Below W.heap.size W w' := by
  have := psize_ok a c exO W (by decide) (fun x hx => by have := ex_smallO x hx; omega) h
  rw [ex_size] at this
  exact this
theorem ex_psame (a a2 : Option Addr) (c c2 : Nat) (W : World) (h : RowP W a exO) (h2 : RowP W a2 exO) : Calls Try.prog 35 #[.slice a 6 c, .slice a2 6 c2] W fun e w' => e = .returned (.bool true) ∧ Below W.heap.size W w' := by
  have := psame_ok a c exO a2 c2 exO W (by decide) h h2
  rw [(pesEq_iff exO exO).2 rfl] at this
  exact this
theorem ex_pvalid (a : Option Addr) (c : Nat) (W : World) (h : RowP W a exO) : Calls Try.prog 31 #[.slice a 6 c, .bool false] W fun e w' => e = .returned (.bool true) ∧ Below W.heap.size W w' := by
  have := pvalid_ok a c exO false W h (fun x hx => by have := ex_smallO x hx; omega)
  rw [ex_validO] at this
  exact this
theorem ex_pvalid2 (g : Nat) (W : World) (h : W.heap[g]? = some (.cells (flatE exL).toArray 63 (0, 0))) : Calls Try.prog 31 #[.slice (some ⟨g, 0, none⟩) 6 6, .bool false] W fun e w' => e = .returned (.bool false) ∧ Below W.heap.size W w' := by
  have := pvalid_ok (some ⟨g, 0, none⟩) 6 exL false W (RowP_block h rfl) (fun x hx => by have := ex_small x hx; omega)
  rw [ex_validL] at this
  exact this
end Go.Proofs.Ytnmlephjhcmbhaa
