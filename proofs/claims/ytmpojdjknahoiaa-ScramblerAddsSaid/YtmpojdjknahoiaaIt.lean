/- The iterator of package scrambler: it hands on the states of the register, one by one, till a round says 'no more'. -/
import Derived.Test.YtmpojdjknahoiaaInf
import Derived.Test.YtmpojdjknahoiaaBits
import Derived.Shelf.Abstract
import Derived.OwnWalkIn
import Derived.TacticsInMore
import Derived.LoopNIn
import Derived.LoopIn
import Derived.Sort.LoopGhostIn
namespace Go.Proofs.Ytmpojdjknahoiaa
open Go Go.RowKit Go.Shelf
attribute [local go_sem] Oper.semAt_some
set_option maxHeartbeats 400000 in
theorem regs_inf (F : Fence) (n : Nat) (h25 : F.fn 25) (hro : F.round = none) (hn : 1 ≤ n) (N : Nat) :
    SeqInf F n Try.prog 25 #[] (fun k => #[.int .i64 (reg k)]) N := by
  intro l J Jx W hY h0
  refine callsIn_of_wp Try.func25 rfl h25 ?_ hro
  simp only [Try.ntmps25, List.size_toArray, List.length_cons, List.length_nil, Nat.reduceAdd, Nat.reduceSub, Array.replicate_succ, Array.replicate_zero, List.push_toArray, List.append_toArray, List.nil_append, List.cons_append, Array.append_empty]
  gi_wp2
  gi_loopg [2] (N + 1) (fun gh r wr => ∃ k, gh + k = N + 1 ∧ r = .int .i64 (reg k) ∧ J k wr)
  case atStart => exact ⟨0, rfl, rfl, h0⟩
  case round =>
    obtain ⟨k, hgk, rfl, hJ⟩ := hrel
    obtain ⟨hkN, fn, tmps, assign, body, hy, hR⟩ := hY k wr hJ
    have hr := reg_lt k
    have HS : Hid (reg (k + 1) = stp (reg k)) := rfl
    generalize hX : reg k = X at *
    have HX := Lib.hid hX
    clear hX
    gi_wp2
    refine hR.mono ?_
    rintro e W' (⟨rfl, hJ'⟩ | ⟨rfl, hJx⟩)
    · gi_wp2
      gi_roundg (gk - 1)
      case rel => exact ⟨k + 1, by omega, by rw [HS.out]; exact congrArg (Value.int .i64) (step_bits X hr), hJ'⟩
      case measure => omega
    · gi_wp2
      go_end0
      exact ⟨⟨_, rfl⟩, k, hJx⟩
end Go.Proofs.Ytmpojdjknahoiaa
