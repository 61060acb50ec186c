/- ScramblerRecurs: for every input the law returns true and leaves its arguments as they were. No condition. -/
import Derived.Test.YtmpojdjknahoiaaRows
import Derived.Test.YtmpojdjknahoiaaCon
import Derived.WalkKit
import Derived.ProofKit
import Derived.OpenShut
namespace Go.Proofs.Ytmpojdjknahoiaa.scramblerRecurs
open Go Go.ChangeShapes Go.WideShapes Go.ChangeAt Go.RowKit
open Go.ChangeMaps (open_string shut_string)
theorem own : ownKnob Try.prog.godebug = none := by kernel_rfl
theorem bthen {w w1 w2 : World} (h : Below w.heap.size w w1) (k : Below w1.heap.size w1 w2) : Below w.heap.size w w2 := h.trans (k.mono h.size)
/-! ### The mathematics -/
theorem add_pow_div (A b j r : Nat) (h : r < j) : (A + b * 2 ^ j) / 2 ^ r % 2 = A / 2 ^ r % 2 := by
  obtain ⟨d, rfl⟩ : ∃ d, j = r + 1 + d := ⟨j - r - 1, by omega⟩
  have e : b * 2 ^ (r + 1 + d) = 2 ^ r * (2 * (b * 2 ^ d)) := by rw [Nat.pow_add, Nat.pow_succ]; ac_rfl
  rw [e, Nat.add_mul_div_left _ _ (Nat.two_pow_pos r)]
  omega
theorem byteAcc_bit (s : Nat) : ∀ j r, r < j → byteAcc s j / 2 ^ r % 2 = reg (s + r) % 2
  | 0, _, h => absurd h (Nat.not_lt_zero _)
  | j + 1, r, h => by
    rw [byteAcc]
    by_cases hj : r < j
    · rw [add_pow_div _ _ _ _ hj]
      exact byteAcc_bit s j r hj
    · obtain rfl : r = j := by omega
      have h2 := byteAcc_lt s r
      rw [Nat.mul_comm, Nat.add_mul_div_left _ _ (Nat.two_pow_pos r), Nat.div_eq_of_lt h2]
      omega
theorem seqB_bit (q r : Nat) (h : r < 8) : (seqB q).toNat / 2 ^ r % 2 = reg (8 * q + r) % 2 := by
  have h8 := byteAcc_lt (8 * q) 8
  have hm : byteAcc (8 * q) 8 % 2 ^ 8 = byteAcc (8 * q) 8 := Nat.mod_eq_of_lt (by omega)
  rw [seqB, UInt8.toNat_ofNat', hm]
  exact byteAcc_bit _ 8 r h
theorem stp_down (Z i : Nat) (h : i < 14) : stp Z / 2 ^ i % 2 = Z / 2 ^ (i + 1) % 2 := by
  have e : stp Z = Z / 2 + (Z % 2 + Z / 2 % 2) % 2 * 2 ^ 14 := rfl
  rw [e, add_pow_div _ _ _ _ h, Nat.div_div_eq_div_mul, Nat.pow_succ, Nat.mul_comm 2]
theorem iter_down (Y : Nat) : ∀ j, j ≤ 14 → iter j Y / 2 ^ (14 - j) % 2 = Y / 2 ^ 14 % 2
  | 0, _ => rfl
  | j + 1, h => by
    rw [iter_succ, stp_down _ _ (by omega), show 14 - (j + 1) + 1 = 14 - j by omega]
    exact iter_down Y j (by omega)
theorem reg_recurs (n : Nat) : reg (n + 15) % 2 = (reg n % 2 + reg (n + 1) % 2) % 2 := by
  have h1 : reg (n + 15) = iter 14 (reg (n + 1)) := by rw [← reg_add]
  have h2 := iter_down (reg (n + 1)) 14 (by omega)
  have h3 : reg (n + 1) = stp (reg n) := rfl
  have h4 := reg_lt n
  rw [h1]
  rw [Nat.sub_self, Nat.pow_zero, Nat.div_one] at h2
  rw [h2, h3]
  have hs : stp (reg n) = reg n / 2 + (reg n % 2 + reg n / 2 % 2) % 2 * 16384 := rfl
  rw [hs]
  generalize reg n = X at *
  have hc : (X % 2 + X / 2 % 2) % 2 < 2 := Nat.mod_lt _ (by decide)
  generalize hC : (X % 2 + X / 2 % 2) % 2 = c at *
  rw [show (2 : Nat) ^ 14 = 16384 from rfl]
  have hq : X / 2 < 16384 := by omega
  clear h1 h2 h3 h4
  have e1 : (X / 2 + c * 16384) / 16384 % 2 = c := by
    rw [Nat.add_mul_div_right _ _ (by decide), Nat.div_eq_of_lt hq]
    omega
  have e2 : (X / 2 + c * 16384) % 2 = X / 2 % 2 := by
    generalize X / 2 = q
    omega
  rw [e1, e2, hC]
/-! ### The walk -/
def bitOf (S : ByteArray) (k : Nat) : Nat := (S.data.toList.getD (k / 8) 0).toNat / 2 ^ (k % 8) % 2
theorem u8_bit (x r : Nat) (hx : x < 256) : bits BinOp.and IntKind.u8 ((x : Int) / 2 ^ r) 1 = ((x / 2 ^ r % 2 : Nat) : Int) := by
  have e : (x : Int) / 2 ^ r = ((x / 2 ^ r : Nat) : Int) := by simp
  have h : x / 2 ^ r < 256 := Nat.lt_of_le_of_lt (Nat.div_le_self _ _) hx
  rw [e, show (1 : Int) = ((1 : Nat) : Int) from rfl, u8_and_nat _ _ h (by decide), nat_mask1]
set_option maxRecDepth 100000 in
set_option maxHeartbeats 400000 in
theorem bit_ok (S : ByteArray) (k B : Nat) (w : World) (hk : k < 8 * S.size) (hm : S.size ≤ 65536) (hc : w.cell? ⟨B, 0, none⟩ = some (.string S)) :
    Calls Try.prog 15 #[.int .i64 k, .pointer (some ⟨B, 0, none⟩)] w fun e w' => e = .returned (.int .u8 (bitOf S k)) ∧ w = w' := by
  have hq0 : 0 ≤ (k : Int) / 8 := by omega
  have hq1 : (k : Int) / 8 < (S.size : Int) := by omega
  have hq2 : ((k : Int) / 8).toNat = k / 8 := by omega
  go_enter Try.func15, Try.ntmps15
  go_wp2
  go_ret
  refine ⟨ret_int ?_, rfl⟩
  rw [u8_bit _ _ (UInt8.toNat_lt _), bitOf]
  have hd : k / 8 < S.data.toList.length := by
    have h1 : S.data.toList.length = S.size := Array.length_toList
    omega
  rw [List.getD_eq_getElem?_getD, List.getElem?_eq_getElem hd]
  rfl
/-- What Sequence gives, by its bits. -/
theorem seq_bits (n : Nat) (h : (n : Int) ≤ 65536) : ∃ S : ByteArray, S.size = n ∧ (∀ k, k < 8 * n → bitOf S k = reg k % 2) ∧
    ∀ w, Calls Try.prog 11 #[.int .i64 n] w fun e w' => e = .returned (.tuple #[.string S, .int .i64 0]) ∧ Below w.heap.size w w' := by
  refine ⟨⟨(seqL n).toArray⟩, ?_, fun k hk => ?_, fun w => seq_ok n w h⟩
  · show (seqL n).toArray.size = n
    simp [seqL_length]
  · have hq : k / 8 < n := by omega
    have e : (seqL n).getD (k / 8) 0 = seqB (k / 8) := by simp [seqL, hq, List.getD]
    show ((seqL n).getD (k / 8) 0).toNat / 2 ^ (k % 8) % 2 = _
    rw [e, seqB_bit _ _ (Nat.mod_lt _ (by decide)), Nat.div_add_mod]
theorem cell_new (w : World) (S : ByteArray) : (w.alloc (.cells #[.string S] 9)).cell? ⟨w.heap.size, 0, none⟩ = some (.string S) := (Boxed.new w 9 (.string S)).cell
theorem below_alloc {w w' : World} {o : Obj} (h : Below (w.alloc o).heap.size (w.alloc o) w') : Below w.heap.size w w' := ((Below.refl _ w).alloc (Nat.le_refl _) o).trans (h.mono (by simp))
set_option maxRecDepth 100000 in
set_option maxHeartbeats 1000000 in
theorem walkIn (a0 a1 : Int) (n at_ : Nat) (S : ByteArray) (w : World) (h0 : 0 ≤ a0) (h1 : a0 ≤ 65535) (h2 : 0 ≤ a1) (h3 : a1 ≤ 65535)
    (hn : a0 % 4096 + 4 = (n : Int)) (hS : (S.size : Int) = (n : Int)) (hat : a1 % (8 * (n : Int) - 15) = (at_ : Int)) (hlt : at_ + 15 < 8 * n)
    (c1 : ∀ w, Calls Try.prog 11 #[.int .i64 n] w fun e w' => e = .returned (.tuple #[.string S, .int .i64 0]) ∧ Below w.heap.size w w')
    (X p q r : Nat) (hX1 : 1 ≤ (X : Int)) (hX2 : (X : Int) ≤ 32767) (hxor : bits BinOp.xor IntKind.u8 (q : Int) (r : Int) = (p : Int)) (hand : bits BinOp.and IntKind.i64 (X : Int) 1 = (q : Int)) (hq8 : (q : Int) ≤ 1)
    (c2 : ∀ w, Calls Try.prog 13 #[.int .i64 at_] w fun e w' => e = .returned (.tuple #[.int .i64 X, .int .i64 0]) ∧ Below w.heap.size w w')
    (c3 : ∀ B w, w.cell? ⟨B, 0, none⟩ = some (.string S) → Calls Try.prog 15 #[.int .i64 ((at_ : Int) + 15), .pointer (some ⟨B, 0, none⟩)] w fun e w' => e = .returned (.int .u8 p) ∧ w = w')
    (c4 : ∀ B w, w.cell? ⟨B, 0, none⟩ = some (.string S) → Calls Try.prog 15 #[.int .i64 (at_ : Int), .pointer (some ⟨B, 0, none⟩)] w fun e w' => e = .returned (.int .u8 q) ∧ w = w')
    (c5 : ∀ B w, w.cell? ⟨B, 0, none⟩ = some (.string S) → Calls Try.prog 15 #[.int .i64 ((at_ : Int) + 1), .pointer (some ⟨B, 0, none⟩)] w fun e w' => e = .returned (.int .u8 r) ∧ w = w') :
    Calls Try.prog 4 #[.int .u16 a0, .int .u16 a1] w fun e w' => e = .returned (.bool true) ∧ Below w.heap.size w w' := by
  go_enter Try.func4, Try.ntmps4
  go_wp2_with (first | (go_at_call 10; refine (awake_ok _).mono ?_; rintro e w1 ⟨rfl, hB1⟩) | (go_at_call 11; (with_reducible refine (c1 _).mono ?_); rintro e w2 ⟨rfl, hB2⟩) | (go_at_call 13; (with_reducible refine (c2 _).mono ?_); rintro e w3 ⟨rfl, hB3⟩; have hc := (hB3.cell (p := ⟨w2.heap.size, 0, none⟩) (by simp)).trans (cell_new w2 S)) | (go_at_call 15; (with_reducible refine (c3 _ _ hc).mono ?_); rintro e w4 ⟨rfl, rfl⟩) | (go_at_call 15; (with_reducible refine (c4 _ _ hc).mono ?_); rintro e w4 ⟨rfl, rfl⟩) | (go_at_call 15; (with_reducible refine (c5 _ _ hc).mono ?_); rintro e w4 ⟨rfl, rfl⟩))
  go_ret
  exact ⟨rfl, bthen (bthen hB1 hB2) (below_alloc hB3)⟩
theorem walk (a0 a1 : Int) (w0 : (Lit.int .u16 a0).wf = true) (w1 : (Lit.int .u16 a1).wf = true) (w : World) :
    Calls Try.prog 4 #[.int .u16 a0, .int .u16 a1] w fun e w' => e = .returned (.bool true) ∧ Below w.heap.size w w' := by
  have b0 := bounds_u16 w0
  have b1 := bounds_u16 w1
  obtain ⟨n, hn⟩ : ∃ n : Nat, a0 % 4096 + 4 = n := ⟨(a0 % 4096 + 4).toNat, by omega⟩
  have hp : 0 < 8 * (n : Int) - 15 := by omega
  have hm0 := Int.emod_nonneg a1 (show 8 * (n : Int) - 15 ≠ 0 by omega)
  have hm1 := Int.emod_lt_of_pos a1 hp
  obtain ⟨k, hk⟩ : ∃ k : Nat, a1 % (8 * (n : Int) - 15) = k := ⟨(a1 % (8 * (n : Int) - 15)).toNat, by omega⟩
  rw [hk] at hm0 hm1
  obtain ⟨S, hS, hb, c1⟩ := seq_bits n (by omega)
  have hr := reg_recurs k
  have hX := reg_lt k
  have c3 := fun B w (hc : w.cell? ⟨B, 0, none⟩ = some (.string S)) => bit_ok S (k + 15) B w (by omega) (by omega) hc
  have c4 := fun B w (hc : w.cell? ⟨B, 0, none⟩ = some (.string S)) => bit_ok S k B w (by omega) (by omega) hc
  have c5 := fun B w (hc : w.cell? ⟨B, 0, none⟩ = some (.string S)) => bit_ok S (k + 1) B w (by omega) (by omega) hc
  rw [hb _ (by omega)] at c3 c4 c5
  refine walkIn a0 a1 n k S w b0.1 b0.2 b1.1 b1.2 hn (by omega) hk (by omega) c1 (reg k) (reg (k + 15) % 2) (reg k % 2) (reg (k + 1) % 2) (by have := reg_pos k; omega) (by omega) ?_ ?_ (by omega)
    (fun w => reg13_ok k w (by omega)) c3 c4 c5
  · rw [u8_xor_nat _ _ (by omega) (by omega), xor_bit _ _ (by omega) (by omega), hr]
  · rw [show (1 : Int) = ((1 : Nat) : Int) from rfl, i64_and (by omega) (by decide), nat_mask1]
set_option maxRecDepth 100000 in
theorem lifted (os : Os) (started : os.Started) (H : Type) (enc : TypeId × Value → H) :
    ReturnsInHanded {} Try.checked os 4 .any (Rows.scramblerRecursSpec.pre6 enc Try.prog Try.f4 Rows.scramblerRecursRow.domain false) (Rows.scramblerRecursSpec.post enc Try.prog Try.f4 false true false false) := by
  refine returnsInHanded_of_change (C := Try.checked) own started (by kernel_rfl) Try.func4
    (ChangeSpec.witness6 (enc := enc) (C := Try.checked) false ⟨#[], #[.int .u16 0, .int .u16 0], []⟩ 8 (by kernel_rfl) (by kernel_rfl) (by kernel_rfl) (by kernel_rfl)) ?_
  intro W base args ds gs before hval0 hW hcnd _
  have hval : ∀ (j : Nat) t v, Try.f4.params[j]? = some t → args[j]? = some v → Value.okWide Try.prog W .any base t v := hval0
  have hW' := hW
  obtain ⟨p, q, hA0, hV, rfl, hfz, hnd⟩ := hW
  have hA : DataW.TrodAll enc Try.prog W 0 (fun _ => true) true Try.f4.params.toList args.toList ds p := hA0
  rw [Try.params4] at hA hval
  obtain ⟨v0, vs0, d0, ds0, p0, q0, hargs, rfl, rfl, h0, r0⟩ := trodAll_cons hA
  obtain ⟨v1, vs1, d1, ds1, p1, q1, rfl, rfl, rfl, h1, r1⟩ := trodAll_cons r0
  obtain ⟨rfl, rfl, rfl⟩ := trodAll_nil r1
  obtain rfl : args = #[v0, v1] := by cases args; simp_all
  obtain ⟨rfl, rfl⟩ := trodVars_none hV
  obtain ⟨a0, rfl, rfl, rfl, w0⟩ := open_int Try.underlying29 (hval 0 29 v0 rfl rfl) h0
  obtain ⟨a1, rfl, rfl, rfl, w1⟩ := open_int Try.underlying29 (hval 1 29 v1 rfl rfl) h1
  clear hA0 hval0
  simp only [List.append_nil] at hW'
  refine (walk a0 a1 w0 w1 W).mono fun e W' ⟨he, bel⟩ => ?_
  subst he
  exact ⟨_, rfl, _, _, _, [], _, [], hW', trodAll_mk1 (shut_bool Try.underlying4 _), (trodAll_cons_mk (shut_int Try.underlying29 w0) (trodAll_cons_mk (shut_int Try.underlying29 w1) trodAll_mk0)), rfl, bel.frame _, fun h => by cases h⟩
theorem over : Rows.scramblerRecursRow.holds Try.pinned (OpenSpec.ofChange Rows.scramblerRecursSpec) :=
  OpenClaim.holds_of_wide 4 Try.f4 rfl rfl rfl rfl rfl rfl rfl ⟨rfl, rfl, rfl, rfl, rfl⟩ rfl rfl rfl rfl rfl (by kernel_rfl) Try.func4 (by kernel_rfl)
    (of_decide_eq_true (by kernel_rfl)) (by unfold Func.isWrapper; first | (rw [if_pos (by decide +kernel)]; kernel_rfl) | (rw [if_neg (by decide +kernel)]; exact ⟨rfl, rfl⟩))
    (fun os started H enc _ => lifted os started H enc)
theorem proved : Rows.ScramblerRecursSaid := over
#print axioms proved
end Go.Proofs.Ytmpojdjknahoiaa.scramblerRecurs
