/- What Scramble of package scrambler and of the reference return. -/
import Derived.Test.YtmpojdjknahoiaaScrl
namespace Go.Proofs.Ytmpojdjknahoiaa
open Go Go.RowKit
attribute [local irreducible] seqL
set_option maxHeartbeats 400000 in
theorem scramble_err (s : ByteArray) (w : World) (h : s.size ≠ 2352) :
    Calls Try.prog 16 #[.string s] w fun e w' => e = .returned (.tuple #[.string ByteArray.empty, .int .i64 1]) ∧ w = w' := by
  have h1 : (!((s.size : Int) == 2352)) = true := by simp; omega
  go_enter Try.func16, Try.ntmps16
  go_wp2_with fail
  go_ret2
  exact ⟨rfl, rfl⟩
set_option maxHeartbeats 400000 in
theorem refScramble_err (s : ByteArray) (w : World) (h : s.size ≠ 2352) :
    Calls Try.prog 17 #[.string s] w fun e w' => e = .returned (.tuple #[.string ByteArray.empty, .int .i64 1]) ∧ w = w' := by
  have h1 : (!((s.size : Int) == 2352)) = true := by simp; omega
  go_enter Try.func17, Try.ntmps17
  go_wp2_with fail
  go_ret2
  exact ⟨rfl, rfl⟩
theorem str_bytes {P : Program} {src dst e : TypeId} (hs : P.underlying src = some .string) (hd : P.underlying dst = some (.slice e)) (he : P.underlying e = some (.int .u8)) (s : ByteArray) (w : World) :
    ∃ (cap : Nat) (tl : List Value) (m : Nat), s.size ≤ cap ∧ s.size ≤ m ∧ (convert src dst (.string s)).run P w = .ok (.slice (some ⟨w.heap.size, 0, none⟩) s.size cap) (w.drew.alloc (.cells (cb s.data.toList ++ tl).toArray e (m, m + 1))) := by
  have h := run_bytes_of_string (P := P) w src dst e s hs hd he
  refine ⟨grownCap w s.size 0 e, List.replicate (grownCap w s.size 0 e - s.size) (.int .u8 0), (bytesRow s (grownCap w s.size 0 e)).size, grownCap_ge _ _ _ _, ?_, ?_⟩
  · simp [bytesRow]
  · rw [h]
    congr 3
    apply Array.toList_inj.1
    simp [bytesRow, cb]
theorem row_string' {P : Program} {w : World} {B e src dst : Nat} {bs : List UInt8} {tl : List Value} {m : Nat × Nat} {n cap : Nat}
    (hs : P.underlying src = some (.slice e)) (he : P.underlying e = some (.int .u8)) (hd : P.underlying dst = some .string) (hn : bs.length = n)
    (h : w.heap[B]? = some (.cells (cb bs ++ tl).toArray e m)) : (convert src dst (.slice (some ⟨B, 0, none⟩) n cap)).run P w = .ok (.string ⟨bs.toArray⟩) w := by
  rw [run_convert_bytes_arg (P := P) w src e hs he B 0 n cap (bs.map fun b => (b.toNat : Int)) (by simpa using hn) ?_ dst hd]
  · congr 2
    simp only [strOfNums, List.map_map]
    congr 2
    rw [show ((fun n : Int => UInt8.ofNat n.toNat) ∘ fun b : UInt8 => (b.toNat : Int)) = id from by funext b; simp]
    simp
  · intro i hi
    rw [Nat.zero_add, cell_of_row w _ _ _ _ _ h, List.getElem?_toArray, List.getElem?_append_left (by rw [cb_length]; omega)]
    simp [cb, List.getElem?_eq_getElem (show i < bs.length by omega)]
def ScrRel (w : World) (s : ByteArray) (tl : List Value) (m : Nat) (i : Nat) (wr : World) : Prop :=
  i ≤ 2340 ∧ wr.heap[w.heap.size]? = some (.cells (cb (scrL s.data.toList i) ++ tl).toArray 5 (m, m + 1)) ∧ wr.heap[w.heap.size + 1 + 1]? = some (.cells (cb (seqL 2340)).toArray 5 (0, 0)) ∧ Below w.heap.size w wr
set_option maxRecDepth 100000 in
set_option maxHeartbeats 400000 in
theorem scramble_ok (s : ByteArray) (w : World) (h : (s.size : Int) = 2352) :
    Calls Try.prog 16 #[.string s] w fun e w' => e = .returned (.tuple #[.string ⟨(scrL s.data.toList 2340).toArray⟩, .int .i64 0]) ∧ Below w.heap.size w w' := by
  obtain ⟨cap, tl, m, hc, hm, hcv⟩ := str_bytes (P := Try.prog) Try.underlying9 Try.underlying40 Try.underlying5 s w
  have hsz : s.size = 2352 := by omega
  rw [hsz] at hcv hc hm
  have HZ := Lib.hid hsz
  clear hsz
  go_enter Try.func16, Try.ntmps16
  go_wp2_with (go_at_call 21; refine (callsIn_wide.1 (sequence_in 2340 _ (by omega))).mono ?_; rintro e w1 ⟨rfl, hr, hB⟩)
  simp only [World.size_alloc, World.size_drew] at hr hB ⊢
  have HR := Lib.hid hr
  clear hr
  go_loopw [13] (fun i wr => ∃ k : Nat, i = .int .i64 k ∧ ScrRel w s tl m k wr) (fun i _ => 2340 - (intOf i).toNat)
  case atStart =>
    refine ⟨0, rfl, Nat.zero_le _, ?_, HR.out, ?_⟩
    · rw [scrL_zero, hB.block _ (by omega)]
      exact World.alloc_heap_new w _
    · exact ((Below.refl _ w).alloc (Nat.le_refl _) _).drew.trans (hB.mono (by omega))
  case round =>
    obtain ⟨k, rfl, hk, h1, h2, hB'⟩ := hrel
    by_cases hlt : k < 2340
    · have hx0 := cb_get (scrL s.data.toList k) (12 + k) (by rw [scrL_length]; have := HZ.out; have h1 : s.data.toList.length = s.size := Array.length_toList; omega)
      have hx1 := seqL_get 2340 k hlt
      have hset := cb_set (scrL s.data.toList k) tl (12 + k) ((scrL s.data.toList k).getD (12 + k) 0 ^^^ seqB k) (by rw [scrL_length]; have := HZ.out; have h1 : s.data.toList.length = s.size := Array.length_toList; omega)
      have HS : Hid (scrL s.data.toList (k + 1) = (scrL s.data.toList k).set (12 + k) ((scrL s.data.toList k).getD (12 + k) 0 ^^^ seqB k)) := scrL_succ _ _
      generalize (scrL s.data.toList k).getD (12 + k) 0 = x at hx0 hset HS
      generalize seqB k = y at hx1 hset HS
      have c1 : wr.cell? ⟨w.heap.size, 12 + k, none⟩ = some (.int .u8 (x.toNat : Int)) := by
        rw [cell_of_row wr _ _ _ _ _ h1, List.getElem?_toArray, List.getElem?_append_left (List.getElem?_eq_some_iff.1 hx0).1, hx0]
      have f1 : wr.frozen? ⟨w.heap.size, 12 + k, none⟩ = false := by
        simp only [World.frozen?, h1]
        rw [Bool.and_eq_false_iff]
        left
        rw [decide_eq_false_iff_not]
        omega
      have c2 : wr.cell? ⟨w.heap.size + 1 + 1, k, none⟩ = some (.int .u8 (y.toNat : Int)) := by
        rw [cell_of_row wr _ _ _ _ _ h2, List.getElem?_toArray]
        simp [cb, hx1]
      have hxor : bits BinOp.xor IntKind.u8 (x.toNat : Int) (y.toNat : Int) = ((x ^^^ y).toNat : Int) := by
        rw [u8_xor_nat _ _ (UInt8.toNat_lt _) (UInt8.toNat_lt _), UInt8.toNat_xor]
      have H1 := Lib.hid h1
      have H2 := Lib.hid h2
      have HT := Lib.hid hset
      clear h1 h2 hset hx0 hx1
      generalize x ^^^ y = z at hxor HT HS
      have a1 : IntKind.i64.wrap (12 + (k : Int)) = 12 + (k : Int) := by rw [IntKind.wrap_i64]; omega
      have a2 : 0 ≤ 12 + (k : Int) := by omega
      have a3 : 12 + (k : Int) < 2352 := by omega
      have a4 : (12 + (k : Int)).toNat = 12 + k := by omega
      have a5 : (k : Int) < 2340 := by omega
      go_wp2
      refine region_sch (fun w' => w' = wr.drew) [(true, 0), (true, 1), (true, 2), (true, 3), (true, 4), (true, 5), (true, 6), (true, 7), (true, 8), (true, 9), (true, 10)] [11] (by kernel_rfl) (by kernel_rfl) (by rintro ⟨_, _, h, _⟩; cases h) (fun _ _ d _ _ h => by cases d <;> exact h) rfl ?_
      simp only [pickM, pickT, List.filterMap_cons, List.filterMap_nil, List.getElem?_cons_zero, List.getElem?_cons_succ, Option.map_some]
      repeat (refine m_float ⟨?_, .inl ⟨?_, .inl ?_⟩, fun K' hK => ?_⟩; rotate_left; rfl; (intro w' hS; subst hS; go_simp; try rfl); (simp only [Act.put, List.setIfInBounds_toArray, List.set_cons_succ, List.set_cons_zero]; refine hK _ ?_; clear hK K'))
      refine m_nil ?_
      show wpList Try.prog _ _ (List.cons _ _) _ _
      go_wp2
      go_roundw
      case rel =>
        refine ⟨k + 1, by go_num, by omega, ?_, ?_, ?_⟩
        · rw [HS.out, ← HT.out]
          exact row_set (12 + k) _ H1.out
        · exact row_other (12 + k) _ H2.out (by omega)
        · exact (hB'.setCell (p := ⟨w.heap.size, 12 + k, none⟩) (Nat.le_refl _) _).drew
      case measure => simp [intOf]; omega
    · obtain rfl : k = 2340 := by omega
      have hcv := row_string' (P := Try.prog) (src := 40) (dst := 9) (n := 2352) (cap := cap) Try.underlying40 Try.underlying5 Try.underlying9 (by rw [scrL_length]; have := HZ.out; have h1 : s.data.toList.length = s.size := Array.length_toList; omega) h1
      have H1 := Lib.hid h1
      have H2 := Lib.hid h2
      clear h1 h2
      go_wp2
      go_ret2
      exact ⟨rfl, hB'⟩
end Go.Proofs.Ytmpojdjknahoiaa
