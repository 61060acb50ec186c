/- Small laws of no program: integers' bits, rows of bytes, strings and slices of bytes, blocks of the heap. -/
import Derived.WalkKit
import Derived.WalkSpells
import Derived.WalkLawsBesides
import Derived.Lib.Hide
import Derived.Lib.SlicesS
import Derived.Lib.Walk
import Derived.Lib.AppendStr
import Derived.Lib.Builder
namespace Go.Proofs.YtocncjimepnlcaaGreatDoor
set_option linter.unusedSimpArgs false
set_option linter.unusedVariables false
open Go Go.RowKit
theorem wraps_i64 (n : Int) (h0 : 0 ≤ n) (h1 : n < 2 ^ 62) : IntKind.i64.wrap n = n := by rw [IntKind.wrap_i64]; omega
theorem i64_and {a b : Nat} (ha : a < 2 ^ 62) (hb : b < 2 ^ 62) : bits .and .i64 (a : Int) (b : Int) = ((a &&& b : Nat) : Int) := (bits_nat .i64 62 (by decide) wraps_i64 a b ha hb).1
theorem i64_or {a b : Nat} (ha : a < 2 ^ 62) (hb : b < 2 ^ 62) : bits .or .i64 (a : Int) (b : Int) = ((a ||| b : Nat) : Int) := (bits_nat .i64 62 (by decide) wraps_i64 a b ha hb).2
theorem i64_xor {a b : Nat} (ha : a < 2 ^ 62) (hb : b < 2 ^ 62) : bits .xor .i64 (a : Int) (b : Int) = ((a ^^^ b : Nat) : Int) := by
  have hp : 2 ^ 62 ≤ 2 ^ IntKind.i64.bits := by decide
  have ha' : a % 2 ^ IntKind.i64.bits = a := Nat.mod_eq_of_lt (Nat.lt_of_lt_of_le ha hp)
  have hb' : b % 2 ^ IntKind.i64.bits = b := Nat.mod_eq_of_lt (Nat.lt_of_lt_of_le hb hp)
  simp only [bits, BitVec.ofInt_natCast, BitVec.toNat_xor, BitVec.toNat_ofNat, ha', hb']
  exact wraps_i64 _ (Int.natCast_nonneg _) (by exact_mod_cast Nat.xor_lt_two_pow ha hb)
theorem ret_int {k : IntKind} {a b : Int} (h : a = b) : Ending.returned (.int k a) = .returned (.int k b) := by rw [h]
def cb (bs : List UInt8) : List Value := bs.map fun b => .int .u8 (b.toNat : Int)
theorem cb_length (bs : List UInt8) : (cb bs).length = bs.length := by simp [cb]
theorem cb_snoc (bs : List UInt8) (b : UInt8) : cb (bs ++ [b]) = cb bs ++ [.int .u8 (b.toNat : Int)] := by simp [cb]
theorem own_bytes_string {P : Program} {w : World} {base e src dst n : Nat} {v : Value} {bs : List UInt8}
    (hs : P.underlying src = some (.slice e)) (he : P.underlying e = some (.int .u8)) (hd : P.underlying dst = some .string)
    (h : w.ownsRow base e 1 v n (cb bs)) : (convert src dst v).run P w = .ok (.string ⟨bs.toArray⟩) w := by
  have hlen : bs.length = n := by have := h.1; simpa [cb_length] using this
  rcases h.2 with ⟨rfl, rfl⟩ | ⟨g, cap, cur, rfl, hb, hg, hnc, hcm, hcs, htake⟩
  · obtain rfl : bs = [] := List.eq_nil_of_length_eq_zero hlen
    exact run_convert_bytes_nil (P := P) w src e hs he 0 0 dst hd
  · rw [run_convert_bytes_arg (P := P) w src e hs he g 0 n cap (bs.map fun b => (b.toNat : Int)) (by simpa using hlen) ?_ dst hd]
    · congr 2
      simp only [strOfNums, List.map_map]
      congr 2
      rw [show ((fun n : Int => UInt8.ofNat n.toNat) ∘ fun b : UInt8 => (b.toNat : Int)) = id from by funext b; simp]
      simp
    · intro i hi
      have hc := World.ownsRow.cellAt h i (by omega)
      rw [Nat.zero_add, hc]
      simp [cb, List.getElem?_eq_getElem (show i < bs.length by omega)]

theorem make_bytes {P : Program} {t e : TypeId} (ht : P.underlying t = some (.slice e)) (hinfo : (P.info? e).map (fun i => (i.zero, i.size, i.bytes)) = some (some (.int .u8 0), 1, 1)) (n : Nat) (hn : n ≤ 140737488355328) (w : World) :
    (Instr.makeSlice t (.int .i64 n) (.int .i64 n)).run P w = .ok (.slice (some ⟨w.heap.size, 0, none⟩) n n) (w.alloc (.cells (Array.replicate n (.int .u8 0)) e)) := by
  obtain ⟨i0, hi, hz0, hz1, hz2⟩ := info_parts hinfo
  rw [run_make (P := P) w t e i0 _ ht hi hz0 .i64 .i64 n n (by omega) (by omega) (by rw [hz2]; omega) (by omega), hz1]
  have : madeCells (Value.int IntKind.u8 0).cells ((n : Int).toNat * 1) = Array.replicate n (Value.int IntKind.u8 0) := by
    apply Array.toList_inj.1
    rw [show (Value.int IntKind.u8 0).cells = #[Value.int IntKind.u8 0] from rfl, toList_madeCells_one]
    simp
  rw [this]
  rfl
theorem heap_alloc_get (w : World) (o : Obj) (k : Nat) : (w.alloc o).heap[k]? = if k = w.heap.size then some o else w.heap[k]? := by
  show (w.heap.push o)[k]? = _
  rw [Array.getElem?_push]
theorem row_set {W : World} {B : Nat} {cur : Array Value} {t : TypeId} {m : Nat × Nat} (i : Nat) (v : Value) (h : W.heap[B]? = some (.cells cur t m)) :
    (W.setCell ⟨B, i, none⟩ v).heap[B]? = some (.cells (cur.setIfInBounds i v) t m) := by
  obtain ⟨hlt, hk⟩ := Array.getElem?_eq_some_iff.1 h
  show (W.heap.modify B _)[B]? = _
  rw [Array.getElem?_eq_getElem (by rw [Array.size_modify]; exact hlt), Array.getElem_modify_self, hk]
  rfl
theorem row_other {W : World} {B B' : Nat} {o : Obj} (i : Nat) (v : Value) (h : W.heap[B]? = some o) (hne : B ≠ B') : (W.setCell ⟨B', i, none⟩ v).heap[B]? = some o :=
  (Below.heap_setCell W _ v B hne).trans h
theorem row_string {P : Program} {w : World} {B e src dst : Nat} {bs : List UInt8} {n cap : Nat}
    (hs : P.underlying src = some (.slice e)) (he : P.underlying e = some (.int .u8)) (hd : P.underlying dst = some .string) (hn : bs.length = n)
    (h : w.heap[B]? = some (.cells (cb bs).toArray e (0, 0))) : (convert src dst (.slice (some ⟨B, 0, none⟩) n cap)).run P w = .ok (.string ⟨bs.toArray⟩) w := by
  rw [run_convert_bytes_arg (P := P) w src e hs he B 0 n cap (bs.map fun b => (b.toNat : Int)) (by simpa using hn) ?_ dst hd]
  · congr 2
    simp only [strOfNums, List.map_map]
    congr 2
    rw [show ((fun n : Int => UInt8.ofNat n.toNat) ∘ fun b : UInt8 => (b.toNat : Int)) = id from by funext b; simp]
    simp
  · intro i hi
    rw [Nat.zero_add, cell_of_row w _ _ _ _ _ h]
    simp [cb, List.getElem?_eq_getElem (show i < bs.length by omega)]
theorem str_bytes {P : Program} {src dst e : TypeId} (hs : P.underlying src = some .string) (hd : P.underlying dst = some (.slice e)) (he : P.underlying e = some (.int .u8)) (s : ByteArray) (w : World) :
    ∃ (cap : Nat) (tl : List Value) (m : Nat), s.size ≤ cap ∧ s.size ≤ m ∧ (convert src dst (.string s)).run P w = .ok (.slice (some ⟨w.heap.size, 0, none⟩) s.size cap) (w.drew.alloc (.cells (cb s.data.toList ++ tl).toArray e (m, m + 1))) := by
  have h := run_bytes_of_string (P := P) w src dst e s hs hd he
  refine ⟨grownCap w s.size 0 e, List.replicate (grownCap w s.size 0 e - s.size) (.int .u8 0), (bytesRow s (grownCap w s.size 0 e)).size, grownCap_ge _ _ _ _, ?_, ?_⟩
  · simp [bytesRow]
  · rw [h]
    congr 3
    apply Array.toList_inj.1
    simp [bytesRow, cb]
theorem cb_set (l tl) (i : Nat) (b : UInt8) (h : i < l.length) : ((cb l ++ tl).toArray).setIfInBounds i (.int .u8 (b.toNat : Int)) = (cb (l.set i b) ++ tl).toArray := by
  rw [List.setIfInBounds_toArray, List.set_append_left _ _ (by rw [cb_length]; exact h)]
  simp [cb, List.map_set]
theorem cb_get (l : List UInt8) (i : Nat) (h : i < l.length) : (cb l)[i]? = some (.int .u8 ((l.getD i 0).toNat : Int)) := by
  simp [cb, h, List.getD]
theorem bthen {w w1 w2 : World} (h : Below w.heap.size w w1) (k : Below w1.heap.size w1 w2) : Below w.heap.size w w2 := h.trans (k.mono h.size)
theorem drew_left {w w' : World} (h : Below w.drew.heap.size w.drew w') : Below w.heap.size w w' := ⟨h.os, h.tape, h.output, h.size, h.block⟩
theorem list_size (s : ByteArray) : s.data.toList.length = s.size := Array.length_toList
end Go.Proofs.YtocncjimepnlcaaGreatDoor
