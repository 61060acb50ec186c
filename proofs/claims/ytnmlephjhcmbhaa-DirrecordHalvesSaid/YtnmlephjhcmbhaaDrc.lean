/- Package dirrecord: Encode. -/
import Derived.Test.YtnmlephjhcmbhaaDrb
import Derived.Test.YtnmlephjhcmbhaaShelf
namespace Go.Proofs.Ytnmlephjhcmbhaa
set_option linter.unusedSimpArgs false
set_option linter.unusedVariables false
open Go Go.RowKit
/-- The byte of a number. -/
def bN (z : Int) : UInt8 := UInt8.ofNat (z % 256).toNat
theorem bN_wrap (z : Int) : IntKind.u8.wrap z = ((bN z).toNat : Int) := by
  rw [IntKind.wrap_u8, bN, UInt8.toNat_ofNat', Nat.mod_eq_of_lt (show (z % 256).toNat < 2 ^ 8 by omega)]
  omega
def padB (n : Nat) : List UInt8 := if n % 2 = 0 then [0] else []
/-- The bytes of a record with the date d, up to the flags; up to the identifier; all. -/
def encH (r : Rec) (size : Int) (d : ByteArray) : List UInt8 := ((([bN size, 0] ++ outs [(r.lba, 4), (r.len, 4)]) ++ d.data.toList) ++ [bN r.flags, 0, 0]) ++ outs [(r.seq, 2)]
def encL (r : Rec) (size : Int) (d : ByteArray) : List UInt8 := (((encH r size d ++ [bN r.id.size]) ++ r.id.data.toList) ++ padB r.id.size) ++ r.use.data.toList
/-- The error of the numbers. -/
def encX (r : Rec) (de : Int) : Int := wrongs (wrongs de [(r.lba, 4), (r.len, 4)]) [(r.seq, 2)]
theorem ES.init {w W1 : World} (r : Rec) (de : Int) (hB : Below (w.alloc (.cells (recA r) 23)).heap.size (w.alloc (.cells (recA r) 23)) W1) :
    ES w W1.heap.size (W1.heap.size + 1) r de [] ((W1.alloc (.cells #[cN de] 25)).alloc (.cells #[.pointer none, .slice none 0 0] 73)) := by
  have hs := hB.size
  rw [World.size_alloc] at hs
  have hr : W1.heap[w.heap.size]? = some (.cells (recA r) 23 (0, 0)) := (hB.block _ (by simp)).trans (World.alloc_heap_new _ _)
  have hW : Below w.heap.size w W1 := ((Below.refl _ w).alloc (Nat.le_refl _) _).trans (hB.mono (by simp))
  refine ⟨?_, ?_, ?_, by omega, by omega, (hW.alloc hW.size _).alloc (by simp; omega) _⟩
  · rw [Lib.alloc_old _ _ _ (by simp; omega), Lib.alloc_old _ _ _ (by omega)]
    exact hr
  · rw [Lib.alloc_old _ _ _ (by simp)]
    exact World.alloc_heap_new _ _
  · refine Or.inl ⟨by omega, _, ?_, ⟨by simp [cb], Or.inl ⟨rfl, by simp [cb]⟩⟩, by simp [Value.ownBlock]⟩
    have := World.alloc_heap_new (W1.alloc (.cells #[cN de] 25)) (.cells #[.pointer none, .slice none 0 0] 73)
    rw [World.size_alloc] at this
    exact this
theorem ES.cr {w : World} {eb b : Nat} {r : Rec} {x : Int} {bs : List UInt8} {W : World} (h : ES w eb b r x bs W) :
    W.cell? ⟨w.heap.size, 0, none⟩ = some (.string r.id) ∧ W.cell? ⟨w.heap.size, 1, none⟩ = some (cN r.lba) ∧ W.cell? ⟨w.heap.size, 2, none⟩ = some (cN r.len) ∧ W.cell? ⟨w.heap.size, 5, none⟩ = some (cN r.flags) ∧
      W.cell? ⟨w.heap.size, 6, none⟩ = some (cN r.seq) ∧ W.cell? ⟨w.heap.size, 7, none⟩ = some (.string r.use) := by
  simp only [Lib.cell_of_heap h.hr]
  exact ⟨rfl, rfl, rfl, rfl, rfl, rfl⟩
/-- A row of bytes, written. -/
theorem ES.write {w : World} {eb b : Nat} {r : Rec} {x : Int} {bs : List UInt8} {W : World} (h : ES w eb b r x bs W) (l : List UInt8) (n g : Nat) (cs : Array Value) (hg : W.heap.size = g) (hcs : cs = (cb l).toArray) (hn : l.length = n) (hl : bs.length ≤ 1000) (hl2 : n ≤ 1000) :
    Calls Try.prog 53 #[ptr b, .slice (some ⟨g, 0, none⟩) n n] (W.alloc (.cells cs 5)) fun e W' => e = .returned (.tuple #[.int .i64 n, .nilIface]) ∧ ES w eb b r x (bs ++ l) W' := by
  subst hg hcs
  have h2 := h.alloc (.cells (cb l).toArray 5)
  have hb : b < W.heap.size := by
    rcases h.hb with hb | hb
    · exact hb.lt
    · exact hb.lt
  refine (write_f w.heap.size b W.heap.size (cb bs) (cb l) n n _ h2.hb (by rw [cb_length]; exact hn) (by rw [cb_length]; omega) h2.bel.size (by omega) (World.alloc_heap_new _ _) ?_).mono ?_
  · intro u hu
    simp only [cb, List.mem_map] at hu
    obtain ⟨q, _, rfl⟩ := hu
    rfl
  · rintro e W' ⟨rfl, ⟨hd, hbl⟩, hfr⟩
    rw [← cb_append] at hd
    exact ⟨rfl, h2.wrote hd hbl hfr.out⟩
theorem ES.str {w : World} {eb b : Nat} {r : Rec} {x : Int} {bs : List UInt8} {W : World} (h : ES w eb b r x bs W) (s : ByteArray) (hl : bs.length ≤ 1000) (hl2 : s.size ≤ 1000) :
    Calls Try.prog 52 #[ptr b, .string s] W fun e W' => e = .returned (.tuple #[.int .i64 s.size, .nilIface]) ∧ ES w eb b r x (bs ++ s.data.toList) W' := by
  refine (writeString_f w.heap.size b (cb bs) s W h.hb (by rw [cb_length]; omega) h.bel.size).mono ?_
  rintro e W' ⟨rfl, ⟨hd, hbl⟩, hfr⟩
  rw [← cb_str, ← cb_append] at hd
  exact ⟨rfl, h.wrote hd hbl hfr.out⟩
theorem ES.byte {w : World} {eb b : Nat} {r : Rec} {x : Int} {bs : List UInt8} {W : World} (h : ES w eb b r x bs W) (c : UInt8) (hl : bs.length ≤ 1000) :
    Calls Try.prog 54 #[ptr b, .int .u8 c.toNat] W fun e W' => e = .returned .nilIface ∧ ES w eb b r x (bs ++ [c]) W' := by
  refine (writeByte_f w.heap.size b (cb bs) c.toNat W h.hb (by rw [cb_length]; omega) h.bel.size).mono ?_
  rintro e W' ⟨rfl, ⟨hd, hbl⟩, hfr⟩
  rw [← cb_snoc] at hd
  exact ⟨rfl, h.wrote hd hbl hfr.out⟩
theorem ES.nums {w : World} {eb b : Nat} {r : Rec} {x : Int} {bs : List UInt8} {W : World} (h : ES w eb b r x bs W) (ps : List (Int × Nat)) (n : Nat) (cs : Array Value) (hcs : cs = (flatP ps).toArray) (hn : n = 2 * ps.length) (hps : ∀ p ∈ ps, p.2 = 1 ∨ p.2 = 2 ∨ p.2 = 4) (hl : bs.length ≤ 1000) (hm : ps.length ≤ 10) :
    Calls Try.prog 50 #[.slice (some ⟨W.heap.size, 0, none⟩) n n, ptr eb, ptr b] (W.alloc (.cells cs 3)) fun e W' => e = .returned (.tuple #[]) ∧ ES w eb b r (wrongs x ps) (bs ++ outs ps) W' := by
  subst hcs
  have hb : b < W.heap.size := by
    rcases h.hb with hb | hb
    · exact hb.lt
    · exact hb.lt
  exact numbers_ok w eb b W.heap.size n n r x bs ps _ (h.alloc _) (World.alloc_heap_new _ _) (by omega) (by have := h.ne2; omega) hn hps hl hm
theorem ES.done {w : World} {eb b : Nat} {r : Rec} {x : Int} {bs : List UInt8} {W : World} (h : ES w eb b r x bs W) :
    Calls Try.prog 55 #[ptr b] W fun e W' => e = .returned (.string ⟨bs.toArray⟩) ∧ Below w.heap.size w W' :=
  (Try.Builder_String_any w.heap.size b bs W h.hb h.bel.size).mono fun _ _ ⟨he, hw⟩ => ⟨he, h.bel.trans hw⟩
end Go.Proofs.Ytnmlephjhcmbhaa
