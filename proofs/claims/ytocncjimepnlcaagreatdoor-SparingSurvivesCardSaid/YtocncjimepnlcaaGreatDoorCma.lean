/- The block of a descriptor, plain: the tag with its checksum, the body, zeros. -/
import Derived.Test.YtocncjimepnlcaaGreatDoorEna
import Derived.Test.YtocncjimepnlcaaGreatDoorCkd
namespace Go.Proofs.YtocncjimepnlcaaGreatDoor
set_option linter.unusedSimpArgs false
set_option linter.unusedVariables false
open Go Go.RowKit
def leB (n k : Nat) : ByteArray := ⟨(leL n k).toArray⟩
theorem leB_size (n k : Nat) : (leB n k).size = k := by
  show (leL n k).toArray.size = k
  rw [List.size_toArray, leL_length]
theorem size_app (a b : ByteArray) : (a ++ b).size = a.size + b.size := ByteArray.size_append
def oneB (n : Nat) : ByteArray := ⟨#[UInt8.ofNat n]⟩
def zerosB (n : Nat) : ByteArray := bL (List.replicate n 0)
theorem zerosB_size (n : Nat) : (zerosB n).size = n := by
  show (List.replicate n (0 : UInt8)).toArray.size = n
  rw [List.size_toArray, List.length_replicate]
/-- A tag with its checksum. -/
def sumdB (t : ByteArray) : ByteArray := t.extract 0 4 ++ oneB (sumL (t.extract 0 4 ++ t.extract 5 16).data.toList) ++ t.extract 5 t.size
def tagB (loc : Nat) (body : ByteArray) : ByteArray := leB 0 2 ++ leB 3 2 ++ ⟨#[0, 0]⟩ ++ leB 1 2 ++ leB (crcL body.data.toList) 2 ++ leB body.size 2 ++ leB loc 4
theorem tagB_size (loc : Nat) (body : ByteArray) : (tagB loc body).size = 16 := by
  unfold tagB
  simp only [size_app, leB_size]
  rfl
theorem tagB_ref (loc : Nat) (body : ByteArray) : leB 0 2 ++ ⟨#[3, 0, 0, 0]⟩ ++ leB 1 2 ++ leB (crcL body.data.toList) 2 ++ leB body.size 2 ++ leB loc 4 = tagB loc body := by
  unfold tagB
  have e : leB 0 2 ++ leB 3 2 ++ ⟨#[0, 0]⟩ = leB 0 2 ++ ⟨#[3, 0, 0, 0]⟩ := by decide
  rw [e]
theorem extract_size (t : ByteArray) (i j : Nat) (h : j ≤ t.size) : (t.extract i j).size = j - i := by
  rw [ByteArray.size_extract]
  omega
theorem sumdB_size (t : ByteArray) (h : 16 ≤ t.size) : (sumdB t).size = t.size := by
  unfold sumdB
  rw [size_app, size_app, extract_size t 0 4 (by omega), extract_size t 5 t.size (Nat.le_refl _)]
  show 4 - 0 + 1 + (t.size - 5) = t.size
  omega
/-- A sealed descriptor, and its block. -/
def sealB (loc : Nat) (body : ByteArray) : ByteArray := sumdB (tagB loc body) ++ body
def blockB (loc : Nat) (body : ByteArray) : ByteArray := sealB loc body ++ zerosB (2048 - (sealB loc body).size)
theorem sealB_size (loc : Nat) (body : ByteArray) : (sealB loc body).size = 16 + body.size := by
  unfold sealB
  rw [size_app, sumdB_size _ (by rw [tagB_size]; exact Nat.le_refl _), tagB_size]
theorem blockB_size (loc : Nat) (body : ByteArray) (h : body.size ≤ 2032) : (blockB loc body).size = 2048 := by
  unfold blockB
  rw [size_app, zerosB_size, sealB_size]
  omega
theorem crcL_lt16 (l : List UInt8) : crcL l < 2 ^ (8 * 2) := crcL_lt l
theorem sumL_lt (l : List UInt8) : sumL l < 256 := by
  rcases List.eq_nil_or_concat l with rfl | ⟨l', b, rfl⟩
  · decide
  · rw [List.concat_eq_append, sumL_snoc]
    exact Nat.mod_lt _ (by decide)
theorem oneB_nat (n : Nat) (h : n < 256) : (UInt8.ofNat n).toNat = n := by simp; omega
/-- The body of a sparing table's descriptor. -/
def entB : ByteArray := ⟨#[0]⟩ ++ ⟨#[42, 85, 68, 70, 32, 83, 112, 97, 114, 105, 110, 103, 32, 84, 97, 98, 108, 101]⟩ ++ zerosB 5 ++ ⟨#[1, 2]⟩ ++ zerosB 6
theorem entB_size : entB.size = 32 := by
  unfold entB
  simp only [size_app, zerosB_size]
  rfl
def hdB (s n : Nat) : ByteArray := entB ++ leB n 2 ++ leB 0 2 ++ leB s 4
theorem hdB_ref (s n : Nat) : entB ++ leB n 2 ++ ⟨#[0, 0]⟩ ++ leB s 4 = hdB s n := by
  unfold hdB
  have e : leB 0 2 = ⟨#[0, 0]⟩ := by decide
  rw [e]
def rowB (a : ByteArray) (l : List Sp) : ByteArray := l.foldl (fun a x => a ++ leB x.1.toNat 4 ++ leB x.2.toNat 4) a
theorem rowB_snoc (a : ByteArray) (l : List Sp) (x : Sp) : rowB a (l ++ [x]) = rowB a l ++ leB x.1.toNat 4 ++ leB x.2.toNat 4 := by
  unfold rowB
  rw [List.foldl_append]
  rfl
def bodyB (s : Nat) (l : List Sp) : ByteArray := rowB (hdB s l.length) l
theorem rowB_size : ∀ (l : List Sp) (a : ByteArray), (rowB a l).size = a.size + 8 * l.length
  | [], a => rfl
  | x :: l, a => by
    rw [show rowB a (x :: l) = rowB (a ++ leB x.1.toNat 4 ++ leB x.2.toNat 4) l from rfl, rowB_size l, size_app, size_app, leB_size, leB_size, List.length_cons]
    omega
theorem bodyB_size (s : Nat) (l : List Sp) : (bodyB s l).size = 40 + 8 * l.length := by
  unfold bodyB
  rw [rowB_size]
  unfold hdB
  simp only [size_app, leB_size, entB_size]
/-- What Encode gives. -/
def encE (s loc : Int) (l : List Sp) : Int := if validB s l = true then (if wordB loc = true then 0 else 2) else 1
def encS (s loc : Int) (l : List Sp) : ByteArray := if validB s l = true ∧ wordB loc = true then blockB loc.toNat (bodyB s.toNat l) else ByteArray.empty
end Go.Proofs.YtocncjimepnlcaaGreatDoor
