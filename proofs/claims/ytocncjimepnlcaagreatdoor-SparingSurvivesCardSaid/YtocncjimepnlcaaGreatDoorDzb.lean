/- The block of a sparing table, read again: plain. -/
import Derived.Test.YtocncjimepnlcaaGreatDoorDza
import Derived.Test.YtocncjimepnlcaaGreatDoorCma
namespace Go.Proofs.YtocncjimepnlcaaGreatDoor
set_option linter.unusedSimpArgs false
set_option linter.unusedVariables false
open Go Go.RowKit
theorem toL_app (a b : ByteArray) : (a ++ b).data.toList = a.data.toList ++ b.data.toList := by simp
theorem toL_ext (s : ByteArray) (i j : Nat) : (s.extract i j).data.toList = (s.data.toList.drop i).take (j - i) := by
  rw [ByteArray.data_extract, Array.toList_extract, List.extract_eq_take_drop]
theorem ba_ext {a b : ByteArray} (h : a.data.toList = b.data.toList) : a = b := ByteArray.ext (Array.toList_inj.1 h)
theorem leB_toL (n k : Nat) : (leB n k).data.toList = leL n k := rfl
theorem leR_at {s : ByteArray} {P Q : List UInt8} {n k : Nat} (h : s.data.toList = P ++ (leL n k ++ Q)) : leR s P.length k = n % 2 ^ (8 * k) := by
  unfold leR
  rw [← acc_byteAt]
  refine acc_congr fun i hi => ?_
  unfold sB
  rw [h, List.getD_eq_getElem?_getD, List.getElem?_append_right (by omega), Nat.add_sub_cancel_left, List.getElem?_append_left (by rw [leL_length]; exact hi), leL_get n k i hi, Option.getD_some]
/-- The end of a tag. -/
def tgL (loc : Nat) (body : ByteArray) : List UInt8 := leL 1 2 ++ (leL (crcL body.data.toList) 2 ++ (leL body.size 2 ++ leL loc 4))
theorem tgL_len (loc : Nat) (body : ByteArray) : (tgL loc body).length = 10 := by simp [tgL, leL_length]
theorem tagB_toL (loc : Nat) (body : ByteArray) : (tagB loc body).data.toList = [0, 0, 3, 0] ++ ([0, 0] ++ tgL loc body) := by
  unfold tagB tgL
  simp only [toL_app, leB_toL]
  rw [show leL 0 2 = [0, 0] by decide, show leL 3 2 = [3, 0] by decide]
  simp
def chk (loc : Nat) (body : ByteArray) : Nat := sumL ([0, 0, 3, 0] ++ (0 :: tgL loc body))
theorem chk_tag (loc : Nat) (body : ByteArray) : sumL ((tagB loc body).extract 0 4 ++ (tagB loc body).extract 5 16).data.toList = chk loc body := by
  have hl := tgL_len loc body
  rw [toL_app, toL_ext, toL_ext, tagB_toL]
  unfold chk
  congr 1
  try simp
/-- The bytes of a block. -/
theorem blockB_toL (loc : Nat) (body : ByteArray) : (blockB loc body).data.toList = [0, 0, 3, 0] ++ (UInt8.ofNat (chk loc body) :: 0 :: tgL loc body) ++ (body.data.toList ++ List.replicate (2048 - (sealB loc body).size) 0) := by
  have hl := tgL_len loc body
  have hts := tagB_size loc body
  unfold blockB sealB sumdB
  rw [toL_app, toL_app, toL_app, toL_app, chk_tag, toL_ext, toL_ext, tagB_toL, hts]
  show _ ++ [UInt8.ofNat (chk loc body)] ++ _ ++ _ ++ _ = _
  simp
  rw [List.take_of_length_le (show (tgL loc body).length ≤ 10 by omega)]
  rfl
theorem chk_block (loc : Nat) (body : ByteArray) : sumL ((blockB loc body).extract 0 4 ++ (blockB loc body).extract 5 16).data.toList = chk loc body := by
  have hl := tgL_len loc body
  rw [toL_app, toL_ext, toL_ext, blockB_toL]
  unfold chk
  congr 1
  try simp
  try (rw [List.take_append_of_le_length (by omega)]; exact List.take_of_length_le (by omega))
theorem chk_lt (loc : Nat) (body : ByteArray) : chk loc body < 256 := sumL_lt _
theorem block_at4 (loc : Nat) (body : ByteArray) : sB (blockB loc body) 4 = chk loc body := by
  unfold sB
  rw [blockB_toL]
  have := chk_lt loc body
  simp
  omega
def hdL (loc : Nat) (body : ByteArray) : List UInt8 := [0, 0, 3, 0] ++ (UInt8.ofNat (chk loc body) :: 0 :: tgL loc body)
theorem hdL_len (loc : Nat) (body : ByteArray) : (hdL loc body).length = 16 := by simp [hdL, tgL_len]
theorem block_body (loc : Nat) (body : ByteArray) : (blockB loc body).extract 16 (16 + body.size) = body := by
  refine ba_ext ?_
  have hl := hdL_len loc body
  rw [toL_ext, blockB_toL]
  show (List.drop 16 (hdL loc body ++ _)).take _ = _
  rw [List.drop_append_of_le_length (by omega), List.drop_of_length_le (by omega), List.nil_append, Nat.add_sub_cancel_left, ← list_size body, List.take_append_of_le_length (Nat.le_refl _), List.take_length]
theorem leR_id (loc : Nat) (body : ByteArray) : leR (blockB loc body) 0 2 = 0 := by
  have := leR_at (s := blockB loc body) (P := []) (n := 0) (k := 2) (Q := [3, 0] ++ (UInt8.ofNat (chk loc body) :: 0 :: tgL loc body) ++ (body.data.toList ++ List.replicate (2048 - (sealB loc body).size) 0)) (by rw [blockB_toL, show leL 0 2 = [0, 0] by decide]; simp)
  exact this
theorem leR_ver (loc : Nat) (body : ByteArray) : leR (blockB loc body) 2 2 = 3 := by
  have := leR_at (s := blockB loc body) (P := [0, 0]) (n := 3) (k := 2) (Q := (UInt8.ofNat (chk loc body) :: 0 :: tgL loc body) ++ (body.data.toList ++ List.replicate (2048 - (sealB loc body).size) 0)) (by rw [blockB_toL, show leL 3 2 = [3, 0] by decide]; simp)
  exact this
theorem leR_ser (loc : Nat) (body : ByteArray) : leR (blockB loc body) 6 2 = 1 := by
  have := leR_at (s := blockB loc body) (P := [0, 0, 3, 0, UInt8.ofNat (chk loc body), 0]) (n := 1) (k := 2) (Q := (leL (crcL body.data.toList) 2 ++ (leL body.size 2 ++ leL loc 4)) ++ (body.data.toList ++ List.replicate (2048 - (sealB loc body).size) 0)) (by rw [blockB_toL]; simp [tgL])
  exact this
theorem leR_crc (loc : Nat) (body : ByteArray) : leR (blockB loc body) 8 2 = crcL body.data.toList := by
  have h1 := crcL_lt16 body.data.toList
  have := leR_at (s := blockB loc body) (P := [0, 0, 3, 0, UInt8.ofNat (chk loc body), 0] ++ leL 1 2) (n := crcL body.data.toList) (k := 2) (Q := (leL body.size 2 ++ leL loc 4) ++ (body.data.toList ++ List.replicate (2048 - (sealB loc body).size) 0)) (by rw [blockB_toL]; simp [tgL])
  rw [Nat.mod_eq_of_lt h1, List.length_append, leL_length] at this
  exact this
theorem leR_len (loc : Nat) (body : ByteArray) (hb : body.size ≤ 2032) : leR (blockB loc body) 10 2 = body.size := by
  have := leR_at (s := blockB loc body) (P := [0, 0, 3, 0, UInt8.ofNat (chk loc body), 0] ++ leL 1 2 ++ leL (crcL body.data.toList) 2) (n := body.size) (k := 2) (Q := leL loc 4 ++ (body.data.toList ++ List.replicate (2048 - (sealB loc body).size) 0)) (by rw [blockB_toL]; simp [tgL])
  rw [Nat.mod_eq_of_lt (by omega), List.length_append, List.length_append, leL_length, leL_length] at this
  exact this
theorem leR_loc (loc : Nat) (body : ByteArray) (hl : loc < 4294967296) : leR (blockB loc body) 12 4 = loc := by
  have := leR_at (s := blockB loc body) (P := [0, 0, 3, 0, UInt8.ofNat (chk loc body), 0] ++ leL 1 2 ++ leL (crcL body.data.toList) 2 ++ leL body.size 2) (n := loc) (k := 4) (Q := body.data.toList ++ List.replicate (2048 - (sealB loc body).size) 0) (by rw [blockB_toL]; simp [tgL])
  rw [Nat.mod_eq_of_lt hl, List.length_append, List.length_append, List.length_append, leL_length, leL_length, leL_length] at this
  exact this
def rowsL (l : List Sp) : List UInt8 := l.flatMap fun x => leL x.1.toNat 4 ++ leL x.2.toNat 4
theorem rowsL_len (l : List Sp) : (rowsL l).length = 8 * l.length := by
  induction l with
  | nil => rfl
  | cons x l ih => simp only [rowsL, List.flatMap_cons, List.length_append, leL_length, List.length_cons] at ih ⊢; omega
theorem rowB_toL : ∀ (l : List Sp) (a : ByteArray), (rowB a l).data.toList = a.data.toList ++ rowsL l
  | [], a => by simp [rowB, rowsL]
  | x :: l, a => by
    rw [show rowB a (x :: l) = rowB (a ++ leB x.1.toNat 4 ++ leB x.2.toNat 4) l from rfl, rowB_toL l, toL_app, toL_app, leB_toL, leB_toL]
    simp [rowsL]
theorem bodyB_toL (s : Nat) (l : List Sp) : (bodyB s l).data.toList = entB.data.toList ++ (leL l.length 2 ++ (leL 0 2 ++ (leL s 4 ++ rowsL l))) := by
  unfold bodyB
  rw [rowB_toL]
  unfold hdB
  rw [toL_app, toL_app, toL_app, leB_toL, leB_toL, leB_toL]
  simp
theorem block_toL (loc s : Nat) (l : List Sp) : ∃ Z, (blockB loc (bodyB s l)).data.toList = hdL loc (bodyB s l) ++ (entB.data.toList ++ (leL l.length 2 ++ (leL 0 2 ++ (leL s 4 ++ (rowsL l ++ Z))))) :=
  ⟨List.replicate (2048 - (sealB loc (bodyB s l)).size) 0, by rw [blockB_toL, bodyB_toL]; simp [hdL]⟩
theorem entB_len : entB.data.toList.length = 32 := by rw [list_size, entB_size]
theorem block_ent (loc s : Nat) (l : List Sp) : (blockB loc (bodyB s l)).extract 16 48 = entB := by
  obtain ⟨Z, hZ⟩ := block_toL loc s l
  refine ba_ext ?_
  have hl := hdL_len loc (bodyB s l)
  have he := entB_len
  rw [toL_ext, hZ, List.drop_append_of_le_length (by omega), List.drop_of_length_le (by omega), List.nil_append, List.take_append_of_le_length (by omega)]
  exact List.take_of_length_le (by omega)
theorem leR_n (loc s : Nat) (l : List Sp) (h : l.length ≤ 8) : leR (blockB loc (bodyB s l)) 48 2 = l.length := by
  obtain ⟨Z, hZ⟩ := block_toL loc s l
  have := leR_at (s := blockB loc (bodyB s l)) (P := hdL loc (bodyB s l) ++ entB.data.toList) (n := l.length) (k := 2) (Q := leL 0 2 ++ (leL s 4 ++ (rowsL l ++ Z))) (by rw [hZ]; simp)
  rw [Nat.mod_eq_of_lt (by omega), List.length_append, hdL_len, entB_len] at this
  exact this
theorem leR_seq (loc s : Nat) (l : List Sp) (h : s < 4294967296) : leR (blockB loc (bodyB s l)) 52 4 = s := by
  obtain ⟨Z, hZ⟩ := block_toL loc s l
  have := leR_at (s := blockB loc (bodyB s l)) (P := hdL loc (bodyB s l) ++ entB.data.toList ++ leL l.length 2 ++ leL 0 2) (n := s) (k := 4) (Q := rowsL l ++ Z) (by rw [hZ]; simp)
  rw [Nat.mod_eq_of_lt h, List.length_append, List.length_append, List.length_append, hdL_len, entB_len, leL_length, leL_length] at this
  exact this
theorem rowsL_at (l : List Sp) (k : Nat) (hk : k < l.length) : rowsL l = rowsL (l.take k) ++ (leL (at_ l k).1.toNat 4 ++ (leL (at_ l k).2.toNat 4 ++ rowsL (l.drop (k + 1)))) := by
  have e : l = l.take k ++ (at_ l k :: l.drop (k + 1)) := by
    rw [at_, List.getD_eq_getElem?_getD, List.getElem?_eq_getElem hk, Option.getD_some, ← List.drop_eq_getElem_cons hk, List.take_append_drop]
  have e2 : rowsL l = rowsL (l.take k ++ (at_ l k :: l.drop (k + 1))) := congrArg rowsL e
  rw [e2]
  unfold rowsL
  rw [List.flatMap_append, List.flatMap_cons, List.append_assoc]
theorem leR_row (loc s : Nat) (l : List Sp) (k : Nat) (hk : k < l.length) : leR (blockB loc (bodyB s l)) (56 + 8 * k) 4 = (at_ l k).1.toNat % 4294967296 ∧ leR (blockB loc (bodyB s l)) (60 + 8 * k) 4 = (at_ l k).2.toNat % 4294967296 := by
  obtain ⟨Z, hZ⟩ := block_toL loc s l
  rw [rowsL_at l k hk] at hZ
  have hlen : (rowsL (l.take k)).length = 8 * k := by rw [rowsL_len, List.length_take]; omega
  have h1 := leR_at (s := blockB loc (bodyB s l)) (P := hdL loc (bodyB s l) ++ entB.data.toList ++ leL l.length 2 ++ leL 0 2 ++ leL s 4 ++ rowsL (l.take k)) (n := (at_ l k).1.toNat) (k := 4) (Q := leL (at_ l k).2.toNat 4 ++ (rowsL (l.drop (k + 1)) ++ Z)) (by rw [hZ]; simp)
  have h2 := leR_at (s := blockB loc (bodyB s l)) (P := hdL loc (bodyB s l) ++ entB.data.toList ++ leL l.length 2 ++ leL 0 2 ++ leL s 4 ++ rowsL (l.take k) ++ leL (at_ l k).1.toNat 4) (n := (at_ l k).2.toNat) (k := 4) (Q := rowsL (l.drop (k + 1)) ++ Z) (by rw [hZ]; simp)
  simp only [List.length_append, hdL_len, entB_len, leL_length, hlen] at h1 h2
  constructor
  · rw [show 56 + 8 * k = 16 + 32 + 2 + 2 + 4 + 8 * k by omega, h1]
  · rw [show 60 + 8 * k = 16 + 32 + 2 + 2 + 4 + 8 * k + 4 by omega, h2]
end Go.Proofs.YtocncjimepnlcaaGreatDoor
