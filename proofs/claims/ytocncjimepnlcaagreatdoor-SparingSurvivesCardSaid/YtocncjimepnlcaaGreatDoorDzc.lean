/- Package udftag: values, Faults and Is at the block of a sparing table. -/
import Derived.Test.YtocncjimepnlcaaGreatDoorDzb
import Derived.Test.YtocncjimepnlcaaGreatDoorCmc
namespace Go.Proofs.YtocncjimepnlcaaGreatDoor
set_option linter.unusedSimpArgs false
set_option linter.unusedVariables false
open Go Go.RowKit
/-- What is read of a block's tag. -/
structure TG (D : ByteArray) (loc size crc x : Nat) : Prop where
  sz : D.size = 2048
  id : leR D 0 2 = 0
  ver : leR D 2 2 = 3
  ser : leR D 6 2 = 1
  crcR : leR D 8 2 = crc
  len : leR D 10 2 = size
  at_ : leR D 12 4 = loc
  b4 : sB D 4 = x
  sum : sumL (D.extract 0 4 ++ D.extract 5 16).data.toList = x
  body : crcL (D.extract 16 (16 + size)).data.toList = crc
  hs : size ≤ 2032
  hl : loc < 4294967296
  hc : crc < 65536
  hx : x < 256
theorem block_tg (loc : Nat) (body : ByteArray) (hl : loc < 4294967296) (hb : body.size ≤ 2032) : TG (blockB loc body) loc body.size (crcL body.data.toList) (chk loc body) :=
  ⟨blockB_size loc body hb, leR_id loc body, leR_ver loc body, leR_ser loc body, leR_crc loc body, leR_len loc body hb, leR_loc loc body hl, block_at4 loc body, chk_block loc body, by rw [block_body], hb, hl, crcL_lt _, chk_lt loc body⟩
set_option maxRecDepth 100000 in
set_option maxHeartbeats 1000000 in
theorem tvalues_ok {D : ByteArray} {loc size crc x : Nat} (T : TG D loc size crc x) (w : World) : Calls Tryz.prog 41 #[.string D] w fun e w' => e = .returned (.agg #[cN 0, cN 1, cN (size : Int), cN (loc : Int)]) ∧ Below w.heap.size w w' := by
  have hs := T.sz
  have k1 : ∀ W, Calls Tryz.prog 66 #[.string D, cN 0, cN 2] W fun e w' => e = .returned (cN 0) ∧ Below W.heap.size W w' := fun W => by
    have := tread_ok D 0 2 W (by omega) (by decide) (by decide) (by omega)
    rw [T.id] at this
    exact this
  have k2 : ∀ W, Calls Tryz.prog 66 #[.string D, cN 6, cN 2] W fun e w' => e = .returned (cN 1) ∧ Below W.heap.size W w' := fun W => by
    have := tread_ok D 6 2 W (by omega) (by decide) (by decide) (by omega)
    rw [T.ser] at this
    exact this
  have k3 : ∀ W, Calls Tryz.prog 66 #[.string D, cN 10, cN 2] W fun e w' => e = .returned (cN (size : Int)) ∧ Below W.heap.size W w' := fun W => by
    have := tread_ok D 10 2 W (by omega) (by decide) (by decide) (by omega)
    rw [T.len] at this
    exact this
  have k4 : ∀ W, Calls Tryz.prog 66 #[.string D, cN 12, cN 4] W fun e w' => e = .returned (cN (loc : Int)) ∧ Below W.heap.size W w' := fun W => by
    have := tread_ok D 12 4 W (by omega) (by decide) (by decide) (by omega)
    rw [T.at_] at this
    exact this
  clear hs T
  go_enter Tryz.func41, Tryz.ntmps41
  have HN := Lib.hid (World.alloc_heap_new w (.cells #[cN 0, cN 0, cN 0, cN 0] 83))
  have HB := Lib.hid (bal (Below.refl w.heap.size w) (.cells #[cN 0, cN 0, cN 0, cN 0] 83))
  go_wp2_with (go_at_call 66; (first | (with_reducible refine (k1 _).mono ?_) | (with_reducible refine (k2 _).mono ?_) | (with_reducible refine (k3 _).mono ?_) | (with_reducible refine (k4 _).mono ?_)); rintro e w1 ⟨rfl, hB1⟩; have HN' := Lib.hid ((hB1.block _ (lt_of_block HN.out)).trans HN.out); have HB' := Lib.hid (bthen HB.out hB1); clear HN HB hB1; have HN := HN'; have HB := HB'; clear HN' HB'; have p0 := Lib.cell_of_heap HN.out 0; have p1 := Lib.cell_of_heap HN.out 1; have p2 := Lib.cell_of_heap HN.out 2; have p3 := Lib.cell_of_heap HN.out 3; have pf := (fun j => Lib.frozen_of_heap HN.out j))
  have r0 := row_set 0 (cN 0) HN.out
  have r1 := row_set 1 (cN 1) r0
  have r2 := row_set 2 (cN (size : Int)) r1
  have r3 := row_set 3 (cN (loc : Int)) r2
  have q0 := Lib.cell_of_heap r3 0
  have q1 := Lib.cell_of_heap r3 1
  have q2 := Lib.cell_of_heap r3 2
  have q3 := Lib.cell_of_heap r3 3
  have hq := (((HB.out.setCell (p := ⟨w.heap.size, 0, none⟩) (Nat.le_refl _) (cN 0)).setCell (p := ⟨w.heap.size, 1, none⟩) (Nat.le_refl _) (cN 1)).setCell (p := ⟨w.heap.size, 2, none⟩) (Nat.le_refl _) (cN (size : Int))).setCell (p := ⟨w.heap.size, 3, none⟩) (Nat.le_refl _) (cN (loc : Int))
  refine bodyPost_ret (v := .agg #[cN 0, cN 1, cN (size : Int), cN (loc : Int)]) ?_ rfl ⟨rfl, hq⟩
  simp [results, Tryz.results41, go_sem, q0, q1, q2, q3]
set_option maxRecDepth 100000 in
set_option maxHeartbeats 400000 in
theorem tadd_no (f : Int) (P : Nat) (w : World) : Calls Tryz.prog 65 #[cN f, .bool false, .pointer (some ⟨P, 0, none⟩)] w fun e w' => e = .returned (.bool false) ∧ w' = w := by
  go_enter Tryz.func65, Tryz.ntmps65
  go_wp2
  go_ret
  exact ⟨rfl, by trivial⟩
theorem intInfo : (Tryz.prog.info? 3).map (fun i => (i.zero, i.size, i.bytes)) = some (some (.int .i64 0), 1, 8) := by kernel_rfl
set_option maxRecDepth 100000 in
set_option maxHeartbeats 1000000 in
theorem tadd_yes (f : Int) (P : Nat) (w : World) (hP : w.heap[P]? = some (.cells #[.slice none 0 0] 37 (0, 0))) : Calls Tryz.prog 65 #[cN f, .bool true, .pointer (some ⟨P, 0, none⟩)] w fun e w' => e = .returned (.bool true) ∧ ∃ a c, w'.heap[P]? = some (.cells #[.slice a 1 c] 37 (0, 0)) ∧ Below P w w' := by
  obtain ⟨i0, hi, hz0, hz1, hz2⟩ := info_parts intInfo
  have p0 := Lib.cell_of_heap hP 0
  have hlt := lt_of_block hP
  have HP := Lib.hid hP
  clear hP
  go_enter Tryz.func65, Tryz.ntmps65
  go_wp2_with (at_builtin; refine wpList_append_own _ rfl _ _ 37 rfl (P + 1) 3 i0 (.int .i64 0) 1 8 Tryz.underlying37 hi hz0 hz1 hz2 rfl (by decide) (.slice none 0 0) 0 [] rfl ⟨rfl, .inl ⟨rfl, rfl⟩⟩ ⟨w.heap.size, 0, none⟩ 1 1 [cN f] rfl rfl ?c1 ?c2 ?c3 ?c4 ?c5 ?_)
  try case c1 => intro j u h; exact cell_one_new _ _ _ j u h
  try case c2 => first | rfl | (intro u h; rw [List.mem_singleton.1 h]; rfl)
  case c3 => unfold maxLen; omega
  case c4 => omega
  case c5 => simp; omega
  intro v' w1 hown hgrow _
  have hb1 : w1.heap[P]? = some (.cells #[.slice none 0 0] 37 (0, 0)) := by
    rw [hgrow.block P (by simp; omega) (by simp [Value.ownBlock]), Lib.alloc_old _ _ _ hlt]
    exact HP.out
  have hBel : Below P w w1 := ((Below.refl P w).alloc (Nat.le_of_lt hlt) _).grown hgrow (by simp; omega) (fun k hk => by simp [Value.ownBlock] at hk)
  obtain ⟨a', c', rfl⟩ : ∃ a c, v' = .slice a 1 c := by
    rcases hown.2 with ⟨hv, hn⟩ | ⟨g, cap, cur, hv, -⟩
    · exact absurd hn (by decide)
    · exact ⟨_, _, hv⟩
  have q0 := Lib.cell_of_heap hb1 0
  have f0 := Lib.frozen_of_heap hb1 0
  have HQ := Lib.hid (And.intro hb1 hBel)
  clear hown hgrow hb1 hBel
  go_wp2
  go_ret
  exact ⟨rfl, a', c', row_set 0 _ HQ.out.1, HQ.out.2.setCell (p := ⟨P, 0, none⟩) (Nat.le_refl _) _⟩
end Go.Proofs.YtocncjimepnlcaaGreatDoor
