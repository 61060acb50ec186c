/- Package dirrecord: Differ. The reference of package dirrecord: Differ. What both Differs give; lists of numbers, compared; the example. Records, compared. The dates of records: for any time and zone, what both packages write, and that it is read back. The chapter's example of directory records: awake. Directory records, plain: what is written is read back; what is read was so written; what follows a record, its beginnings, changes of its halves. At the end helpers of the laws' walks. -/
import Derived.Test.YtnmlephjhcmbhaaGreatMh
import Derived.Test.YtnmlephjhcmbhaaGreatShelf
import Derived.Test.YtnmlephjhcmbhaaGreatMf
import Derived.Laws.StructEq
import Derived.ChangeKeysEq
import Derived.Test.YtnmlephjhcmbhaaGreatMd
import Derived.Test.YtnmlephjhcmbhaaGreatMa
namespace Go.Proofs.YtnmlephjhcmbhaaGreat
set_option linter.unusedSimpArgs false
set_option linter.unusedVariables false
open Go Go.RowKit
theorem i64Info : (Tryz.prog.info? 3).map (fun i => (i.zero, i.size, i.bytes)) = some (some (.int .i64 0), 1, 8) := by kernel_rfl
/-- The halves of a number agree. -/
def smB (s : ByteArray) (a z : Nat) : Bool := decide (leR s a z = beR s (a + z) z)
/-- The places and sizes of the numbers. -/
def nthP : Nat → Nat × Nat
  | 0 => (2, 4)
  | 1 => (10, 4)
  | _ => (28, 2)
/-- What Differ has found behind k numbers. -/
def dl (s : ByteArray) : Nat → List Nat
  | 0 => []
  | k + 1 => dl s k ++ (if smB s (nthP k).1 (nthP k).2 then [] else [(nthP k).1])
def difM (s : ByteArray) : List Nat := if s.size < 34 then [] else dl s 3
def ints (l : List Nat) : List Value := l.map fun n : Nat => cN (n : Int)
theorem ints_snoc (l : List Nat) (n : Nat) : ints (l ++ [n]) = ints l ++ [cN (n : Int)] := by simp [ints]
theorem dl_len (s : ByteArray) (k : Nat) : (dl s k).length ≤ k := by
  induction k with
  | zero => simp [dl]
  | succ k ih => rw [dl, List.length_append]; split <;> simp <;> omega
/-- The state of Differ behind k numbers. -/
def DiS (w : World) (s : ByteArray) (k : Nat) (v : Value) (W : World) : Prop :=
  W.ownsRow (w.heap.size + 1) 3 1 v (dl s k).length (ints (dl s k)) ∧ W.heap[w.heap.size]? = some (.cells #[cN 2, cN 10, cN 28] 3 (0, 0)) ∧ Below w.heap.size w W
theorem own_keep {W W' : World} {base n : Nat} {v : Value} {xs : List Value} {e : TypeId} (h : W.ownsRow base e 1 v n xs) (k : Below W.heap.size W W') : W'.ownsRow base e 1 v n xs := by
  refine ⟨h.1, ?_⟩
  rcases h.2 with hn | ⟨g, cap, cur, rfl, hb, hg, rest⟩
  · exact .inl hn
  · exact .inr ⟨g, cap, cur, rfl, hb, (k.block _ (lt_of_block hg)).trans hg, rest⟩
theorem DiS.below {w : World} {s : ByteArray} {k : Nat} {v : Value} {W W' : World} (h : DiS w s k v W) (b : Below W.heap.size W W') : DiS w s k v W' :=
  ⟨own_keep h.1 b, (b.block _ (lt_of_block h.2.1)).trans h.2.1, h.2.2.trans (b.mono h.2.2.size)⟩
theorem DiS.start (w : World) (s : ByteArray) : DiS w s 0 (.slice none 0 0) (w.alloc (.cells #[cN 2, cN 10, cN 28] 3)) :=
  ⟨⟨by simp [dl, ints], .inl ⟨rfl, by simp [dl]⟩⟩, World.alloc_heap_new _ _, (Below.refl _ w).alloc (Nat.le_refl _) _⟩
theorem DiS.put {w : World} {s : ByteArray} {k a : Nat} {v v' : Value} {W W2 : World} (h : DiS w s k v W) (hd : dl s (k + 1) = dl s k ++ [a]) (hown : W2.ownsRow (w.heap.size + 1) 3 1 v' ((dl s k).length + 1) (ints (dl s k) ++ [cN (a : Int)]))
    (hg : (W.alloc (.cells #[cN (a : Int)] 3)).grownBy W2 v.ownBlock) : DiS w s (k + 1) v' W2 := by
  have hlt := lt_of_block h.2.1
  have hne : some w.heap.size ≠ v.ownBlock := fun e => by
    have := (h.1.lt _ e.symm).1
    omega
  refine ⟨?_, ?_, ?_⟩
  · rw [hd, ints_snoc]
    simpa using hown
  · rw [hg.block _ (by simp; omega) hne, Lib.alloc_old _ _ _ hlt]
    exact h.2.1
  · exact (h.2.2.alloc h.2.2.size _).grown hg (by have := h.2.2.size; simp; omega) (fun k hk => (by have := (h.1.lt k hk).1; omega))
theorem DiS.same {w : World} {s : ByteArray} {k : Nat} {v : Value} {W : World} (h : DiS w s k v W) (hd : dl s (k + 1) = dl s k) : DiS w s (k + 1) v W := by
  unfold DiS at *
  rw [hd]
  exact h
end Go.Proofs.YtnmlephjhcmbhaaGreat
namespace Go.Proofs.YtnmlephjhcmbhaaGreat
set_option linter.unusedSimpArgs false
set_option linter.unusedVariables false
open Go Go.RowKit
/-- The state of the reference's Differ behind k numbers. -/
def DiR (w : World) (s : ByteArray) (k : Nat) (v : Value) (W : World) : Prop :=
  W.ownsRow w.heap.size 3 1 v (dl s k).length (ints (dl s k)) ∧ Below w.heap.size w W
theorem DiR.below {w : World} {s : ByteArray} {k : Nat} {v : Value} {W W' : World} (h : DiR w s k v W) (b : Below W.heap.size W W') : DiR w s k v W' :=
  ⟨own_keep h.1 b, h.2.trans (b.mono h.2.size)⟩
theorem DiR.start (w : World) (s : ByteArray) : DiR w s 0 (.slice none 0 0) w :=
  ⟨⟨by simp [dl, ints], .inl ⟨rfl, by simp [dl]⟩⟩, Below.refl _ _⟩
theorem DiR.put {w : World} {s : ByteArray} {k a : Nat} {v v' : Value} {W W2 : World} (h : DiR w s k v W) (hd : dl s (k + 1) = dl s k ++ [a]) (hown : W2.ownsRow w.heap.size 3 1 v' ((dl s k).length + 1) (ints (dl s k) ++ [cN (a : Int)]))
    (hg : (W.alloc (.cells #[cN (a : Int)] 3)).grownBy W2 v.ownBlock) : DiR w s (k + 1) v' W2 := by
  refine ⟨?_, ?_⟩
  · rw [hd, ints_snoc]
    simpa using hown
  · exact (h.2.alloc h.2.size _).grown hg (by have := h.2.size; simp; omega) (fun k hk => (h.1.lt k hk).1)
theorem DiR.same {w : World} {s : ByteArray} {k : Nat} {v : Value} {W : World} (h : DiR w s k v W) (hd : dl s (k + 1) = dl s k) : DiR w s (k + 1) v W := by
  unfold DiR at *
  rw [hd]
  exact h
end Go.Proofs.YtnmlephjhcmbhaaGreat
namespace Go.Proofs.YtnmlephjhcmbhaaGreat
set_option linter.unusedSimpArgs false
set_option linter.unusedVariables false
open Go Go.RowKit
/-- A slice of numbers of the call's own. -/
def IL (w : World) (l : List Nat) (v : Value) (W : World) : Prop := W.ownsRow w.heap.size 3 1 v l.length (ints l) ∧ Below w.heap.size w W
theorem own_base {W : World} {base b' n : Nat} {v : Value} {xs : List Value} {e : TypeId} (h : W.ownsRow base e 1 v n xs) (hb : b' ≤ base) : W.ownsRow b' e 1 v n xs := by
  refine ⟨h.1, ?_⟩
  rcases h.2 with hn | ⟨g, cap, cur, rfl, hbg, rest⟩
  · exact .inl hn
  · exact .inr ⟨g, cap, cur, rfl, Nat.le_trans hb hbg, rest⟩
theorem IL.below {w : World} {l : List Nat} {v : Value} {W W' : World} (h : IL w l v W) (b : Below W.heap.size W W') : IL w l v W' := ⟨own_keep h.1 b, h.2.trans (b.mono h.2.size)⟩
theorem IL.behind {w W0 : World} {l : List Nat} {v : Value} {W : World} (h : Below w.heap.size w W0) (k : IL W0 l v W) : IL w l v W := ⟨own_base k.1 h.size, bthen h k.2⟩
theorem IL.nil (w : World) : IL w [] (.slice none 0 0) w := ⟨⟨by simp [ints], .inl ⟨rfl, rfl⟩⟩, Below.refl _ _⟩
/-- A block of numbers, made just now. -/
theorem IL.mk {w : World} {W : World} (l : List Nat) (cs : Array Value) (n : Nat) (hcs : cs = (ints l).toArray) (hn : n = l.length) (hB : Below w.heap.size w W) (hm : n ≤ maxLen) : IL w l (.slice (some ⟨W.heap.size, 0, none⟩) n n) (W.alloc (.cells cs 3)) := by
  subst hcs hn
  refine ⟨⟨by simp [ints], .inr ⟨W.heap.size, l.length, (ints l).toArray, rfl, hB.size, World.alloc_heap_new _ _, Nat.le_refl _, hm, by simp [ints], (by rw [List.toList_toArray, Nat.mul_one]; exact List.take_of_length_le (by simp [ints]))⟩⟩, hB.alloc hB.size _⟩
theorem own_form {b : Nat} {l : List Nat} {v : Value} {W : World} (h : W.ownsRow b 3 1 v l.length (ints l)) : ∃ a c, v = .slice a l.length c := by
  rcases h.2 with ⟨rfl, h0⟩ | ⟨g, cap, cur, rfl, _⟩
  · exact ⟨none, 0, by rw [h0]⟩
  · exact ⟨_, _, rfl⟩
theorem own_cells {b : Nat} {l : List Nat} {v : Value} {W : World} (h : W.ownsRow b 3 1 v l.length (ints l)) (hl : l ≠ []) : ∃ g c, v = .slice (some ⟨g, 0, none⟩) l.length c ∧ ∀ j, j < l.length → W.cell? ⟨g, 0 + j, none⟩ = some (cN ((l.getD j 0 : Nat) : Int)) := by
  rcases h.2 with ⟨rfl, h0⟩ | ⟨g, cap, cur, rfl, hb, hg, h1, h2, h3, h4⟩
  · exact absurd (List.eq_nil_of_length_eq_zero h0) hl
  · refine ⟨g, cap, rfl, fun j hj => ?_⟩
    rw [Nat.zero_add, Lib.cell_of_heap hg, ← Array.getElem?_toList]
    have : (cur.toList.take (l.length * 1))[j]? = (ints l)[j]? := by rw [h4]
    rw [List.getElem?_take_of_lt (by omega)] at this
    rw [this]
    simp [ints, hj, List.getD]
def toI (l : List Nat) : List Int := l.map fun n : Nat => (n : Int)
theorem toI_getD (l : List Nat) (j : Nat) (h : j < l.length) : (toI l).getD j 0 = ((l.getD j 0 : Nat) : Int) := by simp [toI, h, List.getD]
theorem toI_beq (l m : List Nat) : (toI l == toI m) = (l == m) := by
  rw [Bool.eq_iff_iff, beq_iff_eq, beq_iff_eq]
  constructor
  · intro h
    have := congrArg (List.map Int.toNat) h
    simpa [toI, List.map_map, Function.comp_def] using this
  · rintro rfl; rfl
/-- slices.Equal of two lists of numbers. -/
theorem equal_own {b1 b2 : Nat} {l m : List Nat} {v u : Value} {W : World} (h1 : W.ownsRow b1 3 1 v l.length (ints l)) (h2 : W.ownsRow b2 3 1 u m.length (ints m)) (hl : l.length ≤ maxLen) (hm : m.length ≤ maxLen) :
    Calls Tryz.prog 21 #[v, u] W fun e w' => e = .returned (.bool (l == m)) ∧ Below W.heap.size W w' := by
  unfold maxLen at hl hm
  by_cases hlm : l.length = m.length
  · by_cases hl0 : l = []
    · subst hl0
      have hm0 : m = [] := List.eq_nil_of_length_eq_zero (by simpa using hlm.symm)
      subst hm0
      obtain ⟨a, c, rfl⟩ := own_form h1
      obtain ⟨a', c', rfl⟩ := own_form h2
      refine (Tryz.slices_Equal_int_empty a a' c 0 c' W (by decide)).mono ?_
      rintro e w' ⟨rfl, rfl⟩
      exact ⟨rfl, Below.refl _ _⟩
    · have hm0 : m ≠ [] := fun h => hl0 (List.eq_nil_of_length_eq_zero (by rw [hlm, h]; rfl))
      obtain ⟨g, c, rfl, hc⟩ := own_cells h1 hl0
      obtain ⟨g', c', rfl, hc'⟩ := own_cells h2 hm0
      refine (Tryz.slices_Equal_int g 0 l.length c g' 0 m.length c' (toI l) (toI m) W (by simp [toI]) (by simp [toI]) hl hm (fun j hj => ?_) (fun j hj => ?_)).mono ?_
      · rw [toI, List.length_map] at hj
        rw [hc j hj, toI_getD l j hj]
      · rw [toI, List.length_map] at hj
        rw [hc' j hj, toI_getD m j hj]
      · rintro e w' ⟨rfl, q, rfl⟩
        refine ⟨?_, below_drewN (Below.refl _ _) q⟩
        rw [List.take_of_length_le (by simp [toI]), List.take_of_length_le (by simp [toI]), toI_beq]
  · obtain ⟨a, c, rfl⟩ := own_form h1
    obtain ⟨a', c', rfl⟩ := own_form h2
    refine (Tryz.slices_Equal_int_lens a a' l.length c m.length c' W hlm).mono ?_
    rintro e w' ⟨rfl, rfl⟩
    have : (l == m) = false := by
      rw [beq_eq_false_iff_ne]
      rintro rfl
      exact hlm rfl
    rw [this]
    exact ⟨rfl, Below.refl _ _⟩
theorem equal_ok {w1 w2 : World} {l m : List Nat} {v u : Value} {W : World} (h1 : IL w1 l v W) (h2 : IL w2 m u W) (hl : l.length ≤ maxLen) (hm : m.length ≤ maxLen) :
    Calls Tryz.prog 21 #[v, u] W fun e w' => e = .returned (.bool (l == m)) ∧ Below W.heap.size W w' := equal_own h1.1 h2.1 hl hm
theorem difM_len (s : ByteArray) : (difM s).length ≤ 3 := by
  unfold difM
  split
  · simp
  · exact dl_len s 3
def exR : Rec := ⟨⟨#[65, 46, 59, 49]⟩, 20, 5, 1794845045, 60, 0, 1, ByteArray.empty⟩
end Go.Proofs.YtnmlephjhcmbhaaGreat
namespace Go.Proofs.YtnmlephjhcmbhaaGreat
set_option linter.unusedSimpArgs false
set_option linter.unusedVariables false
open Go Go.RowKit
def recEq (a b : Rec) : Bool := a.id.toList == b.id.toList && (a.lba == b.lba && (a.len == b.len && (a.time == b.time && (a.zone == b.zone && (a.flags == b.flags && (a.seq == b.seq && a.use.toList == b.use.toList))))))
theorem recHeld : Tryz.prog.stoodInHeld 45 = false := by kernel_rfl
theorem plain3 : Tryz.prog.plainKey 3 = true := by kernel_rfl
theorem plain9 : Tryz.prog.plainKey 9 = true := by kernel_rfl
theorem eqF {P : Program} {w : World} {d : Nat} {xs ys : Array Value} {f : Field} {fs : List Field} {va vb : Value} {r q : Bool} (hn : f.name ≠ "_") (ha : (part f.type xs f.offset).run P w = .ok va w) (hb : (part f.type ys f.offset).run P w = .ok vb w)
    (hr : (Op.equalIn d f.type va vb).run P w = .ok r w) (hq : (Op.eqFields d xs ys fs).run P w = .ok q w) : (Op.eqFields d xs ys (f :: fs)).run P w = .ok (r && q) w := by
  simp only [Op.eqFields, if_pos hn, Sem.run_bind, ha, hb, Result.andThen_ok, hr, Sem.run_ite]
  cases r
  · simp
  · simpa using hq
theorem eqFi {P : Program} {w : World} {d : Nat} {xs ys : Array Value} {f : Field} {fs : List Field} {a b : Int} {q : Bool} (hn : f.name ≠ "_") (hp : P.plainKey f.type = true) (hu : P.underlying f.type = some (.int .i64)) (ha : xs[f.offset]? = some (cN a)) (hb : ys[f.offset]? = some (cN b))
    (hq : (Op.eqFields (d + 1) xs ys fs).run P w = .ok q w) : (Op.eqFields (d + 1) xs ys (f :: fs)).run P w = .ok ((a == b) && q) w :=
  eqF hn (run_part_plain w hp ha) (run_part_plain w hp hb) (run_equalIn_int w d _ _ _ _ _ hu) hq
theorem eqFs {P : Program} {w : World} {d : Nat} {xs ys : Array Value} {f : Field} {fs : List Field} {a b : ByteArray} {q : Bool} (hn : f.name ≠ "_") (hp : P.plainKey f.type = true) (hu : P.underlying f.type = some .string) (ha : xs[f.offset]? = some (.string a)) (hb : ys[f.offset]? = some (.string b))
    (hq : (Op.eqFields (d + 1) xs ys fs).run P w = .ok q w) : (Op.eqFields (d + 1) xs ys (f :: fs)).run P w = .ok ((a.toList == b.toList) && q) w :=
  eqF hn (run_part_plain w hp ha) (run_part_plain w hp hb) (run_equalIn_string w d _ _ _ hu) hq
theorem rec_equal (a b : Rec) (w : World) : (Op.equalIn 10000 45 (.agg (recA a)) (.agg (recA b))).run Tryz.prog w = .ok (recEq a b) w := by
  rw [run_equalIn_agg w 9999 45 _ _ (by simp [Program.fieldsOf, Tryz.underlying45]) recHeld]
  simp only [Program.fieldsOf, Tryz.underlying45]
  rw [recEq, show (a.use.toList == b.use.toList) = ((a.use.toList == b.use.toList) && true) by simp]
  refine eqFs (by decide) plain9 Tryz.underlying9 rfl rfl ?_
  refine eqFi (by decide) plain3 Tryz.underlying3 rfl rfl ?_
  refine eqFi (by decide) plain3 Tryz.underlying3 rfl rfl ?_
  refine eqFi (by decide) plain3 Tryz.underlying3 rfl rfl ?_
  refine eqFi (by decide) plain3 Tryz.underlying3 rfl rfl ?_
  refine eqFi (by decide) plain3 Tryz.underlying3 rfl rfl ?_
  refine eqFi (by decide) plain3 Tryz.underlying3 rfl rfl ?_
  refine eqFs (by decide) plain9 Tryz.underlying9 rfl rfl ?_
  simp [Op.eqFields]
theorem rec_eql (a b : Rec) (w : World) : (binOp .eql 45 (.agg (recA a)) (.agg (recA b))).run Tryz.prog w = .ok (.bool (recEq a b)) w := by
  rw [run_eql_struct, rec_equal]
  rfl
theorem rec_neq (a b : Rec) (w : World) : (binOp .neq 45 (.agg (recA a)) (.agg (recA b))).run Tryz.prog w = .ok (.bool (!recEq a b)) w := by
  rw [run_neq_struct, rec_equal]
  rfl
theorem bytes_toList (a b : ByteArray) : a.toList = b.toList ↔ a = b := by rw [← Lib.bytes_beq_iff, beq_iff_eq]
theorem recEq_iff (a b : Rec) : recEq a b = true ↔ a = b := by
  obtain ⟨i1, l1, n1, t1, z1, f1, s1, u1⟩ := a
  obtain ⟨i2, l2, n2, t2, z2, f2, s2, u2⟩ := b
  simp only [recEq, Bool.and_eq_true, beq_iff_eq, bytes_toList, Rec.mk.injEq]
theorem recGuard : Tryz.prog.eqGuardType Tryz.prog.depth 45 = false := by kernel_rfl
end Go.Proofs.YtnmlephjhcmbhaaGreat
namespace Go.Proofs.YtnmlephjhcmbhaaGreat
set_option linter.unusedSimpArgs false
set_option linter.unusedVariables false
open Go Go.RowKit
theorem byteN (n : Nat) (h : n < 256) : (UInt8.ofNat n).toNat = n := by rw [UInt8.toNat_ofNat', Nat.mod_eq_of_lt (show n < 2 ^ 8 by omega)]
/-- The functions Record of both packages give the string d and the error e. -/
structure RecS (t z : Int) (d : ByteArray) (e : Int) : Prop where
  main : ∀ W : World, Calls Tryz.prog 67 #[cN t, cN z] W fun x w' => x = .returned (.tuple #[.string d, cN e]) ∧ Below W.heap.size W w'
  ref : ∀ W : World, Calls Tryz.prog 72 #[cN t, cN z] W fun x w' => x = .returned (.tuple #[.string d, cN e]) ∧ Below W.heap.size W w'
/-- A time, in the zone: a date and a time of day. -/
structure TimeOf (t z : Int) (x : Dt) (h m s : Nat) : Prop where
  good : x.Good
  hh : h < 24
  hm : m < 60
  hs : s < 60
  eq : t + 60 * z = (x.days : Int) * 86400 + h * 3600 + m * 60 + s
def inT (t z : Int) : Prop := (315532800 ≤ t ∧ t ≤ 4102444799) ∧ z % 15 = 0 ∧ -720 ≤ z ∧ z ≤ 780
theorem time_of {t z : Int} (h : inT t z) : ∃ x hh mm ss, TimeOf t z x hh mm ss := by
  unfold inT at h
  obtain ⟨L, hL⟩ : ∃ L : Nat, t + 60 * z = L := ⟨(t + 60 * z).toNat, by omega⟩
  obtain ⟨x, hx, hxd⟩ := date_of (L / 86400)
  exact ⟨x, L % 86400 / 3600, L % 86400 / 60 % 60, L % 86400 % 60, hx, by omega, by omega, by omega, by omega⟩
def recB (x : Dt) (h m s : Nat) (z : Int) : ByteArray := ⟨(recL (1970 + x.k) (x.c + 1) (x.d + 1) h m s z).toArray⟩
theorem recS_good {t z : Int} {x : Dt} {h m s : Nat} (hT : inT t z) (k : TimeOf t z x h m s) : RecS t z (recB x h m s z) 0 :=
  ⟨fun W => record_ok t z x h m s W k.good hT.1 hT.2 k.hh k.hm k.hs k.eq, fun W => rrecord_ok t z x h m s W k.good hT.1 hT.2 k.hh k.hm k.hs k.eq⟩
theorem recS_bad {t z : Int} (hT : ¬ inT t z) : RecS t z ByteArray.empty 2 := ⟨fun W => record_bad t z W hT, fun W => rrecord_bad t z W hT⟩
theorem zN_zB {z : Int} (h : z % 15 = 0 ∧ -720 ≤ z ∧ z ≤ 780) : 15 * zN (zB z).toNat = z ∧ zR (zB z).toNat = true := by
  obtain ⟨q, hq⟩ : ∃ q, z / 15 = q := ⟨_, rfl⟩
  have hb : -48 ≤ q ∧ q ≤ 52 := by omega
  have e : (zB z).toNat = ((q + 256) % 256).toNat := by rw [zB, hq, byteN _ (by omega)]
  have e2 : zN (zB z).toNat = q := by
    rw [e, zN]
    split <;> omega
  exact ⟨by rw [e2]; omega, by rw [zR, e2, decide_eq_true_iff]; exact hb⟩
/-- What is written is read back. -/
theorem rec_read {t z : Int} {x : Dt} {h m s : Nat} (hT : inT t z) (k : TimeOf t z x h m s) {f : Nat → Nat} (hf : ∀ i, i < 7 → f i = ((recL (1970 + x.k) (x.c + 1) (x.d + 1) h m s z).getD i 0).toNat) : rrE f = 0 ∧ rrA f = t ∧ rrB f = z := by
  obtain ⟨hg, hh, hm, hs, he⟩ := k
  have hk := years_le hT.1.2 (by have := hT.2; omega) he
  have hd := (mD_ge (1970 + x.k) (x.c + 1)).2
  have g1 := hg.1
  have g2 := hg.2
  have f0 : f 0 = 1970 + x.k - 1900 := (hf 0 (by decide)).trans (byteN _ (by omega))
  have f1 : f 1 = x.c + 1 := (hf 1 (by decide)).trans (byteN _ (by omega))
  have f2 : f 2 = x.d + 1 := (hf 2 (by decide)).trans (byteN _ (by omega))
  have f3 : f 3 = h := (hf 3 (by decide)).trans (byteN _ (by omega))
  have f4 : f 4 = m := (hf 4 (by decide)).trans (byteN _ (by omega))
  have f5 : f 5 = s := (hf 5 (by decide)).trans (byteN _ (by omega))
  have f6 : f 6 = (zB z).toNat := hf 6 (by decide)
  have fY : 1900 + f 0 = 1970 + x.k := by omega
  obtain ⟨z1, z2⟩ := zN_zB hT.2
  have hV : rrV f = true := by
    rw [rrV, fY, f1, f2, f3, f4, f5, validB_iff]
    omega
  have hZ : rrZ f = z := by rw [rrZ, f6, z1]
  have hT2 : rrT f = t := by
    rw [rrT, fY, f1, f2, f3, f4, f5, hZ, secI_date]
    omega
  have hI : isT t = true := by rw [isT, decide_eq_true_iff]; exact hT.1
  have hE : rrE f = 0 := by rw [rrE, hV, hT2, f6, z2, fE, hI]; rfl
  refine ⟨hE, ?_, ?_⟩
  · rw [rrA, hV, hT2, f6, z2, fT, hI]; rfl
  · rw [rrB, if_pos hE, hZ]
theorem rr_cases (f : Nat → Nat) : (rrE f = 0 ∧ rrV f = true ∧ zR (f 6) = true ∧ isT (rrT f) = true ∧ rrA f = rrT f ∧ rrB f = rrZ f) ∨ (rrE f ≠ 0 ∧ rrA f = 0 ∧ rrB f = 0) := by
  rw [rrB]
  unfold rrE rrA fE fT
  cases rrV f <;> cases zR (f 6) <;> cases isT (rrT f) <;> simp
/-- What is read was written so: the bytes of a date that is read are those that are written for it. -/
theorem rec_canon {f : Nat → Nat} (hf8 : ∀ i, f i < 256) (hE : rrE f = 0) : inT (rrA f) (rrB f) ∧ ∃ x h m s, TimeOf (rrA f) (rrB f) x h m s ∧ ∀ i, i < 7 → f i = ((recL (1970 + x.k) (x.c + 1) (x.d + 1) h m s (rrB f)).getD i 0).toNat := by
  rcases rr_cases f with ⟨-, hV, hR, hI, hA, hB⟩ | ⟨h, -⟩
  · rw [hA, hB]
    rw [isT, decide_eq_true_iff] at hI
    have hR' := hR
    rw [zR, decide_eq_true_iff] at hR
    have hin : inT (rrT f) (rrZ f) := ⟨hI, by rw [rrZ]; omega, by rw [rrZ]; omega, by rw [rrZ]; omega⟩
    refine ⟨hin, ?_⟩
    have hsec : rrT f + 60 * rrZ f = secI (1900 + f 0) (f 1) (f 2) (f 3) (f 4) (f 5) := by rw [rrT]; omega
    have hv := hV
    rw [rrV, validB_iff] at hV
    have hY : 1970 ≤ 1900 + f 0 := by
      rcases Nat.lt_or_ge (1900 + f 0) 1970 with hlt | hge
      · exfalso
        have := dayI_neg (1900 + f 0) (f 1) (f 2) hlt (by omega) (by omega) (by omega)
        rw [secI] at hsec
        have hz : -720 ≤ rrZ f := hin.2.2.1
        omega
      · exact hge
    obtain ⟨x, hg, e1, e2, e3⟩ := date_clock _ _ _ _ _ _ hv hY
    refine ⟨x, f 3, f 4, f 5, ⟨hg, by omega, by omega, by omega, ?_⟩, ?_⟩
    · rw [hsec, ← e1, ← e2, ← e3, secI_date]
    · have b0 : f 0 = 1970 + x.k - 1900 := by omega
      have hz6 : f 6 = (zB (rrZ f)).toNat := by
        have hb := hf8 6
        have hq : rrZ f / 15 = zN (f 6) := by rw [rrZ]; omega
        rw [zB, hq, byteN _ (by omega)]
        rw [zN]
        split <;> omega
      intro i hi
      match i, hi with
      | 0, _ => rw [b0]; exact (byteN _ (by have := hf8 0; omega)).symm
      | 1, _ => rw [e2]; exact (byteN _ (hf8 1)).symm
      | 2, _ => rw [e3]; exact (byteN _ (hf8 2)).symm
      | 3, _ => exact (byteN _ (hf8 3)).symm
      | 4, _ => exact (byteN _ (hf8 4)).symm
      | 5, _ => exact (byteN _ (hf8 5)).symm
      | 6, _ => exact hz6
  · exact absurd hE h
theorem recL_len (Y M D h m s : Nat) (z : Int) : (recL Y M D h m s z).length = 7 := rfl
theorem time_inj {t z : Int} {x y : Dt} {h m s h' m' s' : Nat} (k : TimeOf t z x h m s) (k' : TimeOf t z y h' m' s') : x = y ∧ h = h' ∧ m = m' ∧ s = s' := by
  have e := k.eq
  have e' := k'.eq
  have h1 := k.hh
  have h2 := k.hm
  have h3 := k.hs
  have h1' := k'.hh
  have h2' := k'.hm
  have h3' := k'.hs
  have hd : x.days = y.days := by omega
  exact ⟨date_inj k.good k'.good hd, by omega, by omega, by omega⟩
end Go.Proofs.YtnmlephjhcmbhaaGreat
namespace Go.Proofs.YtnmlephjhcmbhaaGreat
set_option linter.unusedSimpArgs false
set_option linter.unusedVariables false
open Go Go.RowKit
def exB : ByteArray := ⟨#[38, 0, 20, 0, 0, 0, 0, 0, 0, 20, 5, 0, 0, 0, 0, 0, 0, 5, 126, 11, 16, 17, 4, 5, 4, 0, 0, 0, 1, 0, 0, 1, 4, 65, 46, 59, 49, 0]⟩
def exB2 : ByteArray := ⟨#[38, 0, 20, 0, 0, 0, 0, 0, 0, 20, 5, 0, 0, 0, 0, 0, 0, 5, 126, 11, 16, 17, 4, 5, 4, 0, 0, 0, 1, 0, 0, 1, 4, 65, 46, 59, 49, 0, 98, 101, 104, 105, 110, 100]⟩
def exB3 : ByteArray := ⟨#[38, 0, 21, 0, 0, 0, 0, 0, 0, 20, 5, 0, 0, 0, 0, 0, 0, 5, 126, 11, 16, 17, 4, 5, 4, 0, 0, 0, 1, 0, 0, 1, 4, 65, 46, 59, 49, 0]⟩
theorem exTime : TimeOf 1794845045 60 ⟨56, 10, 15⟩ 17 4 5 := ⟨⟨by decide +kernel, by decide +kernel⟩, by decide, by decide, by decide, by decide +kernel⟩
theorem exIn : inT 1794845045 60 := by unfold inT; decide
theorem exStr : strM exR (recB ⟨56, 10, 15⟩ 17 4 5 60) 0 = exB := by decide +kernel
theorem exErr : errM exR 0 = 0 := by decide +kernel
theorem exDecE : decE exB2 = 0 := by decide +kernel
theorem exDecN : decN exB2 = 38 := by decide +kernel
theorem exDecR : decR exB2 = exR := by
  rw [← recEq_iff]
  decide +kernel
theorem exDif : difM exB3 = [2] := by decide +kernel
theorem exEnc (W : World) : Calls Tryz.prog 48 #[.agg (recA exR)] W fun e w' => e = .returned (.tuple #[.string exB, cN 0]) ∧ Below W.heap.size W w' := by
  have h := encode_ok exR _ 0 W (.inl rfl) (by decide +kernel) (by decide +kernel) (by decide +kernel) (recS_good exIn exTime).main
  rw [exStr, exErr] at h
  exact h
theorem exDec (W : World) : Calls Tryz.prog 50 #[.string exB2] W fun e w' => e = .returned (.tuple #[.agg (recA exR), cN 38, cN 0]) ∧ Below W.heap.size W w' := by
  have h := decode_ok exB2 W (by decide +kernel)
  rw [exDecR, exDecN, exDecE] at h
  exact h
theorem exSize (W : World) : Calls Tryz.prog 66 #[cN 4, cN 0] W fun e w' => e = .returned (cN 38) ∧ W = w' := size_ok 4 0 W
/-- The predicate of a value: a slice of numbers of the call's own. -/
def VI (l : List Nat) : World → Value → Prop := fun W v => W.ownsRow 0 3 1 v l.length (ints l)
theorem VI_keeps (l : List Nat) : Keeps (VI l) := fun _ _ _ hB h => own_keep h hB
theorem own_row {W : World} {g : Nat} (l : List Nat) {cs : Array Value} {n : Nat} (hcs : cs = (ints l).toArray) (hn : n = l.length) (hm : n ≤ maxLen) (hg : W.heap[g]? = some (.cells cs 3 (0, 0))) : W.ownsRow 0 3 1 (.slice (some ⟨g, 0, none⟩) n n) l.length (ints l) := by
  subst hcs hn
  exact ⟨by simp [ints], .inr ⟨g, l.length, (ints l).toArray, rfl, Nat.zero_le _, hg, Nat.le_refl _, hm, by simp [ints], (by rw [List.toList_toArray, Nat.mul_one]; exact List.take_of_length_le (by simp [ints]))⟩⟩
end Go.Proofs.YtnmlephjhcmbhaaGreat
namespace Go.Proofs.YtnmlephjhcmbhaaGreat
set_option linter.unusedSimpArgs false
set_option linter.unusedVariables false
open Go Go.RowKit
theorem ext_list {a b : ByteArray} (h : a.data.toList = b.data.toList) : a = b := ByteArray.ext (Array.toList_inj.1 h)
theorem extract_list (s : ByteArray) (a b : Nat) : (s.extract a b).data.toList = (s.data.toList.drop a).take (b - a) := by
  rw [ByteArray.data_extract, Array.toList_extract, List.extract_eq_take_drop]
def hB (H : List UInt8) (i : Nat) : Nat := (H.getD i 0).toNat
theorem hB_lt (H : List UInt8) (i : Nat) : hB H i < 256 := UInt8.toNat_lt _
/-- The first 32 bytes of a record. -/
structure HeadOf (r : Rec) (n : Nat) (H : List UInt8) : Prop where
  len : H.length = 32
  b0 : hB H 0 = n
  b1 : hB H 1 = 0
  b26 : hB H 26 = 0
  b27 : hB H 27 = 0
  lba : ((acc (fun i => hB H (2 + i)) 4 : Nat) : Int) = r.lba
  ln : ((acc (fun i => hB H (10 + i)) 4 : Nat) : Int) = r.len
  sq : ((acc (fun i => hB H (28 + i)) 2 : Nat) : Int) = r.seq
  fl : ((hB H 25 : Nat) : Int) = r.flags
  dE : rrE (fun i => hB H (18 + i)) = 0
  dA : rrA (fun i => hB H (18 + i)) = r.time
  dB : rrB (fun i => hB H (18 + i)) = r.zone
def tailL (r : Rec) : List UInt8 := bN r.id.size :: (r.id.data.toList ++ (padB r.id.size ++ r.use.data.toList))
theorem encL_head (r : Rec) (n : Int) (d : ByteArray) : encL r n d = encH r n d ++ tailL r := by
  simp [encL, tailL]
theorem padB_len (k : Nat) : 33 + k + (padB k).length = padN k := by
  unfold padB padN
  split <;> simp <;> omega
theorem sB_head {t : ByteArray} {H T : List UInt8} (ht : t.data.toList = H ++ T) (i : Nat) (hi : i < H.length) : sB t i = hB H i := by
  rw [sB, ht, hB, List.getD_eq_getElem?_getD, List.getD_eq_getElem?_getD, List.getElem?_append_left hi]
theorem bN_size (k : Nat) (h : k < 256) : (bN (k : Int)).toNat = k := by
  rw [bN, show ((k : Int) % 256).toNat = k by omega, byteN _ h]
theorem size_facts {i u n : Nat} (hn : sizeI i u = n) (h0 : n ≠ 0) : 34 ≤ n ∧ n ≤ 254 ∧ n % 2 = 0 ∧ 1 ≤ i ∧ i ≤ 254 ∧ u % 2 = 0 ∧ padN i + u = n := by
  unfold sizeI at hn
  split at hn
  · rename_i h
    obtain ⟨⟨a, b⟩, ⟨c, d⟩, e, f⟩ := h
    unfold padN
    omega
  · omega
/-- A string that begins with such a head and the rest of the record is decoded as the record. -/
theorem dec_of_head {t : ByteArray} {r : Rec} {n : Nat} {H b : List UInt8} (hH : HeadOf r n H) (hn : sizeI r.id.size r.use.size = n) (h0 : n ≠ 0) (ht : t.data.toList = H ++ (tailL r ++ b)) :
    decE t = 0 ∧ decN t = n ∧ decR t = r ∧ sB t 32 = r.id.size ∧ n ≤ t.size := by
  obtain ⟨f1, f2, f3, f4, f5, f6, f7⟩ := size_facts hn h0
  have hl : ∀ i, i < 32 → sB t i = hB H i := fun i hi => sB_head ht i (by rw [hH.len]; exact hi)
  have b32 : sB t 32 = r.id.size := by
    rw [sB, ht, List.getD_eq_getElem?_getD, List.getElem?_append_right (by rw [hH.len]; exact Nat.le_refl _), hH.len]
    exact bN_size _ (by omega)
  have hts : t.size = 33 + r.id.size + (padB r.id.size).length + r.use.size + b.length := by
    rw [← list_size, ht]
    simp only [tailL, List.length_append, List.length_cons, hH.len, list_size]
    omega
  have hp := padB_len r.id.size
  have hb : sizesBad t = false := by
    rw [sizesBad, decide_eq_false_iff_not, hl 0 (by decide), hH.b0, b32]
    omega
  obtain ⟨a1, a2, a3⟩ := rr_congr (f := fD t) (g := fun i => hB H (18 + i)) fun i hi => hl (18 + i) (by omega)
  have hE : decE t = 0 := by
    rw [decE, if_neg (by omega), if_neg (by rw [hb]; decide), hl 1 (by decide), hl 26 (by decide), hl 27 (by decide), hH.b1, hH.b26, hH.b27, if_neg (by simp), a3, hH.dE]
  refine ⟨hE, by rw [decN, if_pos hE, hl 0 (by decide), hH.b0], ?_, b32, by omega⟩
  have e1 : t.extract 33 (33 + sB t 32) = r.id := by
    rw [b32]
    apply ext_list
    rw [extract_list, ht, show H ++ (tailL r ++ b) = (H ++ [bN r.id.size]) ++ (r.id.data.toList ++ (padB r.id.size ++ r.use.data.toList ++ b)) by simp [tailL], List.drop_left' (by simp [hH.len]), List.take_left' (by rw [list_size]; omega)]
  have e2 : t.extract (padN (sB t 32)) (sB t 0) = r.use := by
    rw [b32, hl 0 (by decide), hH.b0]
    apply ext_list
    rw [extract_list, ht, show H ++ (tailL r ++ b) = (H ++ [bN r.id.size] ++ r.id.data.toList ++ padB r.id.size) ++ (r.use.data.toList ++ b) by simp [tailL], List.drop_left' (by simp only [List.length_append, hH.len, List.length_cons, List.length_nil, list_size]; omega), List.take_left' (by rw [list_size]; omega)]
  have n1 : leR t 2 4 = acc (fun i => hB H (2 + i)) 4 := acc_congr fun i hi => hl (2 + i) (by omega)
  have n2 : leR t 10 4 = acc (fun i => hB H (10 + i)) 4 := acc_congr fun i hi => hl (10 + i) (by omega)
  have n3 : leR t 28 2 = acc (fun i => hB H (28 + i)) 2 := acc_congr fun i hi => hl (28 + i) (by omega)
  rw [decR, if_pos hE, recOf, e1, e2, n1, n2, n3, hH.lba, hH.ln, hH.sq, a1, a2, hH.dA, hH.dB, hl 25 (by decide), hH.fl]
/-- The halves of a number in a head agree. -/
def smH (H : List UInt8) (a z : Nat) : Bool := decide (acc (fun i => hB H (a + i)) z = acc (fun i => hB H (a + z + (z - 1 - i))) z)
def difL (H : List UInt8) : List Nat := (((if smH H 2 4 then [] else [2]) ++ (if smH H 10 4 then [] else [10])) ++ (if smH H 28 2 then [] else [28]))
theorem smB_head {t : ByteArray} {H T : List UInt8} (ht : t.data.toList = H ++ T) (hl : H.length = 32) (a z : Nat) (h : a + 2 * z ≤ 32) : smB t a z = smH H a z := by
  have e1 : leR t a z = acc (fun i => hB H (a + i)) z := acc_congr fun i hi => sB_head ht _ (by omega)
  have e2 : beR t (a + z) z = acc (fun i => hB H (a + z + (z - 1 - i))) z := acc_congr fun i hi => sB_head ht _ (by omega)
  rw [smB, smH, e1, e2]
theorem dl3 (s : ByteArray) : dl s 3 = (([] ++ (if smB s 2 4 then [] else [2])) ++ (if smB s 10 4 then [] else [10])) ++ (if smB s 28 2 then [] else [28]) := rfl
theorem difM_head {t : ByteArray} {H T : List UInt8} (ht : t.data.toList = H ++ T) (hl : H.length = 32) (hs : 34 ≤ t.size) : difM t = difL H := by
  rw [difM, if_neg (by omega)]
  rw [dl3, smB_head ht hl 2 4 (by decide), smB_head ht hl 10 4 (by decide), smB_head ht hl 28 2 (by decide), List.nil_append, difL]
/-- The head that is written. -/
theorem encH_list (r : Rec) (n : Int) (d : ByteArray) {d0 d1 d2 d3 d4 d5 d6 : UInt8} (hd : d.data.toList = [d0, d1, d2, d3, d4, d5, d6]) (h1 : inR r.lba 4 = true) (h2 : inR r.len 4 = true) (h3 : inR r.seq 2 = true) :
    encH r n d = [bN n, 0, byteAt r.lba.toNat 0, byteAt r.lba.toNat 1, byteAt r.lba.toNat 2, byteAt r.lba.toNat 3, byteAt r.lba.toNat 3, byteAt r.lba.toNat 2, byteAt r.lba.toNat 1, byteAt r.lba.toNat 0,
      byteAt r.len.toNat 0, byteAt r.len.toNat 1, byteAt r.len.toNat 2, byteAt r.len.toNat 3, byteAt r.len.toNat 3, byteAt r.len.toNat 2, byteAt r.len.toNat 1, byteAt r.len.toNat 0, d0, d1, d2, d3, d4, d5, d6, bN r.flags, 0, 0,
      byteAt r.seq.toNat 0, byteAt r.seq.toNat 1, byteAt r.seq.toNat 1, byteAt r.seq.toNat 0] := by
  simp [encH, outs, eB, h1, h2, h3, both, leL, hd, List.range_succ]
theorem inR_lt {z : Int} {k : Nat} (h : inR z k = true) : 0 ≤ z ∧ z < 2 ^ (8 * k) := by
  rw [inR, decide_eq_true_iff] at h
  exact h
theorem acc_of {L : List UInt8} {a z : Nat} {v : Int} (hv : inR v z = true) (h : ∀ i, i < z → hB L (a + i) = (byteAt v.toNat i).toNat) : ((acc (fun i => hB L (a + i)) z : Nat) : Int) = v := by
  rw [acc_congr h, acc_byteAt]
  have := inR_lt hv
  rw [Nat.mod_eq_of_lt]
  · omega
  · have h2 := this.2
    have h3 : ((v.toNat : Nat) : Int) < ((2 ^ (8 * z) : Nat) : Int) := by
      rw [Int.natCast_pow, Int.toNat_of_nonneg this.1]
      exact h2
    exact_mod_cast h3
theorem smH_of {L : List UInt8} {a z v : Nat} (h : ∀ i, i < z → hB L (a + i) = (byteAt v i).toNat) (k : ∀ i, i < z → hB L (a + z + (z - 1 - i)) = (byteAt v i).toNat) : smH L a z = true := by
  rw [smH, decide_eq_true_iff, acc_congr h, acc_congr k]
theorem i4 {P : Nat → Prop} (h0 : P 0) (h1 : P 1) (h2 : P 2) (h3 : P 3) : ∀ i, i < 4 → P i
  | 0, _ => h0
  | 1, _ => h1
  | 2, _ => h2
  | 3, _ => h3
  | _ + 4, h => by omega
theorem i2 {P : Nat → Prop} (h0 : P 0) (h1 : P 1) : ∀ i, i < 2 → P i
  | 0, _ => h0
  | 1, _ => h1
  | _ + 2, h => by omega
theorem i7 {P : Nat → Prop} (h0 : P 0) (h1 : P 1) (h2 : P 2) (h3 : P 3) (h4 : P 4) (h5 : P 5) (h6 : P 6) : ∀ i, i < 7 → P i
  | 0, _ => h0
  | 1, _ => h1
  | 2, _ => h2
  | 3, _ => h3
  | 4, _ => h4
  | 5, _ => h5
  | 6, _ => h6
  | _ + 7, h => by omega
/-- What errM is 0 says. -/
theorem errM_zero {r : Rec} (h : errM r 0 = 0) : inT r.time r.zone → inR r.lba 4 = true ∧ inR r.len 4 = true ∧ inR r.seq 2 = true ∧ 0 ≤ r.flags ∧ r.flags ≤ 255 ∧ ∃ n : Nat, sizeI r.id.size r.use.size = n ∧ n ≠ 0 := by
  intro _
  unfold errM at h
  split at h
  · cases h
  split at h
  · cases h
  rename_i h1
  split at h
  · rename_i h2
    obtain ⟨hx, f1, f2⟩ := h2
    obtain ⟨-, i1, i2, i3⟩ := (encX_zero r 0).1 hx
    have hs := sizeI_le (r.id.size : Int) (r.use.size : Int)
    exact ⟨i1, i2, i3, f1, f2, (sizeI r.id.size r.use.size).toNat, by omega, by omega⟩
  · cases h
set_option maxRecDepth 100000 in
set_option maxHeartbeats 400000 in
theorem head_of_enc {r : Rec} {n : Nat} {x : Dt} {hh mm ss : Nat} (hT : inT r.time r.zone) (k : TimeOf r.time r.zone x hh mm ss) (h1 : inR r.lba 4 = true) (h2 : inR r.len 4 = true) (h3 : inR r.seq 2 = true) (hf0 : 0 ≤ r.flags) (hf1 : r.flags ≤ 255) (hn : n < 256) :
    HeadOf r n (encH r n (recB x hh mm ss r.zone)) ∧ difL (encH r n (recB x hh mm ss r.zone)) = [] := by
  have hr := rec_read hT k (f := fun i => ((recL (1970 + x.k) (x.c + 1) (x.d + 1) hh mm ss r.zone).getD i 0).toNat) fun _ _ => rfl
  rw [encH_list r n (recB x hh mm ss r.zone) (d0 := UInt8.ofNat (1970 + x.k - 1900)) (d1 := UInt8.ofNat (x.c + 1)) (d2 := UInt8.ofNat (x.d + 1)) (d3 := UInt8.ofNat hh) (d4 := UInt8.ofNat mm) (d5 := UInt8.ofNat ss) (d6 := zB r.zone) rfl h1 h2 h3]
  have hF : (bN r.flags).toNat = r.flags.toNat := by
    have := bN_size r.flags.toNat (by omega)
    rwa [show ((r.flags.toNat : Nat) : Int) = r.flags by omega] at this
  generalize hL : ([bN n, 0, byteAt r.lba.toNat 0, byteAt r.lba.toNat 1, byteAt r.lba.toNat 2, byteAt r.lba.toNat 3, byteAt r.lba.toNat 3, byteAt r.lba.toNat 2, byteAt r.lba.toNat 1, byteAt r.lba.toNat 0,
      byteAt r.len.toNat 0, byteAt r.len.toNat 1, byteAt r.len.toNat 2, byteAt r.len.toNat 3, byteAt r.len.toNat 3, byteAt r.len.toNat 2, byteAt r.len.toNat 1, byteAt r.len.toNat 0, UInt8.ofNat (1970 + x.k - 1900), UInt8.ofNat (x.c + 1), UInt8.ofNat (x.d + 1), UInt8.ofNat hh, UInt8.ofNat mm, UInt8.ofNat ss, zB r.zone, bN r.flags, 0, 0,
      byteAt r.seq.toNat 0, byteAt r.seq.toNat 1, byteAt r.seq.toNat 1, byteAt r.seq.toNat 0] : List UInt8) = L
  have hfd : ∀ i, i < 7 → hB L (18 + i) = ((recL (1970 + x.k) (x.c + 1) (x.d + 1) hh mm ss r.zone).getD i 0).toNat := by
    rw [← hL]
    exact i7 rfl rfl rfl rfl rfl rfl rfl
  obtain ⟨a1, a2, a3⟩ := rr_congr hfd
  have l1 : ∀ i, i < 4 → hB L (2 + i) = (byteAt r.lba.toNat i).toNat := by rw [← hL]; exact i4 rfl rfl rfl rfl
  have l2 : ∀ i, i < 4 → hB L (10 + i) = (byteAt r.len.toNat i).toNat := by rw [← hL]; exact i4 rfl rfl rfl rfl
  have l3 : ∀ i, i < 2 → hB L (28 + i) = (byteAt r.seq.toNat i).toNat := by rw [← hL]; exact i2 rfl rfl
  have m1 : ∀ i, i < 4 → hB L (2 + 4 + (4 - 1 - i)) = (byteAt r.lba.toNat i).toNat := by rw [← hL]; exact i4 rfl rfl rfl rfl
  have m2 : ∀ i, i < 4 → hB L (10 + 4 + (4 - 1 - i)) = (byteAt r.len.toNat i).toNat := by rw [← hL]; exact i4 rfl rfl rfl rfl
  have m3 : ∀ i, i < 2 → hB L (28 + 2 + (2 - 1 - i)) = (byteAt r.seq.toNat i).toNat := by rw [← hL]; exact i2 rfl rfl
  refine ⟨⟨by rw [← hL]; rfl, by rw [← hL]; exact bN_size n hn, by rw [← hL]; rfl, by rw [← hL]; rfl, by rw [← hL]; rfl, acc_of h1 l1, acc_of h2 l2, acc_of h3 l3, ?_, a3.trans hr.1, a1.trans hr.2.1, a2.trans hr.2.2⟩, ?_⟩
  · rw [← hL]
    show (((bN r.flags).toNat : Nat) : Int) = r.flags
    rw [hF]
    omega
  · rw [difL, smH_of l1 m1, smH_of l2 m2, smH_of l3 m3]
    rfl
def sU (s : ByteArray) (i : Nat) : UInt8 := s.data.toList.getD i 0
theorem sB_sU (s : ByteArray) (i : Nat) : sB s i = (sU s i).toNat := rfl
theorem sU_zero {s : ByteArray} {i : Nat} (h : sB s i = 0) : sU s i = 0 := UInt8.toNat_inj.1 h
theorem range_take (l : List UInt8) : ∀ k, k ≤ l.length → (List.range k).map (fun i => l.getD i 0) = l.take k
  | 0, _ => by simp
  | k + 1, h => by
    rw [List.range_succ, List.map_append, range_take l k (by omega), List.take_succ_eq_append_getElem (by omega), List.map_cons, List.map_nil, List.getD_eq_getElem?_getD, List.getElem?_eq_getElem (by omega), Option.getD_some]
theorem byteAt_acc (f : Nat → Nat) (hf : ∀ i, f i < 256) (k i : Nat) (hi : i < k) : (byteAt (acc f k) i).toNat = f i :=
  acc_inj (fun _ => UInt8.toNat_lt _) hf k (by rw [acc_byteAt, Nat.mod_eq_of_lt (acc_lt f hf k)]) i hi
theorem byteAt_le (s : ByteArray) (a z i : Nat) (hi : i < z) : byteAt (leR s a z) i = sU s (a + i) :=
  UInt8.toNat_inj.1 (byteAt_acc (fun i => sB s (a + i)) (fun _ => sB_lt _ _) z i hi)
theorem sm_iff (s : ByteArray) (a z : Nat) : smB s a z = true ↔ ∀ i, i < z → sU s (a + i) = sU s (a + z + (z - 1 - i)) := by
  rw [smB, decide_eq_true_iff]
  constructor
  · intro h i hi
    exact UInt8.toNat_inj.1 (acc_inj (f := fun i => sB s (a + i)) (g := fun i => sB s (a + z + (z - 1 - i))) (fun _ => sB_lt _ _) (fun _ => sB_lt _ _) z h i hi)
  · intro h
    exact acc_congr (f := fun i => sB s (a + i)) (g := fun i => sB s (a + z + (z - 1 - i))) fun i hi => by rw [sB_sU, sB_sU, h i hi]
theorem difM_nil {s : ByteArray} (hs : 34 ≤ s.size) : difM s = [] ↔ smB s 2 4 = true ∧ smB s 10 4 = true ∧ smB s 28 2 = true := by
  rw [difM, if_neg (by omega)]
  rw [dl3, List.nil_append]
  generalize smB s 2 4 = a
  generalize smB s 10 4 = b
  generalize smB s 28 2 = c
  cases a <;> cases b <;> cases c <;> simp
theorem drop_split (l : List UInt8) (a b : Nat) (h : a ≤ b) : l.drop a = (l.drop a).take (b - a) ++ l.drop b := by
  have h1 := (List.take_append_drop (b - a) (l.drop a)).symm
  rw [List.drop_drop, show a + (b - a) = b by omega] at h1
  exact h1
theorem split_list (s : ByteArray) (k p n : Nat) (h1 : 33 + k ≤ p) (h2 : p ≤ n) (h3 : n ≤ s.size) :
    s.data.toList = s.data.toList.take 32 ++ (sU s 32 :: ((s.extract 33 (33 + k)).data.toList ++ ((s.extract (33 + k) p).data.toList ++ ((s.extract p n).data.toList ++ s.data.toList.drop n)))) := by
  have hl : s.data.toList.length = s.size := list_size s
  rw [extract_list, extract_list, extract_list, ← drop_split _ p n h2, ← drop_split _ (33 + k) p h1, ← drop_split _ 33 (33 + k) (by omega)]
  have h4 : s.data.toList.drop 32 = sU s 32 :: s.data.toList.drop 33 := by
    rw [List.drop_eq_getElem_cons (by omega), sU, List.getD_eq_getElem?_getD, List.getElem?_eq_getElem (by omega), Option.getD_some]
  rw [← h4, List.take_append_drop]
theorem extract_one (s : ByteArray) (a : Nat) (h : a < s.size) : (s.extract a (a + 1)).data.toList = [sU s a] := by
  have hl : s.data.toList.length = s.size := list_size s
  rw [extract_list, List.drop_eq_getElem_cons (by omega), sU, List.getD_eq_getElem?_getD, List.getElem?_eq_getElem (by omega), Option.getD_some, show a + 1 - a = 1 by omega]
  rfl
theorem bN_toNat (c : UInt8) : bN (c.toNat : Int) = c := UInt8.toNat_inj.1 (bN_size _ (UInt8.toNat_lt c))
theorem inR_nat {v k : Nat} (h : v < 2 ^ (8 * k)) : inR (v : Int) k = true := by
  rw [inR, decide_eq_true_iff]
  refine ⟨by omega, ?_⟩
  have : ((v : Nat) : Int) < ((2 ^ (8 * k) : Nat) : Int) := by exact_mod_cast h
  rwa [Int.natCast_pow] at this
/-- What a decoded string says of its bytes. -/
structure DecF (s : ByteArray) (n k : Nat) : Prop where
  b0 : sB s 0 = n
  b32 : sB s 32 = k
  hs : n ≤ s.size
  h34 : 34 ≤ n
  even : n % 2 = 0
  le : n ≤ 254
  hk : 1 ≤ k
  hp : padN k ≤ n
  z1 : sB s 1 = 0
  z26 : sB s 26 = 0
  z27 : sB s 27 = 0
  hE : rrE (fD s) = 0
theorem decF_of {s : ByteArray} (h : decE s = 0) : DecF s (sB s 0) (sB s 32) := by
  unfold decE at h
  split at h
  · cases h
  rename_i h1
  split at h
  · cases h
  rename_i h2
  split at h
  · cases h
  rename_i h3
  rw [sizesBad, decide_eq_true_iff] at h2
  have := sB_lt s 0
  exact ⟨rfl, rfl, by omega, by omega, by omega, by omega, by omega, by omega, by omega, by omega, by omega, h⟩
/-- What is decoded, is encoded in as many bytes, and decoded as the same record; the bytes are the same if those that do not matter are as they are written. -/
theorem back {s : ByteArray} {n k : Nat} (F : DecF s n k) : ∃ d : ByteArray, d.size ≤ 7 ∧ RecS (recOf s).time (recOf s).zone d 0 ∧ errM (recOf s) 0 = 0 ∧ (strM (recOf s) d 0).size = n ∧ decE (strM (recOf s) d 0) = 0 ∧ decN (strM (recOf s) d 0) = n ∧ decR (strM (recOf s) d 0) = recOf s
    ∧ (recOf s).id.size = k ∧ (recOf s).use.size = n - padN k ∧ (strM (recOf s) d 0 = s.extract 0 n ↔ (k % 2 = 1 ∨ sB s (33 + k) = 0) ∧ difM s = []) := by
  obtain ⟨b0, b32, hs, h34, even, le, hk, hp, z1, z26, z27, hE⟩ := F
  have hpk : 33 + k ≤ padN k ∧ padN k % 2 = 0 ∧ padN k = 33 + k + (padB k).length := by
    have := padB_len k
    unfold padN at *
    omega
  have hid : (recOf s).id.size = k := by show (s.extract 33 (33 + sB s 32)).size = k; rw [ByteArray.size_extract, b32]; omega
  have hus : (recOf s).use.size = n - padN k := by show (s.extract (padN (sB s 32)) (sB s 0)).size = _; rw [ByteArray.size_extract, b32, b0]; omega
  have hsz : sizeI (recOf s).id.size (recOf s).use.size = n := by
    have hpi := padN_int k
    rw [hid, hus, sizeI, hpi, if_pos (by omega)]
    omega
  obtain ⟨hT, x, hh, mm, ss, hTm, hD⟩ := rec_canon (f := fD s) (fun _ => sB_lt _ _) hE
  have j1 : inR (recOf s).lba 4 = true := inR_nat (acc_lt _ (fun _ => sB_lt _ _) 4)
  have j2 : inR (recOf s).len 4 = true := inR_nat (acc_lt _ (fun _ => sB_lt _ _) 4)
  have j3 : inR (recOf s).seq 2 = true := inR_nat (acc_lt _ (fun _ => sB_lt _ _) 2)
  have hfl : 0 ≤ (recOf s).flags ∧ (recOf s).flags ≤ 255 := by
    show 0 ≤ ((sB s 25 : Nat) : Int) ∧ ((sB s 25 : Nat) : Int) ≤ 255
    have := sB_lt s 25
    omega
  have hT' : inT (recOf s).time (recOf s).zone := hT
  have hTm' : TimeOf (recOf s).time (recOf s).zone x hh mm ss := hTm
  obtain ⟨d, hd⟩ : ∃ d, recB x hh mm ss (recOf s).zone = d := ⟨_, rfl⟩
  have hg := errM_good (recOf s) d 0 (by rw [hid, hus]; omega) (by rw [hsz]; omega) ⟨(encX_zero _ _).2 ⟨rfl, j1, j2, j3⟩, hfl⟩
  obtain ⟨hH, -⟩ := head_of_enc (r := recOf s) (n := n) hT' hTm' j1 j2 j3 hfl.1 hfl.2 (by omega)
  rw [hd] at hH
  have hlist : (strM (recOf s) d 0).data.toList = encH (recOf s) n d ++ tailL (recOf s) := by
    rw [hg.2, hsz, ← encL_head]
  obtain ⟨q1, q2, q3, -, -⟩ := dec_of_head hH hsz (by omega) (b := []) (by rw [hlist, List.append_nil])
  have htail : (tailL (recOf s)).length = n - 32 := by
    simp only [tailL, List.length_cons, List.length_append, list_size, hid, hus]
    omega
  refine ⟨d, by rw [← hd]; exact Nat.le_refl 7, by rw [← hd]; exact recS_good hT' hTm', hg.1, ?_, q1, q2, q3, hid, hus, ?_⟩
  · rw [← list_size, hlist, List.length_append, hH.len, htail]
    omega
  have hl : s.data.toList.length = s.size := list_size s
  have hsp := split_list s k (padN k) n hpk.1 hp hs
  have htk : (s.extract 0 n).data.toList = s.data.toList.take 32 ++ (sU s 32 :: ((s.extract 33 (33 + k)).data.toList ++ ((s.extract (33 + k) (padN k)).data.toList ++ (s.extract (padN k) n).data.toList))) := by
    rw [extract_list, List.drop_zero, Nat.sub_zero]
    conv => lhs; rw [hsp]
    rw [show ∀ (A : List UInt8) (c : UInt8) (B C D R : List UInt8), A ++ (c :: (B ++ (C ++ (D ++ R)))) = (A ++ (c :: (B ++ (C ++ D)))) ++ R from fun _ _ _ _ _ _ => by simp, List.take_left']
    simp only [List.length_append, List.length_cons, list_size, ByteArray.size_extract, List.length_take, hl]
    omega
  have hS0 : s.data.toList.take 32 = [sU s 0, sU s 1, sU s 2, sU s 3, sU s 4, sU s 5, sU s 6, sU s 7, sU s 8, sU s 9, sU s 10, sU s 11, sU s 12, sU s 13, sU s 14, sU s 15, sU s 16, sU s 17, sU s 18, sU s 19, sU s 20, sU s 21, sU s 22, sU s 23, sU s 24, sU s 25, sU s 26, sU s 27, sU s 28, sU s 29, sU s 30, sU s 31] := by
    rw [← range_take _ 32 (by omega)]
    rfl
  have hdl : d.data.toList = [sU s 18, sU s 19, sU s 20, sU s 21, sU s 22, sU s 23, sU s 24] := by
    have hDi : ∀ i, i < 7 → (recL (1970 + x.k) (x.c + 1) (x.d + 1) hh mm ss (rrB (fD s))).getD i 0 = sU s (18 + i) := fun i hi => UInt8.toNat_inj.1 (hD i hi).symm
    have e0 := hDi 0 (by decide)
    have e1 := hDi 1 (by decide)
    have e2 := hDi 2 (by decide)
    have e3 := hDi 3 (by decide)
    have e4 := hDi 4 (by decide)
    have e5 := hDi 5 (by decide)
    have e6 := hDi 6 (by decide)
    rw [← hd]
    show recL (1970 + x.k) (x.c + 1) (x.d + 1) hh mm ss (rrB (fD s)) = _
    rw [← e0, ← e1, ← e2, ← e3, ← e4, ← e5, ← e6]
    rfl
  have hEn : encH (recOf s) n d = [sU s 0, sU s 1, sU s 2, sU s 3, sU s 4, sU s 5, sU s 5, sU s 4, sU s 3, sU s 2, sU s 10, sU s 11, sU s 12, sU s 13, sU s 13, sU s 12, sU s 11, sU s 10, sU s 18, sU s 19, sU s 20, sU s 21, sU s 22, sU s 23, sU s 24, sU s 25, sU s 26, sU s 27, sU s 28, sU s 29, sU s 29, sU s 28] := by
    have u1 : bN (n : Int) = sU s 0 := by rw [← b0, sB_sU]; exact bN_toNat _
    have u2 : bN (recOf s).flags = sU s 25 := bN_toNat (sU s 25)
    have v1 : (recOf s).lba.toNat = leR s 2 4 := Int.toNat_natCast _
    have v2 : (recOf s).len.toNat = leR s 10 4 := Int.toNat_natCast _
    have v3 : (recOf s).seq.toNat = leR s 28 2 := Int.toNat_natCast _
    rw [encH_list (recOf s) n d hdl j1 j2 j3, u1, u2, v1, v2, v3, byteAt_le s 2 4 0 (by decide), byteAt_le s 2 4 1 (by decide), byteAt_le s 2 4 2 (by decide), byteAt_le s 2 4 3 (by decide), byteAt_le s 10 4 0 (by decide), byteAt_le s 10 4 1 (by decide), byteAt_le s 10 4 2 (by decide), byteAt_le s 10 4 3 (by decide), byteAt_le s 28 2 0 (by decide), byteAt_le s 28 2 1 (by decide), sU_zero z1, sU_zero z26, sU_zero z27]
  have hhd : encH (recOf s) n d = s.data.toList.take 32 ↔ difM s = [] := by
    rw [difM_nil (by omega), sm_iff, sm_iff, sm_iff, hEn, hS0]
    simp only [List.cons.injEq, and_true, true_and]
    constructor
    · rintro ⟨a1, a2, a3, a4, a5, a6, a7, a8, a9, a10⟩
      refine ⟨i4 ?_ ?_ ?_ ?_, i4 ?_ ?_ ?_ ?_, i2 ?_ ?_⟩ <;> first | exact a1 | exact a2 | exact a3 | exact a4 | exact a5 | exact a6 | exact a7 | exact a8 | exact a9 | exact a10
    · rintro ⟨h1, h2, h3⟩
      exact ⟨h1 3 (by decide), h1 2 (by decide), h1 1 (by decide), h1 0 (by decide), h2 3 (by decide), h2 2 (by decide), h2 1 (by decide), h2 0 (by decide), h3 1 (by decide), h3 0 (by decide)⟩
  have hpad : padB k = (s.extract (33 + k) (padN k)).data.toList ↔ (k % 2 = 1 ∨ sB s (33 + k) = 0) := by
    rcases Nat.mod_two_eq_zero_or_one k with h | h
    · have hp34 : padN k = 33 + k + 1 := by unfold padN; omega
      rw [hp34, extract_one s (33 + k) (by omega), padB, if_pos h, sB_sU]
      simp only [List.cons.injEq, and_true, h]
      constructor
      · intro e
        exact .inr (by rw [← e]; rfl)
      · rintro (e | e)
        · omega
        · exact (UInt8.toNat_inj.1 e).symm
    · have hp33 : padN k = 33 + k := by unfold padN; omega
      rw [hp33, padB, if_neg (by omega), extract_list, Nat.sub_self, List.take_zero]
      simp [h]
  rw [← hhd, ← hpad]
  have htl : tailL (recOf s) = sU s 32 :: ((s.extract 33 (33 + k)).data.toList ++ (padB k ++ (s.extract (padN k) n).data.toList)) := by
    have e1 : (recOf s).id = s.extract 33 (33 + k) := by rw [← b32]; rfl
    have e2 : (recOf s).use = s.extract (padN k) n := by rw [← b32, ← b0]; rfl
    rw [tailL, hid, e1, e2, ← b32, sB_sU, bN_toNat]
  constructor
  · intro h
    have h' := congrArg (fun b : ByteArray => b.data.toList) h
    simp only [hlist, htk, htl] at h'
    obtain ⟨x1, x2⟩ := List.append_inj h' (by rw [hH.len, List.length_take, hl]; omega)
    refine ⟨?_, x1⟩
    simpa using x2
  · rintro ⟨h1, h2⟩
    apply ext_list
    rw [hlist, htk, htl, h1, h2]
/-- An encoded record. -/
structure EncF (r : Rec) (n : Nat) (H : List UInt8) (s : ByteArray) : Prop where
  hH : HeadOf r n H
  hd : difL H = []
  hn : sizeI r.id.size r.use.size = n
  h0 : n ≠ 0
  ht : s.data.toList = H ++ tailL r
theorem tailL_len {r : Rec} {n : Nat} (hn : sizeI r.id.size r.use.size = n) (h0 : n ≠ 0) : (tailL r).length = n - 32 := by
  obtain ⟨f1, f2, f3, f4, f5, f6, f7⟩ := size_facts hn h0
  have hp := padB_len r.id.size
  simp only [tailL, List.length_cons, List.length_append, list_size]
  omega
theorem EncF.size {r : Rec} {n : Nat} {H : List UInt8} {s : ByteArray} (F : EncF r n H s) : s.size = n := by
  obtain ⟨f1, -⟩ := size_facts F.hn F.h0
  rw [← list_size, F.ht, List.length_append, F.hH.len, tailL_len F.hn F.h0]
  omega
theorem enc_cases (r : Rec) : ∃ (d : ByteArray) (de : Int), (de = 0 ∨ de = 2) ∧ d.size ≤ 7 ∧ RecS r.time r.zone d de ∧ (errM r de = 0 → ∃ n H, EncF r n H (strM r d de)) ∧ (errM r de ≠ 0 → strM r d de = ByteArray.empty) := by
  by_cases hT : inT r.time r.zone
  · obtain ⟨x, hh, mm, ss, k⟩ := time_of hT
    refine ⟨recB x hh mm ss r.zone, 0, .inl rfl, Nat.le_refl 7, recS_good hT k, ?_, fun h => by rw [strM, if_neg h]⟩
    intro h
    obtain ⟨i1, i2, i3, f0, f1, n, hn, h0⟩ := errM_zero h hT
    obtain ⟨hH, hd⟩ := head_of_enc (n := n) hT k i1 i2 i3 f0 f1 (by have := size_facts hn h0; omega)
    refine ⟨n, _, hH, hd, hn, h0, ?_⟩
    rw [strM, if_pos h, hn, ← encL_head]
  · refine ⟨ByteArray.empty, 2, .inr rfl, Nat.zero_le 7, recS_bad hT, ?_, fun h => by rw [strM, if_neg h]⟩
    intro h
    exfalso
    unfold errM at h
    split at h
    · cases h
    split at h
    · cases h
    split at h
    · rename_i h2
      have := ((encX_zero r 2).1 h2.1).1
      omega
    · cases h
theorem EncF.behind {r : Rec} {n : Nat} {H : List UInt8} {s : ByteArray} (F : EncF r n H s) (b : ByteArray) : decE (s ++ b) = 0 ∧ decN (s ++ b) = n ∧ decR (s ++ b) = r := by
  obtain ⟨h1, h2, h3, -⟩ := dec_of_head F.hH F.hn F.h0 (t := s ++ b) (b := b.data.toList) (by rw [ByteArray.data_append, Array.toList_append, F.ht, List.append_assoc])
  exact ⟨h1, h2, h3⟩
theorem EncF.alone {r : Rec} {n : Nat} {H : List UInt8} {s : ByteArray} (F : EncF r n H s) : decE s = 0 ∧ decN s = n ∧ decR s = r ∧ sB s 0 = n ∧ difM s = [] := by
  obtain ⟨f1, -⟩ := size_facts F.hn F.h0
  obtain ⟨h1, h2, h3, -⟩ := dec_of_head F.hH F.hn F.h0 (t := s) (b := []) (by rw [F.ht, List.append_nil])
  have hz := F.size
  exact ⟨h1, h2, h3, by rw [sB_head F.ht 0 (by rw [F.hH.len]; decide), F.hH.b0], by rw [difM_head F.ht F.hH.len (by omega), F.hd]⟩
theorem EncF.short {r : Rec} {n : Nat} {H : List UInt8} {s : ByteArray} (F : EncF r n H s) (c : Nat) (hc : c < n) : decE (s.extract 0 c) = 10 ∧ decN (s.extract 0 c) = 0 ∧ decR (s.extract 0 c) = noRec := by
  have hz := F.size
  have hs : (s.extract 0 c).size = c := by rw [ByteArray.size_extract]; omega
  have hE : decE (s.extract 0 c) = 10 := by
    rw [decE]
    by_cases h : (s.extract 0 c).size < 34
    · rw [if_pos h]
    · rw [if_neg h, if_pos]
      rw [sizesBad, decide_eq_true_iff, sB_extract s 0 c 0 (by omega), Nat.zero_add, F.alone.2.2.2.1]
      omega
  have := decR_bad hE (by decide)
  exact ⟨hE, this.2, this.1⟩
theorem hB_ne {H : List UInt8} {j i : Nat} (v : UInt8) (h : i ≠ j) : hB (H.set j v) i = hB H i := by
  rw [hB, hB, List.getD_eq_getElem?_getD, List.getD_eq_getElem?_getD, List.getElem?_set_ne (Ne.symm h)]
theorem hB_eq {H : List UInt8} {j : Nat} (v : UInt8) (h : j < H.length) : hB (H.set j v) j = v.toNat := by
  rw [hB, List.getD_eq_getElem?_getD, List.getElem?_set_self h]
  rfl
theorem xor_split (A B C D n : Nat) (hA : A < 2 ^ n) (hC : C < 2 ^ n) : (A + B * 2 ^ n) ^^^ (C + D * 2 ^ n) = (A ^^^ C) + (B ^^^ D) * 2 ^ n := by
  apply Nat.eq_of_testBit_eq
  intro i
  rw [Nat.testBit_xor, Nat.add_comm A, Nat.mul_comm B, Nat.add_comm C, Nat.mul_comm D, Nat.add_comm (A ^^^ C), Nat.mul_comm (B ^^^ D), Nat.testBit_two_pow_mul_add _ hA, Nat.testBit_two_pow_mul_add _ hC, Nat.testBit_two_pow_mul_add _ (Nat.xor_lt_two_pow hA hC)]
  split <;> simp
theorem byte_lt {x k z : Nat} (hx : x < 256) (h : k < z) : x * 2 ^ (8 * k) < 2 ^ (8 * z) := by
  have h1 : x * 2 ^ (8 * k) < 256 * 2 ^ (8 * k) := Nat.mul_lt_mul_of_pos_right hx (Nat.two_pow_pos _)
  have h2 : 256 * 2 ^ (8 * k) = 2 ^ (8 * k + 8) := by rw [Nat.pow_add, Nat.mul_comm]
  have h3 : 2 ^ (8 * k + 8) ≤ 2 ^ (8 * z) := Nat.pow_le_pow_right (by decide) (by omega)
  omega
theorem acc_xor {f g : Nat → Nat} (hf : ∀ i, f i < 256) (k x : Nat) (hx : x < 256) : ∀ z, k < z → (∀ i, i < z → i ≠ k → g i = f i) → g k = f k ^^^ x → acc g z = acc f z ^^^ (x * 2 ^ (8 * k))
  | 0, h, _, _ => by omega
  | z + 1, hk, h1, h2 => by
    rcases Nat.lt_or_ge k z with h | h
    · rw [acc, acc, acc_xor hf k x hx z h (fun i hi hne => h1 i (by omega) hne) h2, h1 z (by omega) (by omega)]
      have := xor_split (acc f z) (f z) (x * 2 ^ (8 * k)) 0 (8 * z) (acc_lt f hf z) (byte_lt hx h)
      rw [Nat.zero_mul, Nat.add_zero, Nat.xor_zero] at this
      exact this.symm
    · obtain rfl : k = z := by omega
      rw [acc, acc, acc_congr (g := f) (fun i hi => h1 i (by omega) (by omega)), h2]
      have := xor_split (acc f k) (f k) 0 x (8 * k) (acc_lt f hf k) (Nat.two_pow_pos _)
      rw [Nat.zero_add, Nat.xor_zero] at this
      exact this.symm
def isBE (j : Nat) : Bool := decide ((6 ≤ j ∧ j ≤ 9) ∨ (14 ≤ j ∧ j ≤ 17) ∨ 30 ≤ j)
theorem HeadOf.be {r : Rec} {n : Nat} {H : List UInt8} (h : HeadOf r n H) (j : Nat) (v : UInt8) (hj : isBE j = true) : HeadOf r n (H.set j v) := by
  have hne : ∀ i, isBE i = false → hB (H.set j v) i = hB H i := fun i hi => hB_ne v (fun e => by rw [e, hj] at hi; cases hi)
  have hd : ∀ i, i < 7 → hB (H.set j v) (18 + i) = hB H (18 + i) := fun i hi => hne _ (by rw [isBE, decide_eq_false_iff_not]; omega)
  obtain ⟨a1, a2, a3⟩ := rr_congr (f := fun i => hB (H.set j v) (18 + i)) (g := fun i => hB H (18 + i)) hd
  refine ⟨by rw [List.length_set]; exact h.len, (hne 0 rfl).trans h.b0, (hne 1 rfl).trans h.b1, (hne 26 rfl).trans h.b26, (hne 27 rfl).trans h.b27, ?_, ?_, ?_, by rw [hne 25 rfl]; exact h.fl, a3.trans h.dE, a1.trans h.dA, a2.trans h.dB⟩
  · rw [acc_congr (g := fun i => hB H (2 + i)) fun i hi => hne _ (by rw [isBE, decide_eq_false_iff_not]; omega)]
    exact h.lba
  · rw [acc_congr (g := fun i => hB H (10 + i)) fun i hi => hne _ (by rw [isBE, decide_eq_false_iff_not]; omega)]
    exact h.ln
  · rw [acc_congr (g := fun i => hB H (28 + i)) fun i hi => hne _ (by rw [isBE, decide_eq_false_iff_not]; omega)]
    exact h.sq
/-- The number of a record, the first, second or third one, in another value. -/
def updR (r : Rec) (q : Nat) (v : Int) : Rec := if q = 0 then { r with lba := v } else if q = 1 then { r with len := v } else { r with seq := v }
def numQ (r : Rec) (q : Nat) : Int := if q = 0 then r.lba else if q = 1 then r.len else r.seq
theorem HeadOf.le {r : Rec} {n : Nat} {H : List UInt8} (h : HeadOf r n H) (q k v : Nat) (x : UInt8) (hq : q < 3) (hk : k < (nthP q).2) (hv : numQ r q = v) :
    HeadOf (updR r q ((v ^^^ (x.toNat * 2 ^ (8 * k)) : Nat) : Int)) n (H.set ((nthP q).1 + k) (H.getD ((nthP q).1 + k) 0 ^^^ x)) := by
  obtain ⟨c, hc⟩ : ∃ c, H.getD ((nthP q).1 + k) 0 ^^^ x = c := ⟨_, rfl⟩
  have hct : c.toNat = hB H ((nthP q).1 + k) ^^^ x.toNat := by rw [← hc, UInt8.toNat_xor]; rfl
  rw [hc]
  have hx := UInt8.toNat_lt x
  match q, hq with
  | 0, _ =>
    simp only [nthP] at *
    have hne : ∀ i, i ≠ 2 + k → hB (H.set (2 + k) c) i = hB H i := fun i hi => hB_ne c hi
    obtain ⟨a1, a2, a3⟩ := rr_congr (f := fun i => hB (H.set (2 + k) c) (18 + i)) (g := fun i => hB H (18 + i)) fun i hi => hne _ (by omega)
    refine ⟨by rw [List.length_set]; exact h.len, (hne 0 (by omega)).trans h.b0, (hne 1 (by omega)).trans h.b1, (hne 26 (by omega)).trans h.b26, (hne 27 (by omega)).trans h.b27, ?_, ?_, ?_, by rw [hne 25 (by omega)]; exact h.fl, a3.trans h.dE, a1.trans h.dA, a2.trans h.dB⟩
    · rw [acc_xor (f := fun i => hB H (2 + i)) (fun _ => hB_lt _ _) k x.toNat hx 4 hk (fun i hi hn => hne _ (by omega)) (by rw [hB_eq c (by rw [h.len]; omega), hct])]
      have hl := h.lba
      have hv' : r.lba = v := hv
      rw [show acc (fun i => hB H (2 + i)) 4 = v by omega]
      rfl
    · rw [acc_congr (g := fun i => hB H (10 + i)) fun i hi => hne _ (by omega)]
      exact h.ln
    · rw [acc_congr (g := fun i => hB H (28 + i)) fun i hi => hne _ (by omega)]
      exact h.sq
  | 1, _ =>
    simp only [nthP] at *
    have hne : ∀ i, i ≠ 10 + k → hB (H.set (10 + k) c) i = hB H i := fun i hi => hB_ne c hi
    obtain ⟨a1, a2, a3⟩ := rr_congr (f := fun i => hB (H.set (10 + k) c) (18 + i)) (g := fun i => hB H (18 + i)) fun i hi => hne _ (by omega)
    refine ⟨by rw [List.length_set]; exact h.len, (hne 0 (by omega)).trans h.b0, (hne 1 (by omega)).trans h.b1, (hne 26 (by omega)).trans h.b26, (hne 27 (by omega)).trans h.b27, ?_, ?_, ?_, by rw [hne 25 (by omega)]; exact h.fl, a3.trans h.dE, a1.trans h.dA, a2.trans h.dB⟩
    · rw [acc_congr (g := fun i => hB H (2 + i)) fun i hi => hne _ (by omega)]
      exact h.lba
    · rw [acc_xor (f := fun i => hB H (10 + i)) (fun _ => hB_lt _ _) k x.toNat hx 4 hk (fun i hi hn => hne _ (by omega)) (by rw [hB_eq c (by rw [h.len]; omega), hct])]
      have hl := h.ln
      have hv' : r.len = v := hv
      rw [show acc (fun i => hB H (10 + i)) 4 = v by omega]
      rfl
    · rw [acc_congr (g := fun i => hB H (28 + i)) fun i hi => hne _ (by omega)]
      exact h.sq
  | 2, _ =>
    simp only [nthP] at *
    have hne : ∀ i, i ≠ 28 + k → hB (H.set (28 + k) c) i = hB H i := fun i hi => hB_ne c hi
    obtain ⟨a1, a2, a3⟩ := rr_congr (f := fun i => hB (H.set (28 + k) c) (18 + i)) (g := fun i => hB H (18 + i)) fun i hi => hne _ (by omega)
    refine ⟨by rw [List.length_set]; exact h.len, (hne 0 (by omega)).trans h.b0, (hne 1 (by omega)).trans h.b1, (hne 26 (by omega)).trans h.b26, (hne 27 (by omega)).trans h.b27, ?_, ?_, ?_, by rw [hne 25 (by omega)]; exact h.fl, a3.trans h.dE, a1.trans h.dA, a2.trans h.dB⟩
    · rw [acc_congr (g := fun i => hB H (2 + i)) fun i hi => hne _ (by omega)]
      exact h.lba
    · rw [acc_congr (g := fun i => hB H (10 + i)) fun i hi => hne _ (by omega)]
      exact h.ln
    · rw [acc_xor (f := fun i => hB H (28 + i)) (fun _ => hB_lt _ _) k x.toNat hx 2 hk (fun i hi hn => hne _ (by omega)) (by rw [hB_eq c (by rw [h.len]; omega), hct])]
      have hl := h.sq
      have hv' : r.seq = v := hv
      rw [show acc (fun i => hB H (28 + i)) 2 = v by omega]
      rfl
theorem smH_inj {H : List UInt8} {a z : Nat} (h : smH H a z = true) (i : Nat) (hi : i < z) : hB H (a + i) = hB H (a + z + (z - 1 - i)) := by
  rw [smH, decide_eq_true_iff] at h
  exact acc_inj (f := fun i => hB H (a + i)) (g := fun i => hB H (a + z + (z - 1 - i))) (fun _ => hB_lt _ _) (fun _ => hB_lt _ _) z h i hi
theorem smH_off {H : List UInt8} {a z i : Nat} (hi : i < z) (hne : hB H (a + i) ≠ hB H (a + z + (z - 1 - i))) : smH H a z = false := by
  cases h : smH H a z with
  | false => rfl
  | true => exact absurd (smH_inj h i hi) hne
theorem smH_same {H H' : List UInt8} {a z : Nat} (h : ∀ i, a ≤ i → i < a + 2 * z → hB H' i = hB H i) : smH H' a z = smH H a z := by
  rw [smH, smH, acc_congr (f := fun i => hB H' (a + i)) (g := fun i => hB H (a + i)) fun i hi => h _ (by omega) (by omega), acc_congr (f := fun i => hB H' (a + z + (z - 1 - i))) (g := fun i => hB H (a + z + (z - 1 - i))) fun i hi => h _ (by omega) (by omega)]
theorem difL_nil {H : List UInt8} (h : difL H = []) : smH H 2 4 = true ∧ smH H 10 4 = true ∧ smH H 28 2 = true := by
  revert h
  unfold difL
  cases smH H 2 4 <;> cases smH H 10 4 <;> cases smH H 28 2 <;> simp
theorem smH_set {H : List UInt8} {a z j : Nat} {v : UInt8} (h : smH H a z = true) (hj : a ≤ j ∧ j < a + 2 * z) (hl : j < H.length) (hv : v.toNat ≠ hB H j) : smH (H.set j v) a z = false := by
  by_cases hlt : j < a + z
  · refine smH_off (i := j - a) (by omega) ?_
    have e := smH_inj h (j - a) (by omega)
    rw [show a + (j - a) = j by omega] at e ⊢
    rw [hB_eq v hl, hB_ne v (by omega), ← e]
    exact hv
  · refine smH_off (i := z - 1 - (j - a - z)) (by omega) ?_
    have e := smH_inj h (z - 1 - (j - a - z)) (by omega)
    rw [show a + z + (z - 1 - (z - 1 - (j - a - z))) = j by omega] at e ⊢
    rw [hB_eq v hl, hB_ne v (by omega), e]
    exact Ne.symm hv
theorem difL_set {H : List UInt8} (hl : H.length = 32) (hd : difL H = []) (q j : Nat) (hq : q < 3) (hj : (nthP q).1 ≤ j ∧ j < (nthP q).1 + 2 * (nthP q).2) (v : UInt8) (hv : v.toNat ≠ hB H j) : difL (H.set j v) = [(nthP q).1] := by
  obtain ⟨s1, s2, s3⟩ := difL_nil hd
  match q, hq with
  | 0, _ =>
    simp only [nthP] at *
    rw [difL, smH_set s1 hj (by omega) hv, smH_same (H := H) (a := 10) (z := 4) fun i h1 h2 => hB_ne v (by omega), smH_same (H := H) (a := 28) (z := 2) fun i h1 h2 => hB_ne v (by omega), s2, s3]
    rfl
  | 1, _ =>
    simp only [nthP] at *
    rw [difL, smH_set s2 hj (by omega) hv, smH_same (H := H) (a := 2) (z := 4) fun i h1 h2 => hB_ne v (by omega), smH_same (H := H) (a := 28) (z := 2) fun i h1 h2 => hB_ne v (by omega), s1, s3]
    rfl
  | 2, _ =>
    simp only [nthP] at *
    rw [difL, smH_set s3 hj (by omega) hv, smH_same (H := H) (a := 10) (z := 4) fun i h1 h2 => hB_ne v (by omega), smH_same (H := H) (a := 2) (z := 4) fun i h1 h2 => hB_ne v (by omega), s2, s1]
    rfl
theorem xor_ne {c x : UInt8} (hx : x ≠ 0) : (c ^^^ x).toNat ≠ c.toNat := fun h => hx (by
  have e : c ^^^ x = c := UInt8.toNat_inj.1 h
  have : c ^^^ (c ^^^ x) = c ^^^ c := by rw [e]
  rwa [← UInt8.xor_assoc, UInt8.xor_self, UInt8.zero_xor] at this)
/-- A changed big-endian half. -/
theorem EncF.be {r : Rec} {n : Nat} {H : List UInt8} {s t : ByteArray} (F : EncF r n H s) (q k : Nat) (x : UInt8) (hq : q < 3) (hk : k < (nthP q).2) (hx : x ≠ 0) (ht : t.data.toList = s.data.toList.set ((nthP q).1 + (nthP q).2 + k) (sU s ((nthP q).1 + (nthP q).2 + k) ^^^ x)) :
    decE t = 0 ∧ decN t = n ∧ decR t = r ∧ difM t = [(nthP q).1] := by
  have hj : (nthP q).1 + (nthP q).2 + k < 32 ∧ isBE ((nthP q).1 + (nthP q).2 + k) = true := by
    rw [isBE, decide_eq_true_iff]
    match q, hq with
    | 0, _ => simp only [nthP] at *; omega
    | 1, _ => simp only [nthP] at *; omega
    | 2, _ => simp only [nthP] at *; omega
  have hu : (sU s ((nthP q).1 + (nthP q).2 + k)).toNat = hB H ((nthP q).1 + (nthP q).2 + k) := sB_head F.ht _ (by rw [F.hH.len]; exact hj.1)
  rw [F.ht, List.set_append_left _ _ (by rw [F.hH.len]; exact hj.1)] at ht
  have hH := F.hH.be _ (sU s ((nthP q).1 + (nthP q).2 + k) ^^^ x) hj.2
  obtain ⟨h1, h2, h3, -, h5⟩ := dec_of_head hH F.hn F.h0 (t := t) (b := []) (by rw [ht, List.append_nil])
  obtain ⟨f1, -⟩ := size_facts F.hn F.h0
  refine ⟨h1, h2, h3, ?_⟩
  rw [difM_head ht hH.len (by omega)]
  exact difL_set F.hH.len F.hd q _ hq (by omega) _ (by rw [← hu]; exact xor_ne hx)
/-- A changed little-endian half. -/
theorem EncF.le {r : Rec} {n : Nat} {H : List UInt8} {s t : ByteArray} (F : EncF r n H s) (q k v : Nat) (x : UInt8) (hq : q < 3) (hk : k < (nthP q).2) (hv : numQ r q = v) (hx : x ≠ 0) (ht : t.data.toList = s.data.toList.set ((nthP q).1 + k) (sU s ((nthP q).1 + k) ^^^ x)) :
    decE t = 0 ∧ decN t = n ∧ decR t = updR r q ((v ^^^ (x.toNat * 2 ^ (8 * k)) : Nat) : Int) ∧ difM t = [(nthP q).1] := by
  have hj : (nthP q).1 + k < 32 := by
    match q, hq with
    | 0, _ => simp only [nthP] at *; omega
    | 1, _ => simp only [nthP] at *; omega
    | 2, _ => simp only [nthP] at *; omega
  have hu : (sU s ((nthP q).1 + k)).toNat = hB H ((nthP q).1 + k) := sB_head F.ht _ (by rw [F.hH.len]; exact hj)
  have hu' : sU s ((nthP q).1 + k) = H.getD ((nthP q).1 + k) 0 := UInt8.toNat_inj.1 hu
  rw [F.ht, List.set_append_left _ _ (by rw [F.hH.len]; exact hj)] at ht
  have hH := F.hH.le q k v x hq hk hv
  rw [← hu'] at hH
  have e1 : (updR r q ((v ^^^ (x.toNat * 2 ^ (8 * k)) : Nat) : Int)).id = r.id := by unfold updR; split; (rfl); (split <;> rfl)
  have e2 : (updR r q ((v ^^^ (x.toNat * 2 ^ (8 * k)) : Nat) : Int)).use = r.use := by unfold updR; split; (rfl); (split <;> rfl)
  obtain ⟨h1, h2, h3, -, h5⟩ := dec_of_head hH (by rw [e1, e2]; exact F.hn) F.h0 (t := t) (b := []) (by rw [ht, List.append_nil, tailL, tailL, e1, e2])
  obtain ⟨f1, -⟩ := size_facts F.hn F.h0
  refine ⟨h1, h2, h3, ?_⟩
  rw [difM_head ht hH.len (by omega)]
  exact difL_set F.hH.len F.hd q _ hq (by omega) _ (by rw [← hu]; exact xor_ne hx)
theorem cr8 {W W' : World} {b : Nat} {r : Rec} (h : W.heap[b]? = some (.cells (recA r) 45 (0, 0))) (hB : Below W.heap.size W W') : W'.heap[b]? = some (.cells (recA r) 45 (0, 0)) := (hB.block _ (lt_of_block h)).trans h
theorem cr8n (W : World) (r : Rec) {W' : World} (hB : Below (W.alloc (.cells (recA r) 45)).heap.size (W.alloc (.cells (recA r) 45)) W') : W'.heap[W.heap.size]? = some (.cells (recA r) 45 (0, 0)) := cr8 (World.alloc_heap_new W _) hB
theorem cr8a {W : World} {b : Nat} {r : Rec} (h : W.heap[b]? = some (.cells (recA r) 45 (0, 0))) (o : Obj) : (W.alloc o).heap[b]? = some (.cells (recA r) 45 (0, 0)) := (Lib.alloc_old W o _ (lt_of_block h)).trans h
theorem bal {w W : World} (h : Below w.heap.size w W) (o : Obj) : Below w.heap.size w (W.alloc o) := bthen h ((Below.refl _ _).alloc (Nat.le_refl _) _)
theorem recEq_refl (r : Rec) : recEq r r = true := (recEq_iff r r).2 rfl
theorem recZ_eql (W : World) : (binOp .eql 45 (.agg recZ) (.agg recZ)).run Tryz.prog W = .ok (.bool true) W := by
  have := rec_eql noRec noRec W
  rwa [recEq_refl] at this
theorem u8_of_wf {c : Int} (h : (Lit.int .u8 c).wf = true) : 0 ≤ c ∧ c < 256 := by
  have h' : IntKind.u8.min ≤ c ∧ c ≤ IntKind.u8.max := by simpa [Lit.wf] using h
  have e1 : IntKind.u8.min = 0 := by decide
  have e2 : IntKind.u8.max = 255 := by decide
  omega
theorem recEq_neq (r : Rec) (W : World) : (binOp .neq 45 (.agg (recA r)) (.agg (recA r))).run Tryz.prog W = .ok (.bool false) W := by
  have := rec_neq r r W
  rwa [recEq_refl] at this
theorem il_nil {w : World} {v : Value} {W : World} (h : IL w [] v W) : ∃ a c, v = .slice a 0 c := own_form h.1
end Go.Proofs.YtnmlephjhcmbhaaGreat
