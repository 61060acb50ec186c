/- Records, compared. -/
import Derived.Test.YtnmlephjhcmbhaaDrb
import Derived.Laws.StructEq
import Derived.ChangeKeysEq
namespace Go.Proofs.Ytnmlephjhcmbhaa
set_option linter.unusedSimpArgs false
set_option linter.unusedVariables false
open Go Go.RowKit
def recEq (a b : Rec) : Bool := a.id.toList == b.id.toList && (a.lba == b.lba && (a.len == b.len && (a.time == b.time && (a.zone == b.zone && (a.flags == b.flags && (a.seq == b.seq && a.use.toList == b.use.toList))))))
theorem recHeld : Try.prog.stoodInHeld 23 = false := by kernel_rfl
theorem plain3 : Try.prog.plainKey 3 = true := by kernel_rfl
theorem plain9 : Try.prog.plainKey 9 = true := by kernel_rfl
theorem eqF {P : Program} {w : World} {d : Nat} {xs ys : Array Value} {f : Field} {fs : List Field} {va vb : Value} {r q : Bool} (hn : f.name ≠ "_") (ha : (part f.type xs f.offset).run P w = .ok va w) (hb : (part f.type ys f.offset).run P w = .ok vb w)
    (hr : (Op.equalIn d f.type va vb).run P w = .ok r w) (hq : (Op.eqFields d xs ys fs).run P w = .ok q w) : (Op.eqFields d xs ys (f :: fs)).run P w = .ok (r && q) w := by
  simp only [Op.eqFields, if_pos hn, Sem.run_bind, ha, hb, Result.andThen_ok, hr, Sem.run_ite]
  cases r
  · simp
  · simpa using hq
theorem eqFi {P : Program} {w : World} {d : Nat} {xs ys : Array Value} {f : Field} {fs : List Field} {a b : Int} {q : Bool} (hn : f.name ≠ "_") (hp : P.plainKey f.type = true) (hu : P.underlying f.type = some (.int .i64)) (ha : xs[f.offset]? = some (cN a)) (hb : ys[f.offset]? = some (cN b))
    (hq : (Op.eqFields (d + 1) xs ys fs).run P w = .ok q w) : (Op.eqFields (d + 1) xs ys (f :: fs)).run P w = .ok ((a == b) && q) w :=
  eqF hn (run_part_plain w hp ha) (run_part_plain w hp hb) (run_equalIn_int w d _ _ _ _ _ hu) hq
theorem eqFs {P : Program} {w : World} {d : Nat} {xs ys : Array Value} {f : Field} {fs : List Field} {a b : ByteArray} {q : Bool} (hn : f.name ≠ "_") (hp : P.plainKey f.type = true) (hu : P.underlying f.type = some .string) (ha : xs[f.offset]? = some (.string a)) (hb : ys[f.offset]? = some (.string b))
    (hq : (Op.eqFields (d + 1) xs ys fs).run P w = .ok q w) : (Op.eqFields (d + 1) xs ys (f :: fs)).run P w = .ok ((a.toList == b.toList) && q) w :=
  eqF hn (run_part_plain w hp ha) (run_part_plain w hp hb) (run_equalIn_string w d _ _ _ hu) hq
theorem rec_equal (a b : Rec) (w : World) : (Op.equalIn 10000 23 (.agg (recA a)) (.agg (recA b))).run Try.prog w = .ok (recEq a b) w := by
  rw [run_equalIn_agg w 9999 23 _ _ (by simp [Program.fieldsOf, Try.underlying23]) recHeld]
  simp only [Program.fieldsOf, Try.underlying23]
  rw [recEq, show (a.use.toList == b.use.toList) = ((a.use.toList == b.use.toList) && true) by simp]
  refine eqFs (by decide) plain9 Try.underlying9 rfl rfl ?_
  refine eqFi (by decide) plain3 Try.underlying3 rfl rfl ?_
  refine eqFi (by decide) plain3 Try.underlying3 rfl rfl ?_
  refine eqFi (by decide) plain3 Try.underlying3 rfl rfl ?_
  refine eqFi (by decide) plain3 Try.underlying3 rfl rfl ?_
  refine eqFi (by decide) plain3 Try.underlying3 rfl rfl ?_
  refine eqFi (by decide) plain3 Try.underlying3 rfl rfl ?_
  refine eqFs (by decide) plain9 Try.underlying9 rfl rfl ?_
  simp [Op.eqFields]
theorem rec_eql (a b : Rec) (w : World) : (binOp .eql 23 (.agg (recA a)) (.agg (recA b))).run Try.prog w = .ok (.bool (recEq a b)) w := by
  rw [run_eql_struct, rec_equal]
  rfl
theorem rec_neq (a b : Rec) (w : World) : (binOp .neq 23 (.agg (recA a)) (.agg (recA b))).run Try.prog w = .ok (.bool (!recEq a b)) w := by
  rw [run_neq_struct, rec_equal]
  rfl
theorem bytes_toList (a b : ByteArray) : a.toList = b.toList ↔ a = b := by rw [← Lib.bytes_beq_iff, beq_iff_eq]
theorem recEq_iff (a b : Rec) : recEq a b = true ↔ a = b := by
  obtain ⟨i1, l1, n1, t1, z1, f1, s1, u1⟩ := a
  obtain ⟨i2, l2, n2, t2, z2, f2, s2, u2⟩ := b
  simp only [recEq, Bool.and_eq_true, beq_iff_eq, bytes_toList, Rec.mk.injEq]
theorem recGuard : Try.prog.eqGuardType Try.prog.depth 23 = false := by kernel_rfl
end Go.Proofs.Ytnmlephjhcmbhaa
