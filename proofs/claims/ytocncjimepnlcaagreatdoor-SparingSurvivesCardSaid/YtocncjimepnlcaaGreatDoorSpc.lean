/- Sparing tables: rows of a call's own, New, Same of the reference, Clone. -/
import Derived.Test.YtocncjimepnlcaaGreatDoorSpb
import Derived.Laws.StructEq
import Derived.ChangeKeysEq
import Derived.Lib.SliceRun
namespace Go.Proofs.YtocncjimepnlcaaGreatDoor
set_option linter.unusedSimpArgs false
set_option linter.unusedVariables false
open Go Go.RowKit
/-- The cells of entries. -/
def flat (l : List Sp) : List Value := l.flatMap fun x => [cN x.1, cN x.2]
theorem flat_len (l : List Sp) : (flat l).length = l.length * 2 := by
  induction l with
  | nil => rfl
  | cons x l ih => simp only [flat, List.flatMap_cons, List.length_append, List.length_cons, List.length_nil] at ih ⊢; omega
theorem flat_append (l m : List Sp) : flat (l ++ m) = flat l ++ flat m := by simp [flat]
theorem flat_get : ∀ (l : List Sp) (i : Nat), i < l.length → (flat l)[i * 2]? = some (cN (at_ l i).1) ∧ (flat l)[i * 2 + 1]? = some (cN (at_ l i).2)
  | [], i, h => by simp at h
  | x :: l, 0, _ => ⟨rfl, rfl⟩
  | x :: l, i + 1, h => by
    have := flat_get l i (by simpa using h)
    have e1 : (i + 1) * 2 = i * 2 + 1 + 1 := by omega
    have e2 : (i + 1) * 2 + 1 = i * 2 + 1 + 1 + 1 := by omega
    rw [e2, e1]
    exact this
theorem flat_one (l : List Sp) : ∀ u ∈ flat l, u.oneCell' = true := by
  intro u hu
  simp only [flat, List.mem_flatMap] at hu
  obtain ⟨x, -, hx⟩ := hu
  simp only [List.mem_cons, List.not_mem_nil, or_false] at hx
  rcases hx with rfl | rfl <;> rfl
/-- A slice of entries of the call's own. -/
def OW (base : Nat) (v : Value) (l : List Sp) (W : World) : Prop := W.ownsRow base 54 2 v l.length (flat l)
theorem OW.keep {base : Nat} {v : Value} {l : List Sp} {W W' : World} (h : OW base v l W) (k : Below W.heap.size W W') : OW base v l W' := by
  refine ⟨h.1, ?_⟩
  rcases h.2 with hn | ⟨g, cap, cur, rfl, hb, hg, rest⟩
  · exact .inl hn
  · exact .inr ⟨g, cap, cur, rfl, hb, (k.block _ (lt_of_block hg)).trans hg, rest⟩
theorem OW.nil (base : Nat) (W : World) : OW base (.slice none 0 0) [] W := ⟨rfl, .inl ⟨rfl, rfl⟩⟩
theorem OW.form {base : Nat} {v : Value} {l : List Sp} {W : World} (h : OW base v l W) : ∃ a c, v = .slice a l.length c := by
  rcases h.2 with ⟨hv, hn⟩ | ⟨g, cap, cur, hv, -⟩
  · exact ⟨none, 0, by rw [hn]; exact hv⟩
  · exact ⟨_, _, hv⟩
theorem OW.base {base b' : Nat} {v : Value} {l : List Sp} {W : World} (h : OW base v l W) (hb : b' ≤ base) : OW b' v l W := by
  refine ⟨h.1, ?_⟩
  rcases h.2 with hn | ⟨g, cap, cur, rfl, hg, rest⟩
  · exact .inl hn
  · exact .inr ⟨g, cap, cur, rfl, Nat.le_trans hb hg, rest⟩
theorem OW.sl {base : Nat} {v : Value} {l : List Sp} {W : World} (h : OW base v l W) : SL W v l := by
  rcases h.2 with ⟨hv, hn⟩ | ⟨g, cap, cur, hv, hb, hg, hnc, hcm, hcs, htake⟩
  · exact .inl ⟨List.length_eq_zero_iff.1 hn, none, 0, hv⟩
  · refine .inr ⟨g, 0, cap, hv, hnc, lt_of_block hg, fun i hi => ?_⟩
    have hf := flat_get l i hi
    rw [← htake] at hf
    have hlen : l.length * 2 ≤ cur.toList.length := by
      have := Array.length_toList (xs := cur)
      omega
    rw [List.getElem?_take_of_lt (by omega), List.getElem?_take_of_lt (by omega)] at hf
    rw [Lib.cell_of_heap hg, Lib.cell_of_heap hg, Nat.zero_add]
    rw [Array.getElem?_toList, Array.getElem?_toList] at hf
    exact hf
theorem spInfo : (Tryz.prog.info? 54).map (fun i => (i.zero, i.size, i.bytes)) = some (some (.agg #[.int .i64 0, .int .i64 0]), 2, 16) := by kernel_rfl
theorem spHeld : Tryz.prog.stoodInHeld 54 = false := by kernel_rfl
theorem plain3 : Tryz.prog.plainKey 3 = true := by kernel_rfl
theorem spGuard : Tryz.prog.eqGuardType Tryz.prog.depth 54 = false := by kernel_rfl
theorem eqF {P : Program} {w : World} {d : Nat} {xs ys : Array Value} {f : Field} {fs : List Field} {va vb : Value} {r q : Bool} (hn : f.name ≠ "_") (ha : (part f.type xs f.offset).run P w = .ok va w) (hb : (part f.type ys f.offset).run P w = .ok vb w)
    (hr : (Op.equalIn d f.type va vb).run P w = .ok r w) (hq : (Op.eqFields d xs ys fs).run P w = .ok q w) : (Op.eqFields d xs ys (f :: fs)).run P w = .ok (r && q) w := by
  simp only [Op.eqFields, if_pos hn, Sem.run_bind, ha, hb, Result.andThen_ok, hr, Sem.run_ite]
  cases r
  · simp
  · simpa using hq
theorem eqFi {P : Program} {w : World} {d : Nat} {xs ys : Array Value} {f : Field} {fs : List Field} {a b : Int} {q : Bool} (hn : f.name ≠ "_") (hp : P.plainKey f.type = true) (hu : P.underlying f.type = some (.int .i64)) (ha : xs[f.offset]? = some (cN a)) (hb : ys[f.offset]? = some (cN b))
    (hq : (Op.eqFields (d + 1) xs ys fs).run P w = .ok q w) : (Op.eqFields (d + 1) xs ys (f :: fs)).run P w = .ok ((a == b) && q) w :=
  eqF hn (run_part_plain w hp ha) (run_part_plain w hp hb) (run_equalIn_int w d _ _ _ _ _ hu) hq
theorem sp_equal (a b c d : Int) (w : World) : (Op.equalIn 10000 54 (.agg #[cN a, cN b]) (.agg #[cN c, cN d])).run Tryz.prog w = .ok ((a == c) && (b == d)) w := by
  rw [run_equalIn_agg w 9999 54 _ _ (by simp [Program.fieldsOf, Tryz.underlying54]) spHeld]
  simp only [Program.fieldsOf, Tryz.underlying54]
  rw [show (b == d) = ((b == d) && true) by simp]
  refine eqFi (by decide) plain3 Tryz.underlying3 rfl rfl ?_
  refine eqFi (by decide) plain3 Tryz.underlying3 rfl rfl ?_
  simp [Op.eqFields]
theorem sp_eql (a b c d : Int) (w : World) : (binOp .eql 54 (.agg #[cN a, cN b]) (.agg #[cN c, cN d])).run Tryz.prog w = .ok (.bool ((a == c) && (b == d))) w := by
  rw [run_eql_struct, sp_equal]
  rfl
theorem sp_neq (a b : Int) (w : World) : (binOp .neq 54 (.agg #[cN a, cN b]) (.agg #[cN a, cN b])).run Tryz.prog w = .ok (.bool false) w := by
  rw [run_neq_struct, sp_equal]
  simp
theorem add_none (b off j : Nat) : (⟨b, off, none⟩ : Addr).add j = ⟨b, off + j, none⟩ := by
  unfold Addr.add
  split
  · rename_i h
    subst h
    rfl
  · rfl
set_option maxRecDepth 100000 in
set_option maxHeartbeats 1000000 in
theorem clone_row (b off c : Nat) (l : List Sp) (w : World) (hl : l.length ≤ 1000) (hb : b < w.heap.size) (hr : Row w b off l) :
    Calls Tryz.prog 28 #[.slice (some ⟨b, off, none⟩) l.length c] w fun e w' => ∃ v, e = .returned v ∧ OW w.heap.size v l w' ∧ Below w.heap.size w w' := by
  obtain ⟨i0, hi, hz0, hz1, hz2⟩ := info_parts spInfo
  have hn := fun W => Lib.run_eql_slice_nil (P := Tryz.prog) W 22 54 (some ⟨b, off, none⟩) l.length c 0 0 Tryz.underlying22
  have HR := Lib.hid hr
  clear hr
  go_enter Tryz.func28, Tryz.ntmps28
  go_wp2_with (at_builtin; refine wpList_append_own _ rfl _ _ 22 rfl w.heap.size 54 i0 (.agg #[.int .i64 0, .int .i64 0]) 2 16 Tryz.underlying22 hi hz0 hz1 hz2 rfl (by decide) _ 0 [] rfl ⟨rfl, .inr ⟨w.heap.size, 0, #[], rfl, Nat.le_refl _, World.alloc_heap_new w _, Nat.le_refl _, Nat.zero_le _, rfl, rfl⟩⟩ ⟨b, off, none⟩ l.length c (flat l) rfl (flat_len l) ?c1 (flat_one l) ?c3 ?c4 ?c5 ?_)
  case c1 =>
    intro j u hj
    have hjl : j < l.length * 2 := by
      rw [← flat_len]
      exact (List.getElem?_eq_some_iff.1 hj).1
    have hrow := HR.out.below hb ((Below.refl _ w).alloc (Nat.le_refl _) (.cells #[] 54)) (j / 2) (by omega)
    have hf := flat_get l (j / 2) (by omega)
    rcases Nat.mod_two_eq_zero_or_one j with h | h
    · have e : j / 2 * 2 = j := by omega
      rw [e] at hf hrow
      rw [hf.1] at hj
      rw [add_none, ← hj]
      exact hrow.1
    · have e : j / 2 * 2 + 1 = j := by omega
      rw [Nat.add_assoc, e] at hrow
      rw [e] at hf
      rw [hf.2] at hj
      rw [add_none, ← hj]
      exact hrow.2
  case c3 => unfold maxLen; omega
  case c4 => omega
  case c5 => simp
  intro v' w2 hown hgrow _
  have hB : Below w.heap.size w w2 := ((Below.refl _ w).alloc (Nat.le_refl _) (.cells #[] 54)).grown hgrow (by simp) (fun k hk => by simp [Value.ownBlock] at hk; omega)
  have HO : Hid (OW w.heap.size v' l w2) := Lib.hid hown
  clear hown hgrow
  go_wp2
  go_ret
  exact ⟨_, rfl, HO.out, hB⟩
set_option maxRecDepth 100000 in
set_option maxHeartbeats 400000 in
theorem clone_nil (a : Option Addr) (c : Nat) (w : World) :
    Calls Tryz.prog 28 #[.slice none 0 c] w fun e w' => ∃ v, e = .returned v ∧ OW w.heap.size v [] w' ∧ Below w.heap.size w w' := by
  have hn := fun W => Lib.run_eql_slice_nil (P := Tryz.prog) W 22 54 none 0 c 0 0 Tryz.underlying22
  go_enter Tryz.func28, Tryz.ntmps28
  go_wp2
  go_ret
  exact ⟨_, rfl, OW.nil _ _, Below.refl _ w⟩
set_option maxRecDepth 100000 in
set_option maxHeartbeats 1000000 in
theorem clone_none (x : Addr) (c : Nat) (w : World) :
    Calls Tryz.prog 28 #[.slice (some x) 0 c] w fun e w' => ∃ v, e = .returned v ∧ OW w.heap.size v [] w' ∧ Below w.heap.size w w' := by
  obtain ⟨i0, hi, hz0, hz1, hz2⟩ := info_parts spInfo
  have hn := fun W => Lib.run_eql_slice_nil (P := Tryz.prog) W 22 54 (some x) 0 c 0 0 Tryz.underlying22
  go_enter Tryz.func28, Tryz.ntmps28
  go_wp2_with (at_builtin; refine wpList_append_own _ rfl _ _ 22 rfl w.heap.size 54 i0 (.agg #[.int .i64 0, .int .i64 0]) 2 16 Tryz.underlying22 hi hz0 hz1 hz2 rfl (by decide) _ 0 [] rfl ⟨rfl, .inr ⟨w.heap.size, 0, #[], rfl, Nat.le_refl _, World.alloc_heap_new w _, Nat.le_refl _, Nat.zero_le _, rfl, rfl⟩⟩ x 0 c [] rfl rfl ?c1 (by simp) ?c3 ?c4 ?c5 ?_)
  case c1 => intro j u hj; simp at hj
  case c3 => unfold maxLen; omega
  case c4 => omega
  case c5 => simp
  intro v' w2 hown hgrow _
  have hB : Below w.heap.size w w2 := ((Below.refl _ w).alloc (Nat.le_refl _) (.cells #[] 54)).grown hgrow (by simp) (fun k hk => by simp [Value.ownBlock] at hk; omega)
  have HO : Hid (OW w.heap.size v' [] w2) := Lib.hid hown
  clear hown hgrow
  go_wp2
  go_ret
  exact ⟨_, rfl, HO.out, hB⟩
theorem clone_ok (v : Value) (l : List Sp) (w : World) (h : SL w v l) (hl : l.length ≤ 1000) : Calls Tryz.prog 28 #[v] w fun e w' => ∃ v', e = .returned v' ∧ OW w.heap.size v' l w' ∧ Below w.heap.size w w' := by
  rcases h with ⟨rfl, a, c, rfl⟩ | ⟨b, off, c, rfl, hc, hb, hr⟩
  · cases a with
    | none => exact clone_nil none c w
    | some x => exact clone_none x c w
  · exact clone_row b off c l w hl hb hr
/-- What New gives. -/
def newBad (start n : Int) : Bool := decide (start < 0 ∨ n < 8 ∨ 64 < n ∨ n % 8 ≠ 0 ∨ 4096 - n < start)
set_option maxRecDepth 100000 in
set_option maxHeartbeats 1000000 in
theorem new_bad (start n : Int) (w : World) (h : start < 0 ∨ (0 ≤ start ∧ n < 8) ∨ (0 ≤ start ∧ 8 ≤ n ∧ 64 < n) ∨ (0 ≤ start ∧ 8 ≤ n ∧ n ≤ 64 ∧ Int.tmod n 8 ≠ 0) ∨ (0 ≤ start ∧ 8 ≤ n ∧ n ≤ 64 ∧ Int.tmod n 8 = 0 ∧ 4096 - n < start)) :
    Calls Tryz.prog 14 #[.agg #[cN start, cN n]] w fun e w' => e = .returned (.tuple #[.agg #[cN 0, .slice none 0 0], cN 2]) ∧ Below w.heap.size w w' := by
  have hf : ∃ r, Int.tmod n 8 = r := ⟨_, rfl⟩
  obtain ⟨r, hr⟩ := hf
  rw [hr] at h
  have hE : ((r != 0) = true ∧ r ≠ 0) ∨ ((r != 0) = false ∧ r = 0) := by
    by_cases e : r = 0
    · exact .inr ⟨by rw [e]; rfl, e⟩
    · exact .inl ⟨by rw [bne_iff_ne]; exact e, e⟩
  have hN : ((w.alloc (.cells #[cN start, cN n] 50)).alloc (.cells #[.int .i64 0, .slice none 0 0] 24)).heap[w.heap.size + 1]? = some (.cells #[.int .i64 0, .slice none 0 0] 24 (0, 0)) := by
    have := World.alloc_heap_new (w.alloc (.cells #[cN start, cN n] 50)) (.cells #[.int .i64 0, .slice none 0 0] 24)
    rwa [World.size_alloc] at this
  have q0 := Lib.cell_of_heap hN 0
  have q1 := Lib.cell_of_heap hN 1
  have HQ := Lib.hid (And.intro q0 q1)
  clear hN q0 q1
  rcases h with h | ⟨h1, h2⟩ | ⟨h1, h2, h3⟩ | ⟨h1, h2, h3, h4⟩ | ⟨h1, h2, h3, h4, h5⟩
  · go_enter Tryz.func14, Tryz.ntmps14
    go_wp2
    obtain ⟨q0, q1⟩ := HQ.out
    refine bodyPost_ret (v := .tuple #[.agg #[cN 0, .slice none 0 0], cN 2]) ?_ rfl ⟨rfl, bal (bal (Below.refl _ w) _) _⟩
    simp [results, Tryz.results14, go_sem, q0, q1]
  · go_enter Tryz.func14, Tryz.ntmps14
    go_wp2
    obtain ⟨q0, q1⟩ := HQ.out
    refine bodyPost_ret (v := .tuple #[.agg #[cN 0, .slice none 0 0], cN 2]) ?_ rfl ⟨rfl, bal (bal (Below.refl _ w) _) _⟩
    simp [results, Tryz.results14, go_sem, q0, q1]
  · go_enter Tryz.func14, Tryz.ntmps14
    go_wp2
    obtain ⟨q0, q1⟩ := HQ.out
    refine bodyPost_ret (v := .tuple #[.agg #[cN 0, .slice none 0 0], cN 2]) ?_ rfl ⟨rfl, bal (bal (Below.refl _ w) _) _⟩
    simp [results, Tryz.results14, go_sem, q0, q1]
  · rcases hE with ⟨e1, e2⟩ | ⟨e1, e2⟩
    · go_enter Tryz.func14, Tryz.ntmps14
      go_wp2
      obtain ⟨q0, q1⟩ := HQ.out
      refine bodyPost_ret (v := .tuple #[.agg #[cN 0, .slice none 0 0], cN 2]) ?_ rfl ⟨rfl, bal (bal (Below.refl _ w) _) _⟩
      simp [results, Tryz.results14, go_sem, q0, q1]
    · exact absurd e2 h4
  · rcases hE with ⟨e1, e2⟩ | ⟨e1, e2⟩
    · exact absurd h4 e2
    · have hs : IntKind.i64.wrap (4096 - n) = 4096 - n := by rw [IntKind.wrap_i64]; omega
      go_enter Tryz.func14, Tryz.ntmps14
      go_wp2
      obtain ⟨q0, q1⟩ := HQ.out
      refine bodyPost_ret (v := .tuple #[.agg #[cN 0, .slice none 0 0], cN 2]) ?_ rfl ⟨rfl, bal (bal (Below.refl _ w) _) _⟩
      simp [results, Tryz.results14, go_sem, q0, q1]
/-- The state of New behind k rounds. -/
structure NS (w : World) (start n : Int) (k : Nat) (v : Value) (W : World) : Prop where
  b0 : W.heap[w.heap.size]? = some (.cells #[cN start, cN n] 50 (0, 0))
  b1 : W.heap[w.heap.size + 1]? = some (.cells #[.int .i64 0, .slice none 0 0] 24 (0, 0))
  b2 : W.heap[w.heap.size + 1 + 1]? = some (.cells #[.int .i64 1, v] 24 (0, 0))
  own : OW (w.heap.size + 3) v (newT start k) W
  bel : Below w.heap.size w W
theorem own_ne {base g : Nat} {v : Value} {l : List Sp} {W : World} (h : OW base v l W) (hg : g < base) : some g ≠ v.ownBlock := fun e => by
  have := (h.lt _ e.symm).1
  omega
theorem OW.other {base g i : Nat} {v u : Value} {l : List Sp} {W : World} (h : OW base v l W) (hg : g < base) : OW base v l (W.setCell ⟨g, i, none⟩ u) := by
  refine ⟨h.1, ?_⟩
  rcases h.2 with hn | ⟨g', cap, cur, rfl, hb, hgg, rest⟩
  · exact .inl hn
  · exact .inr ⟨g', cap, cur, rfl, hb, row_other i u hgg (by omega), rest⟩
theorem NS.put {w : World} {start n : Int} {k : Nat} {v v' : Value} {W W2 : World} (h : NS w start n k v W) (hown : W2.ownsRow (w.heap.size + 3) 54 2 v' ((newT start k).length + 1) (flat (newT start k) ++ [cN UN, cN (start + 8 * (k : Int))]))
    (hg : (W.alloc (.cells #[cN UN, cN (start + 8 * (k : Int))] 54)).grownBy W2 v.ownBlock) : W2.heap[w.heap.size + 1 + 1]? = some (.cells #[.int .i64 1, v] 24 (0, 0)) ∧ NS w start n (k + 1) v' (W2.setCell ⟨w.heap.size + 1 + 1, 1, none⟩ v') := by
  have old : ∀ g o, g < w.heap.size + 3 → W.heap[g]? = some o → W2.heap[g]? = some o := fun g o hlt ho => by
    have hl := lt_of_block ho
    rw [hg.block g (by simp; omega) (own_ne h.own hlt), Lib.alloc_old _ _ _ hl]
    exact ho
  have B2 := old _ _ (by omega) h.b2
  have hO : OW (w.heap.size + 3) v' (newT start (k + 1)) W2 := by
    have e1 : (newT start (k + 1)).length = (newT start k).length + 1 := by rw [newT_len, newT_len]
    have e2 : flat (newT start (k + 1)) = flat (newT start k) ++ [cN UN, cN (start + 8 * (k : Int))] := by rw [newT_succ, flat_append]; rfl
    unfold OW
    rw [e1, e2]
    exact hown
  have hBl : Below w.heap.size w W2 := (bal h.bel _).grown hg (by have := h.bel.size; simp; omega) (fun g hk => by have := (h.own.lt g hk).1; omega)
  exact ⟨B2, ⟨row_other 1 v' (old _ _ (by omega) h.b0) (by omega), row_other 1 v' (old _ _ (by omega) h.b1) (by omega), row_set 1 v' B2, hO.other (by omega), hBl.setCell (p := ⟨w.heap.size + 1 + 1, 1, none⟩) (by simp only; omega) _⟩⟩
set_option maxRecDepth 100000 in
set_option maxHeartbeats 2000000 in
theorem new_good (start : Int) (m : Nat) (w : World) (h0 : 0 ≤ start) (hm1 : 1 ≤ m) (hm8 : m ≤ 8) (hs : start ≤ 4096 - 8 * m) :
    Calls Tryz.prog 14 #[.agg #[cN start, cN (8 * (m : Int))]] w fun e w' => ∃ v, e = .returned (.tuple #[.agg #[cN 1, v], cN 0]) ∧ OW w.heap.size v (newT start m) w' ∧ Below w.heap.size w w' := by
  obtain ⟨i0, hi, hz0, hz1, hz2⟩ := info_parts spInfo
  obtain ⟨n, hn⟩ : ∃ n : Int, 8 * (m : Int) = n := ⟨_, rfl⟩
  have g1 : Int.tmod n 8 = 0 := by rw [Int.tmod_eq_emod_of_nonneg (by omega)]; omega
  have g2 : Int.tdiv n 8 = (m : Int) := by rw [Int.tdiv_eq_ediv_of_nonneg (by omega)]; omega
  have g3 : ¬ n < 8 := by omega
  have g4 : ¬ 64 < n := by omega
  have g5 : ¬ 4096 - n < start := by omega
  have g6 : IntKind.i64.wrap (4096 - n) = 4096 - n := by rw [IntKind.wrap_i64]; omega
  have g7 : n ≤ 64 := by omega
  have hs2 : start ≤ 4096 := by omega
  rw [hn]
  clear hn hs
  go_enter Tryz.func14, Tryz.ntmps14
  go_wp2
  go_loopw [36] (fun i wr => ∃ (k : Nat) (v : Value), i = cN k ∧ k ≤ m ∧ NS w start n k v wr) (fun i _ => m - (intOf i).toNat)
  case atStart =>
    refine ⟨0, .slice none 0 0, rfl, Nat.zero_le _, ?_, ?_, ?_, OW.nil _ _, bal (bal (bal (Below.refl _ w) _) _) _⟩
    · exact (Lib.alloc_old _ _ _ (by simp; omega)).trans ((Lib.alloc_old _ _ _ (by simp)).trans (World.alloc_heap_new w _))
    · refine (Lib.alloc_old _ _ _ (by simp)).trans ?_
      have := World.alloc_heap_new (w.alloc (.cells #[cN start, cN n] 50)) (.cells #[.int .i64 0, .slice none 0 0] 24)
      rwa [World.size_alloc] at this
    · have := World.alloc_heap_new ((w.alloc (.cells #[cN start, cN n] 50)).alloc (.cells #[.int .i64 0, .slice none 0 0] 24)) (.cells #[.int .i64 1, .slice none 0 0] 24)
      rwa [World.size_alloc, World.size_alloc] at this
  case round =>
    obtain ⟨k, v, rfl, hk, H⟩ := hrel
    have p0 := Lib.cell_of_heap H.b0 0
    have p2 := Lib.cell_of_heap H.b2 1
    have hlt3 := lt_of_block H.b2
    by_cases hlt : (k : Int) < (m : Int)
    · have e1 : IntKind.i64.wrap (8 * (k : Int)) = 8 * (k : Int) := by rw [IntKind.wrap_i64]; omega
      have e2 : IntKind.i64.wrap (start + 8 * (k : Int)) = start + 8 * (k : Int) := by rw [IntKind.wrap_i64]; omega
      go_wp2_with (at_builtin; refine wpList_append_own _ rfl _ _ 22 rfl (w.heap.size + 3) 54 i0 (.agg #[.int .i64 0, .int .i64 0]) 2 16 Tryz.underlying22 hi hz0 hz1 hz2 rfl (by decide) v (newT start k).length (flat (newT start k)) rfl (H.own.keep ((Below.refl _ wr).alloc (Nat.le_refl _) _)) ⟨wr.heap.size, 0, none⟩ 1 1 [cN UN, cN (start + 8 * (k : Int))] rfl rfl ?c1 ?c2 ?c3 ?c4 ?c5 ?_)
      case c1 =>
        intro j u hj
        match j, hj with
        | 0, hj => simp at hj; subst hj; simp [Addr.add]
        | 1, hj => simp at hj; subst hj; simp [Addr.add]
      case c2 => intro u hu; simp at hu; rcases hu with rfl | rfl <;> rfl
      case c3 => rw [newT_len]; unfold maxLen; omega
      case c4 => rw [newT_len]; omega
      case c5 => simp; omega
      intro v' w2 hown hgrow _
      obtain ⟨B2, N2⟩ := H.put hown hgrow
      have p3 := Lib.cell_of_heap B2 1
      have f3 := Lib.frozen_of_heap B2 1
      obtain ⟨a', c', rfl⟩ := N2.own.form
      clear hown hgrow p0 p2 e1 e2
      have HN := Lib.hid N2
      clear N2 B2 H
      go_wp2
      go_roundw
      case rel => exact ⟨k + 1, _, by go_num, by omega, HN.out⟩
      case measure => simp [intOf]; omega
    · obtain rfl : k = m := by omega
      obtain ⟨a', c', rfl⟩ := H.own.form
      have p3 := Lib.cell_of_heap H.b2 0
      have p1 := fun j => Lib.frozen_of_heap H.b1 j
      have p4 := Lib.cell_of_heap H.b1 0
      have p5 := Lib.cell_of_heap H.b1 1
      go_wp2
      have h1 := row_set 0 (.int .i64 1) H.b1
      have h2 := row_set 1 (.slice a' (newT start k).length c') h1
      have q0 := Lib.cell_of_heap h2 0
      have q1 := Lib.cell_of_heap h2 1
      have hO : OW w.heap.size (.slice a' (newT start k).length c') (newT start k) ((wr.setCell ⟨w.heap.size + 1, 0, none⟩ (.int .i64 1)).setCell ⟨w.heap.size + 1, 1, none⟩ (.slice a' (newT start k).length c')) := ((H.own.other (i := 0) (u := .int .i64 1) (by omega)).other (i := 1) (by omega)).base (by omega)
      have hB := (H.bel.setCell (p := ⟨w.heap.size + 1, 0, none⟩) (by simp only; omega) (.int .i64 1)).setCell (p := ⟨w.heap.size + 1, 1, none⟩) (by simp only; omega) (.slice a' (newT start k).length c')
      clear p0 p1 p2 p3 p4 p5
      refine bodyPost_ret (v := .tuple #[.agg #[cN 1, .slice a' (newT start k).length c'], cN 0]) ?_ rfl ⟨_, rfl, hO, hB⟩
      simp [results, Tryz.results14, go_sem, q0, q1]
end Go.Proofs.YtocncjimepnlcaaGreatDoor
