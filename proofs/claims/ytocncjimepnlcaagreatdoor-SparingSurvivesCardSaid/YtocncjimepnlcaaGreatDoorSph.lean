/- Sparing tables: sort.Slice with the closure of Replace. -/
import Derived.Test.YtocncjimepnlcaaGreatDoorSpg
import Derived.Test.YtocncjimepnlcaaGreatDoorShelf
import Derived.Shelf.GgSortFunc.Tiny
import Derived.Deep.QuietTactic
import Derived.BigQuiet
namespace Go.Proofs.YtocncjimepnlcaaGreatDoor
set_option linter.unusedSimpArgs false
set_option linter.unusedVariables false
open Go Go.RowKit Go.Shelf
set_option maxRecDepth 100000 in
set_option maxHeartbeats 2000000 in
theorem less_ok (g L n cap i j : Nat) (xo xm yo ym : Int) (W : World) (hs : W.cell? ⟨L, 0, none⟩ = some (.slice (some ⟨g, 0, none⟩) n cap)) (hi : i < n) (hj : j < n) (hn : n ≤ 12)
    (i0 : W.cell? ⟨g, i * 2, none⟩ = some (cN xo)) (i1 : W.cell? ⟨g, i * 2 + 1, none⟩ = some (cN xm)) (j0 : W.cell? ⟨g, j * 2, none⟩ = some (cN yo)) (j1 : W.cell? ⟨g, j * 2 + 1, none⟩ = some (cN ym)) :
    Calls Tryz.prog 31 #[.int .i64 i, .int .i64 j, .pointer (some ⟨L, 0, none⟩)] W fun e w' => e = .returned (.bool (ltS (xo, xm) (yo, ym))) ∧ ∃ q, w' = W.drewN q := by
  have hin : (i : Int) < (n : Int) := by omega
  have hjn : (j : Int) < (n : Int) := by omega
  cases hne : (xo != yo)
  · rw [show ltS (xo, xm) (yo, ym) = decide (xm < ym) by simp only [ltS]; rw [hne]; rfl]
    go_enter Tryz.func31, Tryz.ntmps31
    go_wp2
    go_quiet (fail)
    generalize hW1 : W.drewN nq = W1
    have hs1 : W1.cell? ⟨L, 0, none⟩ = some (.slice (some ⟨g, 0, none⟩) n cap) := by rw [← hW1]; exact hs
    have i01 : W1.cell? ⟨g, i * 2, none⟩ = some (cN xo) := by rw [← hW1]; exact i0
    have i11 : W1.cell? ⟨g, i * 2 + 1, none⟩ = some (cN xm) := by rw [← hW1]; exact i1
    have j01 : W1.cell? ⟨g, j * 2, none⟩ = some (cN yo) := by rw [← hW1]; exact j0
    have j11 : W1.cell? ⟨g, j * 2 + 1, none⟩ = some (cN ym) := by rw [← hW1]; exact j1
    have HW := Lib.hid hW1
    clear hW1 hs i0 i1 j0 j1
    go_wp2
    refine region_sch (fun w' => w' = W1.drew) [(true, 0), (true, 1), (true, 2), (true, 3), (true, 4), (true, 5), (true, 6), (true, 7), (true, 8), (true, 9), (true, 10)] [11] (by kernel_rfl) (by kernel_rfl) (by rintro ⟨_, _, h, _⟩; cases h) (fun _ _ d _ _ h => by cases d <;> exact h) rfl ?_
    simp only [pickM, pickT, List.filterMap_cons, List.filterMap_nil, List.getElem?_cons_zero, List.getElem?_cons_succ, Option.map_some]
    repeat (refine m_float ⟨?_, .inl ⟨?_, .inl ?_⟩, fun K' hK => ?_⟩; rotate_left; (first | rfl | (go_simp; done)); (intro w' hS; subst hS; go_simp; try rfl); (simp only [Act.put, List.setIfInBounds_toArray, List.set_cons_succ, List.set_cons_zero]; refine hK _ ?_; clear hK K'))
    refine m_nil ?_
    show wpList Tryz.prog _ _ (List.cons _ _) _ _
    go_wp2
    go_ret
    exact ⟨rfl, nq + 1, by rw [← HW.out]; rfl⟩
  · rw [show ltS (xo, xm) (yo, ym) = decide (xo < yo) by simp only [ltS]; rw [hne]; rfl]
    go_enter Tryz.func31, Tryz.ntmps31
    go_wp2
    go_quiet (fail)
    generalize hW1 : W.drewN nq = W1
    have hs1 : W1.cell? ⟨L, 0, none⟩ = some (.slice (some ⟨g, 0, none⟩) n cap) := by rw [← hW1]; exact hs
    have i01 : W1.cell? ⟨g, i * 2, none⟩ = some (cN xo) := by rw [← hW1]; exact i0
    have i11 : W1.cell? ⟨g, i * 2 + 1, none⟩ = some (cN xm) := by rw [← hW1]; exact i1
    have j01 : W1.cell? ⟨g, j * 2, none⟩ = some (cN yo) := by rw [← hW1]; exact j0
    have j11 : W1.cell? ⟨g, j * 2 + 1, none⟩ = some (cN ym) := by rw [← hW1]; exact j1
    have HW := Lib.hid hW1
    clear hW1 hs i0 i1 j0 j1
    go_wp2
    refine region_sch (fun w' => w' = W1.drew) [(true, 0), (true, 1), (true, 2), (true, 3), (true, 4), (true, 5), (true, 6), (true, 7), (true, 8), (true, 9), (true, 10)] [11] (by kernel_rfl) (by kernel_rfl) (by rintro ⟨_, _, h, _⟩; cases h) (fun _ _ d _ _ h => by cases d <;> exact h) rfl ?_
    simp only [pickM, pickT, List.filterMap_cons, List.filterMap_nil, List.getElem?_cons_zero, List.getElem?_cons_succ, Option.map_some]
    repeat (refine m_float ⟨?_, .inl ⟨?_, .inl ?_⟩, fun K' hK => ?_⟩; rotate_left; (first | rfl | (go_simp; done)); (intro w' hS; subst hS; go_simp; try rfl); (simp only [Act.put, List.setIfInBounds_toArray, List.set_cons_succ, List.set_cons_zero]; refine hK _ ?_; clear hK K'))
    refine m_nil ?_
    show wpList Tryz.prog _ _ (List.cons _ _) _ _
    go_wp2
    go_ret
    exact ⟨rfl, nq + 1, by rw [← HW.out]; rfl⟩
def encSp (p : Sp) : List Value := [.int .i64 p.1, .int .i64 p.2]
theorem swo_ltS : Go.Sort.SWO ltS where
  irrefl := fun x => by simp [ltS]
  trans := fun x y z h1 h2 => by
    unfold ltS at *
    split at h1 <;> split at h2 <;> split <;> simp_all <;> omega
  ntrans := fun x y z h1 h2 => by
    unfold ltS at *
    split at h1 <;> split at h2 <;> split <;> simp_all <;> omega
noncomputable def spT : TypeInfo := (Tryz.prog.info? 22).get (by kernel_rfl)
noncomputable def spE : TypeInfo := (Tryz.prog.info? 54).get (by kernel_rfl)
theorem spK (n : Nat) (h2 : 2 ≤ n) : Lib.swapperK n spE 25 = 9 := by
  have a : spE.hasPointers = false := by kernel_rfl
  have b : spE.bytes = 16 := by kernel_rfl
  have c : (n == 0) = false := by simp; omega
  have d : (n == 1) = false := by simp; omega
  simp [Lib.swapperK, a, b, c, d]
theorem spK1 (n : Nat) (h1 : n ≤ 1) : Lib.swapperK n spE 25 = n + 1 := by
  have : n = 0 ∨ n = 1 := by omega
  rcases this with rfl | rfl <;> simp [Lib.swapperK]
theorem at_getD (l : List Sp) (i : Nat) (h : i < l.length) : l.toArray[i]! = at_ l i := by
  rw [at_, List.getD_eq_getElem?_getD, List.getElem?_eq_getElem h, Option.getD_some]
  simp [h]
theorem flatK_get (l : List Sp) (j : Nat) (hj : j < l.length * 2) : (Go.Sort.flatK encSp 2 l.toArray)[j]! = if j % 2 = 0 then cN (at_ l (j / 2)).1 else cN (at_ l (j / 2)).2 := by
  rw [Go.Sort.get_flatK _ _ _ _ (by simpa using hj), at_getD l (j / 2) (by omega)]
  rcases Nat.mod_two_eq_zero_or_one j with h | h
  · rw [h, if_pos rfl]
    rfl
  · rw [h, if_neg (by decide)]
    rfl
theorem holds_of_own {W : World} {g cap : Nat} {l : List Sp} (h : Own W g cap l) : Go.Sort.HoldsK encSp 2 W g 0 l.toArray := by
  intro j hj
  have hj2 : j < l.length * 2 := by simpa using hj
  have hr := h.row (j / 2) (by omega)
  rw [flatK_get l j hj2]
  refine ⟨?_, h.frozen _⟩
  rcases Nat.mod_two_eq_zero_or_one j with hm | hm
  · rw [if_pos hm]
    have := hr.1
    rwa [show 0 + j / 2 * 2 = 0 + j by omega] at this
  · rw [if_neg (by omega)]
    have := hr.2
    rwa [show 0 + j / 2 * 2 + 1 = 0 + j by omega] at this
theorem own_of_holds {W : World} {g cap : Nat} {l : List Sp} {cur : Array Value} (hg : W.heap[g]? = some (.cells cur 54 (0, 0))) (hs : cur.size = cap * 2) (hn : l.length ≤ cap) (h : Go.Sort.HoldsK encSp 2 W g 0 l.toArray) : Own W g cap l := by
  refine ⟨cur, hg, hs, hn, ?_⟩
  apply List.ext_getElem?
  intro k
  by_cases hk : k < l.length * 2
  · rw [List.getElem?_take_of_lt hk]
    have h1 := (h k (by simpa using hk)).1
    rw [Nat.zero_add, Lib.cell_of_heap hg, flatK_get l k hk] at h1
    rw [Array.getElem?_toList, h1]
    have hf := flat_get l (k / 2) (by omega)
    rcases Nat.mod_two_eq_zero_or_one k with hm | hm
    · rw [if_pos hm]
      have := hf.1
      rw [show k / 2 * 2 = k by omega] at this
      exact this.symm
    · rw [if_neg (by omega)]
      have := hf.2
      rw [show k / 2 * 2 + 1 = k by omega] at this
      exact this.symm
  · rw [List.getElem?_eq_none (by rw [List.length_take]; omega), List.getElem?_eq_none (by rw [flat_len]; omega)]
/-- The world behind the sort. -/
theorem after_sort {w : World} {g cap n : Nat} {l u : List Sp} {os : Array Obj} (h : Own w g cap l) (hu : u.length = l.length) :
    Own (Go.Sort.grow (Go.Sort.putRowK encSp 2 (Go.Sort.ahead w n) g 0 u.toArray) os) g cap u ∧ Fr w (Go.Sort.grow (Go.Sort.putRowK encSp 2 (Go.Sort.ahead w n) g 0 u.toArray) os) ∧ ∀ B, B ≤ g → Below B w (Go.Sort.grow (Go.Sort.putRowK encSp 2 (Go.Sort.ahead w n) g 0 u.toArray) os) := by
  have hH := holds_of_own h
  have hlt := h.lt
  obtain ⟨cur, hg, hcs, hnc, htake⟩ := h
  have hH1 := Go.Sort.holdsK_putRowK encSp 2 (Go.Sort.ahead w n) g 0 l.toArray u.toArray (Go.Sort.holdsK_ahead _ _ _ _ _ _ _ hH) (by simpa using hu)
  have hsz : (Go.Sort.putRowK encSp 2 (Go.Sort.ahead w n) g 0 u.toArray).heap.size = w.heap.size := by
    simp [Go.Sort.putRowK, Go.Sort.putRow, Go.Sort.mapBlock, Go.Sort.ahead]
  have hH2 : Go.Sort.HoldsK encSp 2 (Go.Sort.grow (Go.Sort.putRowK encSp 2 (Go.Sort.ahead w n) g 0 u.toArray) os) g 0 u.toArray := Go.Sort.holdsK_grow _ _ _ _ g 0 _ (by rw [hsz]; exact hlt) hH1
  have hget : ∀ k, k < w.heap.size → (Go.Sort.grow (Go.Sort.putRowK encSp 2 (Go.Sort.ahead w n) g 0 u.toArray) os).heap[k]? = (Go.Sort.putRowK encSp 2 (Go.Sort.ahead w n) g 0 u.toArray).heap[k]? := fun k hk => by
    show ((Go.Sort.putRowK encSp 2 (Go.Sort.ahead w n) g 0 u.toArray).heap ++ os)[k]? = _
    rw [Array.getElem?_append_left (by rw [hsz]; exact hk)]
  have hoth : ∀ k, k < w.heap.size → k ≠ g → (Go.Sort.grow (Go.Sort.putRowK encSp 2 (Go.Sort.ahead w n) g 0 u.toArray) os).heap[k]? = w.heap[k]? := fun k hk hne => by
    rw [hget k hk]
    show (w.heap.modify g _)[k]? = _
    rw [Array.getElem?_modify, if_neg (Ne.symm hne)]
  have hgg : ∃ cur', (Go.Sort.grow (Go.Sort.putRowK encSp 2 (Go.Sort.ahead w n) g 0 u.toArray) os).heap[g]? = some (.cells cur' 54 (0, 0)) ∧ cur'.size = cap * 2 := by
    refine ⟨Go.Sort.putCells id 0 (Go.Sort.flatK encSp 2 u.toArray) cur, ?_, by simp [Go.Sort.putCells, hcs]⟩
    rw [hget g hlt]
    show (w.heap.modify g _)[g]? = _
    rw [Array.getElem?_modify, if_pos rfl, hg]
    rfl
  obtain ⟨cur', hg', hs'⟩ := hgg
  refine ⟨own_of_holds hg' hs' (by omega) hH2, ?_, fun B hB => ⟨rfl, rfl, rfl, ?_, fun k hk => hoth k (by omega) (by omega)⟩⟩
  · intro k cs T fr hT hk
    rw [hoth k (lt_of_block hk) (fun e => by
      subst e
      rw [hg] at hk
      simp only [Option.some.injEq, Obj.cells.injEq] at hk
      exact hT hk.2.1.symm)]
    exact hk
  · show w.heap.size ≤ ((Go.Sort.putRowK encSp 2 (Go.Sort.ahead w n) g 0 u.toArray).heap ++ os).size
    rw [Array.size_append, hsz]
    omega
def SortPost (w : World) (g cap : Nat) (l : List Sp) (e : Ending) (w' : World) : Prop := e = .returned (.tuple #[]) ∧ ∃ u : List Sp, u.Perm l ∧ (u.Pairwise fun y x => ltS x y = false) ∧ Own w' g cap u ∧ Fr w w' ∧ ∀ B, B ≤ g → Below B w w'
theorem sort_two (g cap L : Nat) (l : List Sp) (w : World) (h2 : 2 ≤ l.length) (h12 : l.length ≤ 12) (hO : Own w g cap l) (hL : w.heap[L]? = some (.cells #[.slice (some ⟨g, 0, none⟩) l.length cap] 22 (0, 0))) :
    Calls Tryz.prog 30 #[.iface 22 (.slice (some ⟨g, 0, none⟩) l.length cap), .func (.func 31) #[] #[.pointer (some ⟨L, 0, none⟩)]] w (SortPost w g cap l) := by
  have hH := holds_of_own hO
  have hgw := hO.lt
  have hLw := lt_of_block hL
  have hLg : L ≠ g := fun e => by
    obtain ⟨cur, hg, -⟩ := hO
    subst e
    rw [hL] at hg
    simp only [Option.some.injEq, Obj.cells.injEq] at hg
    exact absurd hg.2.1 (by decide)
  have hless : LessReadsK Tryz.prog 31 #[.pointer (some ⟨L, 0, none⟩)] encSp 2 ltS g 0 l.toArray.size w := by
    intro m os dk hs i j hi hj
    have hs' : dk.size = l.length := by rw [hs]; simp
    have hil : i < l.length := by simpa using hi
    have hjl : j < l.length := by simpa using hj
    have hOd : Own (Go.Sort.grow (Go.Sort.putRowK encSp 2 (Go.Sort.ahead w m) g 0 dk.toList.toArray) os) g cap dk.toList := (after_sort hO (by simpa using hs')).1
    rw [Array.toArray_toList] at hOd
    have hrow := hOd.row
    have hri := hrow i (by simpa using (show i < dk.size by omega))
    have hrj := hrow j (by simpa using (show j < dk.size by omega))
    rw [Nat.zero_add] at hri hrj
    have ai : at_ dk.toList i = dk[i]! := by rw [← at_getD dk.toList i (by simpa using (show i < dk.size by omega))]
    have aj : at_ dk.toList j = dk[j]! := by rw [← at_getD dk.toList j (by simpa using (show j < dk.size by omega))]
    rw [ai] at hri
    rw [aj] at hrj
    have hcL : (sortWorldK encSp 2 w g 0 m dk os).cell? ⟨L, 0, none⟩ = some (.slice (some ⟨g, 0, none⟩) l.length cap) := by
      have e : sortWorldK encSp 2 w g 0 m dk os = Go.Sort.putRowK encSp 2 (Go.Sort.grow (Go.Sort.ahead w m) os) g 0 dk := by
        unfold sortWorldK
        rw [Go.Sort.putRowK_grow _ _ (Go.Sort.ahead w m) _ g 0 _ hgw]
      rw [e, Go.Sort.cell?_putRowK_other _ _ _ g 0 dk _ hLg, Go.Sort.cell?_grow _ _ _ (by exact hLw)]
      exact Lib.cell_of_heap hL 0
    exact less_ok g L l.length cap i j _ _ _ _ _ hcL hil hjl h12 hri.1 hri.2 hrj.1 hrj.2
  have hS := Any.sort_Slice_small_cells_sorted Tryz.laysGg6 22 54 spT spE (by kernel_rfl) (by kernel_rfl) (by kernel_rfl) (by kernel_rfl) 25 (fun _ => by kernel_rfl) encSp 2 (fun _ => rfl) (by kernel_rfl) (fun _ => by kernel_rfl)
    (fun x v hv => by simp [encSp] at hv; rcases hv with rfl | rfl <;> rfl) ltS swo_ltS 31 _
    (enters_of Tryz.func31 (by kernel_rfl) rfl) g 0 cap l.toArray (by simpa using h2) (by simpa using h12) 85 (by rw [spK _ (by simpa using h2)]; kernel_rfl) false
    (fun args W => run_callFunc_extern Tryz.func85 (by kernel_rfl) (by kernel_rfl) (by kernel_rfl) (e := Extern.ReflectliteSwapper.swap false) (by kernel_rfl) args W) w hless hH hgw
  change Calls Tryz.prog 30 _ _ _ at hS
  have hsz : l.toArray.size = l.length := by simp
  rw [hsz] at hS
  refine hS.mono fun e w' ⟨he, d', n, os, hp, hso, hw⟩ => ⟨he, d'.toList, ?_, ?_, ?_⟩
  · have h1 := hp.2.2
    have h0 := hp.1
    rw [Array.extract_eq_self_of_le (by omega), Array.extract_eq_self_of_le (by simp)] at h1
    simpa using h1
  · rw [List.pairwise_iff_getElem]
    intro i j hi hj hij
    have h0 := hp.1
    have := hso i j (Nat.zero_le _) hij (by simpa [h0] using hj)
    simpa [getElem!_pos, show i < d'.size by simpa using hi, show j < d'.size by simpa using hj] using this
  · have h0 := hp.1
    have := after_sort (n := n) (os := os) (u := d'.toList) hO (by simpa using h0)
    rw [Array.toArray_toList] at this
    rw [hw]
    exact this
theorem sort_one (g cap L : Nat) (l : List Sp) (w : World) (h1 : l.length ≤ 1) (hO : Own w g cap l) :
    Calls Tryz.prog 30 #[.iface 22 (.slice (some ⟨g, 0, none⟩) l.length cap), .func (.func 31) #[] #[.pointer (some ⟨L, 0, none⟩)]] w (SortPost w g cap l) := by
  have hf : ∃ f, Tryz.prog.funcs.findIdx? (·.name == "internal/reflectlite" ++ ".Swapper$" ++ toString (Lib.swapperK l.length spE 25)) = some f := by
    rw [spK1 _ h1]
    have : l.length = 0 ∨ l.length = 1 := by omega
    rcases this with h | h
    · rw [h]
      exact ⟨77, by kernel_rfl⟩
    · rw [h]
      exact ⟨78, by kernel_rfl⟩
  obtain ⟨f, hf⟩ := hf
  have hS := Any.sort_Slice_tiny Tryz.laysGg6 22 54 spT spE (by kernel_rfl) (by kernel_rfl) (by kernel_rfl) (by kernel_rfl) 25 (fun _ => by kernel_rfl) (some ⟨g, 0, none⟩) l.length cap h1 f hf (.func 31) #[] #[.pointer (some ⟨L, 0, none⟩)] w
  change Calls Tryz.prog 30 _ _ _ at hS
  refine hS.mono fun e w' ⟨he, os, hw⟩ => ⟨he, l, List.Perm.refl _, ?_, ?_⟩
  · match l, h1 with
    | [], _ => exact List.Pairwise.nil
    | [x], _ => exact List.pairwise_singleton _ _
  · have hB : Below w.heap.size w w' := by
      rw [hw]
      refine ⟨rfl, rfl, rfl, ?_, fun k hk => ?_⟩
      · show w.heap.size ≤ (w.heap ++ os).size
        rw [Array.size_append]
        omega
      · show (w.heap ++ os)[k]? = _
        rw [Array.getElem?_append_left hk]
    exact ⟨hO.keep hB, Fr.below hB, fun B hBg => hB.mono (by have := hO.lt; omega)⟩
theorem sort_ok (g cap L : Nat) (l : List Sp) (w : World) (h12 : l.length ≤ 12) (hO : Own w g cap l) (hL : w.heap[L]? = some (.cells #[.slice (some ⟨g, 0, none⟩) l.length cap] 22 (0, 0))) :
    Calls Tryz.prog 30 #[.iface 22 (.slice (some ⟨g, 0, none⟩) l.length cap), .func (.func 31) #[] #[.pointer (some ⟨L, 0, none⟩)]] w (SortPost w g cap l) := by
  by_cases h : 2 ≤ l.length
  · exact sort_two g cap L l w h h12 hO hL
  · exact sort_one g cap L l w (by omega) hO
end Go.Proofs.YtocncjimepnlcaaGreatDoor
