/- What masterdiscref02.Xor returns: the exclusive or of two strings, as long as the shorter one. -/
import Derived.Test.YtmpojdjknahoiaaCon
import Derived.Test.YtmpojdjknahoiaaRgn
namespace Go.Proofs.Ytmpojdjknahoiaa
open Go Go.RowKit
def xorL (a b : List UInt8) : List UInt8 := List.zipWith (fun x y => x ^^^ y) a b
theorem xorL_length (a b : List UInt8) : (xorL a b).length = min a.length b.length := by simp [xorL]
theorem xorL_take_succ (a b : ByteArray) (k : Nat) (ha : k < a.size) (hb : k < b.size) :
    (xorL a.data.toList b.data.toList).take (k + 1) = (xorL a.data.toList b.data.toList).take k ++ [a[k] ^^^ b[k]] := by
  have hk : k < (xorL a.data.toList b.data.toList).length := by
    rw [xorL_length]
    have h1 : a.data.toList.length = a.size := Array.length_toList
    have h2 : b.data.toList.length = b.size := Array.length_toList
    omega
  rw [List.take_succ_eq_append_getElem hk]
  congr 1
  simp [xorL]
  rfl
def XorRel (w : World) (a b : ByteArray) (k : Nat) (v : Value) (wr : World) : Prop :=
  k ≤ min a.size b.size ∧ wr.ownsRow w.heap.size 5 1 v k (cb ((xorL a.data.toList b.data.toList).take k)) ∧ Below w.heap.size w wr
set_option maxHeartbeats 400000 in
theorem xor_ok (a b : ByteArray) (w : World) (ha : a.size ≤ 65536) :
    Calls Try.prog 18 #[.string a, .string b] w fun e w' => e = .returned (.string ⟨(xorL a.data.toList b.data.toList).toArray⟩) ∧ Below w.heap.size w w' := by
  obtain ⟨i0, hi, hz0, hz1, hz2⟩ := info_parts Try.infoB
  go_enter Try.func18, Try.ntmps18
  go_wp2
  go_loopw [5, 6] (fun out i wr => ∃ k : Nat, i = .int .i64 k ∧ XorRel w a b k out wr) (fun _ i _ => a.size - (intOf i).toNat)
  case atStart =>
    exact ⟨0, rfl, Nat.zero_le _, World.ownsRow_made w #[] 0 (Nat.le_refl _) (by decide) rfl, (Below.refl _ _).alloc (Nat.le_refl _) _⟩
  case round =>
    obtain ⟨k, rfl, hkn, hown, hB⟩ := hrel
    by_cases hlt : k < a.size ∧ k < b.size
    · obtain ⟨hka, hkb⟩ := hlt
      have HN := Lib.hid (xorL_take_succ a b k hka hkb)
      have hsz := hB.size
      have hx : bits BinOp.xor IntKind.u8 (a[k].toNat : Int) (b[k].toNat : Int) = ((a[k] ^^^ b[k]).toNat : Int) := by
        rw [u8_xor_nat _ _ (UInt8.toNat_lt _) (UInt8.toNat_lt _), UInt8.toNat_xor]
      generalize a[k] ^^^ b[k] = c at hx HN
      go_wp2
      refine region_sch (fun _ => True) [(true, 0), (true, 1), (true, 2), (true, 3), (true, 4), (true, 5), (true, 6), (true, 7), (false, 8)] [9, 10] (by kernel_rfl) (by kernel_rfl) (by rintro ⟨_, _, h, _⟩; cases h) (fun _ _ d _ _ h => by cases d <;> exact h) trivial ?_
      simp only [pickM, pickT, List.filterMap_cons, List.filterMap_nil, List.getElem?_cons_zero, List.getElem?_cons_succ, Option.map_some]
      repeat (refine m_float ⟨?_, .inl ⟨?_, .inl ?_⟩, fun K' hK => ?_⟩; rotate_left; rfl; (intro w' _; go_simp; try rfl); (simp only [Act.put, List.setIfInBounds_toArray, List.set_cons_succ, List.set_cons_zero]; refine hK _ ?_; clear hK K'))
      refine m_loud ?_ (fun K' hK => ?_)
      · rintro ⟨_, _, h, _⟩; cases h
      go_wp2
      refine hK _ _ trivial (m_nil ?_)
      clear hK K'
      refine wpList_append_own _ rfl _ _ 40 rfl w.heap.size 5 i0 (.int .u8 0) 1 1 Try.underlying40 hi hz0 hz1 hz2 rfl (by decide) _ _ _ rfl (hown.alloc _).drew ⟨wr.heap.size, 0, none⟩ 1 1 [.int .u8 c.toNat] rfl rfl ?c1 ?c2 ?c3 ?c4 ?c5 ?_
      case c1 => intro j u h; rw [World.cell?_drew]; exact cell_one_new _ _ _ j u h
      case c2 => intro u h; rw [List.mem_singleton.1 h]; rfl
      case c3 => unfold maxLen; omega
      case c4 => omega
      case c5 => simp; omega
      intro v' w1 hown1 hgrow hnn
      have hB1 : Below w.heap.size w w1 := (hB.alloc hB.size _).drew.grown hgrow (by simp; omega) (fun k e => (hown.lt k e).1)
      have hown2 : XorRel w a b (k + 1) v' w1 := ⟨by omega, by rw [HN.out, cb_snoc]; exact hown1, hB1⟩
      have HO := Lib.hid hown2
      clear hown1 hown2 hgrow hnn hown hB hB1 hx
      show wpList Try.prog _ _ (List.cons _ _) _ _
      go_wp2
      go_roundw
      case rel => exact ⟨k + 1, by go_num, HO.out⟩
      case measure => simp [intOf]; omega
    · have hfull : (xorL a.data.toList b.data.toList).take k = xorL a.data.toList b.data.toList := by
        apply List.take_of_length_le
        rw [xorL_length]
        have h1 : a.data.toList.length = a.size := Array.length_toList
        have h2 : b.data.toList.length = b.size := Array.length_toList
        omega
      rw [hfull] at hown
      clear hfull
      have hcv := own_bytes_string (P := Try.prog) (src := 40) (dst := 9) Try.underlying40 Try.underlying5 Try.underlying9 hown
      by_cases hka : k < a.size
      · have hkb : ¬ k < b.size := fun h => hlt ⟨hka, h⟩
        go_wp2
        go_ret
        exact ⟨rfl, hB⟩
      · go_wp2
        go_ret
        exact ⟨rfl, hB⟩
end Go.Proofs.Ytmpojdjknahoiaa
