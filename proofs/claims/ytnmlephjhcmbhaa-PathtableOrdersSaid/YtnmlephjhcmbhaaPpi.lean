/- pathtable.Decode. -/
import Derived.Test.YtnmlephjhcmbhaaPpg
namespace Go.Proofs.Ytnmlephjhcmbhaa
set_option linter.unusedSimpArgs false
set_option linter.unusedVariables false
open Go Go.RowKit
def rdN (big : Bool) (s : ByteArray) (a k : Nat) : Nat := if big then beR s a k else leR s a k
def sizP (n : Nat) : Nat := 8 + n + n % 2
def pdX (big : Bool) (s : ByteArray) (a : Nat) : PE := ⟨s.extract (a + 8) (a + 8 + sB s a), rdN big s (a + 2) 4, rdN big s (a + 6) 2⟩
/-- What Decode does, f rounds at most, from the place a on. -/
def pdL (big : Bool) (s : ByteArray) : Nat → Nat → List PE → Int × List PE
  | 0, _, R => (0, R)
  | f + 1, a, R =>
    if s.size ≤ a then (0, R)
    else if sB s a = 0 ∨ s.size < a + sizP (sB s a) then (10, [])
    else if sB s (a + 1) ≠ 0 then (14, [])
    else if R.length = 1024 then (7, [])
    else pdL big s f (a + sizP (sB s a)) (R ++ [pdX big s a])
def pdR (big : Bool) (s : ByteArray) : Int × List PE := pdL big s (s.size + 1) 0 []
def PdEnd (w : World) (r : Int × List PE) (e : Ending) (w' : World) : Prop := ∃ v, e = .returned (.tuple #[v, cN r.1]) ∧ w'.ownsRow w.heap.size 63 3 v r.2.length (flatE r.2) ∧ Below w.heap.size w w'
theorem PdEnd.bad {w w' : World} {r : Int × List PE} {z : Int} (h : r = (z, [])) (hB : Below w.heap.size w w') : PdEnd w r (.returned (.tuple #[.slice none 0 0, cN z])) w' := by
  subst h
  exact ⟨_, rfl, ⟨rfl, .inl ⟨rfl, rfl⟩⟩, hB⟩
theorem pdL_end {big : Bool} {s : ByteArray} {f a : Nat} {R : List PE} (h : s.size ≤ a) : pdL big s f a R = (0, R) := by
  cases f with
  | zero => rfl
  | succ f => rw [pdL, if_pos h]
theorem tmod2p (n : Nat) : Int.tmod (n : Int) 2 = ((n % 2 : Nat) : Int) := by rw [Int.tmod_eq_emod_of_nonneg (by omega)]; omega
set_option maxRecDepth 100000 in
set_option maxHeartbeats 4000000 in
theorem pdecl_ok (s : ByteArray) (w : World) (hs : s.size < 2 ^ 61) : Calls Try.prog 42 #[.string s, .bool false] w (PdEnd w (pdR false s)) := by
  obtain ⟨j0, hj, ky0, ky1, ky2⟩ := info_parts peInfo
  go_enter Try.func42, Try.ntmps42
  go_wp2
  go_loopw [8, 7, 9, 10, 11, 12, 13, 14] (fun i v _ _ _ _ _ _ wr => ∃ (f a : Nat) (R : List PE), i = cN a ∧ wr.ownsRow w.heap.size 63 3 v R.length (flatE R) ∧ Below w.heap.size w wr ∧ pdL false s f a R = pdR false s ∧ s.size ≤ a + f ∧ a ≤ s.size ∧ R.length ≤ 1024) (fun i _ _ _ _ _ _ _ _ => s.size - (intOf i).toNat)
  case atStart => exact ⟨s.size + 1, 0, [], rfl, ⟨rfl, .inl ⟨rfl, rfl⟩⟩, Below.refl _ w, rfl, by omega, Nat.zero_le _, by simp⟩
  case round =>
    obtain ⟨f, a, R, rfl, ho, hB, hE, hf, ha, hR⟩ := hrel
    have HO := Lib.hid ho
    have HB := Lib.hid hB
    have HE := Lib.hid hE
    have hsz := hB.size
    clear hE
    by_cases hlt : (a : Int) < (s.size : Int)
    · have hlt' : a < s.size := by omega
      obtain ⟨f, rfl⟩ : ∃ f', f = f' + 1 := ⟨f - 1, by omega⟩
      have hstep : pdL false s (f + 1) a R = if sB s a = 0 ∨ s.size < a + sizP (sB s a) then (10, []) else if sB s (a + 1) ≠ 0 then (14, []) else if R.length = 1024 then (7, []) else pdL false s f (a + sizP (sB s a)) (R ++ [pdX false s a]) := by
        rw [pdL, if_neg (by omega)]
      obtain ⟨c, hx⟩ : ∃ c, s[a]'hlt' = c := ⟨_, rfl⟩
      have hc : c.toNat = sB s a := by rw [← hx]; exact sB_get s a hlt'
      obtain ⟨n, hn⟩ : ∃ n : Nat, sB s a = n := ⟨_, rfl⟩
      have hPX : pdX false s a = ⟨s.extract (a + 8) (a + 8 + n), rdN false s (a + 2) 4, rdN false s (a + 6) 2⟩ := by rw [pdX, hn]
      rw [hn] at hstep hc
      have hcn : (c.toNat : Int) = (n : Int) := by omega
      have hn8 : n < 256 := by have := UInt8.toNat_lt c; omega
      have hm := tmod2p n
      obtain ⟨z, hz⟩ : ∃ z, sizP n = z := ⟨_, rfl⟩
      have hz2 : z = 8 + n + n % 2 := by rw [← hz]; rfl
      rw [hz] at hstep
      have e1 : (8 : Int) + (n : Int) + ((n % 2 : Nat) : Int) = (z : Int) := by omega
      have HS := Lib.hid hstep
      have HPX := Lib.hid hPX
      have HZ2 := Lib.hid hz2
      have hzb : z ≤ 300 := by omega
      have hzn : 8 + n ≤ z := by omega
      clear hstep hc hn hPX hz hz2
      by_cases h0 : n = 0
      · have HN := Lib.hid (show pdR false s = (10, []) by rw [← HE.out, HS.out, if_pos (.inl h0)])
        have g1 : ((n : Int) == 0) = true := by rw [h0]; rfl
        clear h0 ho hB
        go_wp2
        go_ret2
        exact PdEnd.bad HN.out HB.out
      · have g1 : ((n : Int) == 0) = false := beq_eq_false_iff_ne.2 (by omega)
        by_cases hlong : s.size < a + z
        · have HN := Lib.hid (show pdR false s = (10, []) by rw [← HE.out, HS.out, if_pos (.inr hlong)])
          have g2 : (s.size : Int) - (a : Int) < (z : Int) := by omega
          clear h0 hlong ho hB
          go_wp2
          go_ret2
          exact PdEnd.bad HN.out HB.out
        · have g2 : ¬ (s.size : Int) - (a : Int) < (z : Int) := by omega
          have ha1 : a + 1 < s.size := by omega
          have ha1' : (a : Int) + 1 < (s.size : Int) := by omega
          have p1 : (0 : Int) ≤ (a : Int) + 1 := by omega
          have p2 : ((a : Int) + 1).toNat = a + 1 := by omega
          obtain ⟨d, hd⟩ : ∃ d, s[a + 1]'ha1 = d := ⟨_, rfl⟩
          have hdn : d.toNat = sB s (a + 1) := by rw [← hd]; exact sB_get s (a + 1) ha1
          have HDN := Lib.hid hdn
          clear hdn
          by_cases hu : d.toNat = 0
          · have g3 : ((d.toNat : Int) != 0) = false := by simp [hu]
            by_cases hfull : R.length = 1024
            · have HN := Lib.hid (show pdR false s = (7, []) by rw [← HE.out, HS.out, if_neg (by omega), if_neg (by rw [← HDN.out]; omega), if_pos hfull])
              have g4 : ((R.length : Int) == 1024) = true := by rw [hfull]; rfl
              obtain ⟨a5, c5, rfl⟩ := own_formS ho
              clear h0 hlong ho hB hu hfull
              go_wp2
              go_ret2
              exact PdEnd.bad HN.out HB.out
            · have g4 : ((R.length : Int) == 1024) = false := beq_eq_false_iff_ne.2 (by omega)
              have HNX := Lib.hid (show pdR false s = pdL false s f (a + z) (R ++ [pdX false s a]) by rw [← HE.out, HS.out, if_neg (by omega), if_neg (by rw [← HDN.out]; omega), if_neg hfull])
              have hin1 : a + 2 + 4 ≤ s.size := by omega
              have hin2 : a + 6 + 2 ≤ s.size := by omega
              have HRL := Lib.hid (show R.length + 1 ≤ 1024 by omega)
              have HFZ := Lib.hid (show s.size ≤ a + z + f by omega)
              have c1 := fun W => readLittle_ok s (a + 2) 4 W (by omega) (by omega) (by omega) hin1
              have c2 := fun W => readLittle_ok s (a + 6) 2 W (by omega) (by omega) (by omega) hin2
              obtain ⟨r1, hr1⟩ : ∃ r : Nat, leR s (a + 2) 4 = r := ⟨_, rfl⟩
              obtain ⟨r2, hr2⟩ : ∃ r : Nat, leR s (a + 6) 2 = r := ⟨_, rfl⟩
              rw [hr1, show ((4 : Nat) : Int) = 4 from rfl, show (((a + 2 : Nat)) : Int) = (a : Int) + 2 by omega] at c1
              rw [hr2, show ((2 : Nat) : Int) = 2 from rfl, show (((a + 6 : Nat)) : Int) = (a : Int) + 6 by omega] at c2
              have HR1 := Lib.hid (show rdN false s (a + 2) 4 = r1 by rw [rdN]; simpa using hr1)
              have HR2 := Lib.hid (show rdN false s (a + 6) 2 = r2 by rw [rdN]; simpa using hr2)
              obtain ⟨id, hid⟩ : ∃ id, s.extract (a + 8) (a + 8 + n) = id := ⟨_, rfl⟩
              have k1 : (a : Int) + 8 ≤ (a : Int) + 8 + (n : Int) := by omega
              have k2 : (a : Int) + 8 + (n : Int) ≤ (s.size : Int) := by omega
              have k3 : (0 : Int) ≤ (a : Int) + 8 := by omega
              have k4 : ((a : Int) + 8).toNat = a + 8 := by omega
              have k5 : ((a : Int) + 8 + (n : Int)).toNat = a + 8 + n := by omega
              have HID := Lib.hid hid
              have HSL := Lib.hid (show a + z ≤ s.size by omega)
              obtain ⟨a5, c5, rfl⟩ := own_formS ho
              clear h0 hlong hu hfull hr1 hr2 hin1 hin2 hB ho
              go_wp2_with fail
              with_reducible refine (c1 _).mono ?_
              rintro e w1 ⟨rfl, hB1⟩
              go_wp2_with fail
              with_reducible refine (c2 _).mono ?_
              rintro e w2 ⟨rfl, hB2⟩
              have ho2 := own_keepS HO.out (bthen hB1 hB2)
              have hb2 := bthen HB.out (bthen hB1 hB2)
              have hsz2 := hb2.size
              have HB2 := Lib.hid hb2
              clear hB1 hB2 c1 c2 hb2
              go_wp2_with (at_builtin; refine wpList_append_own _ rfl _ _ 44 rfl w.heap.size 63 j0 (.agg #[.string ByteArray.empty, .int .i64 0, .int .i64 0]) 3 32 Try.underlying44 hj ky0 ky1 ky2 rfl (by decide) _ _ _ rfl (ho2.alloc _) ⟨w2.heap.size, 0, none⟩ 1 1 [.string id, cN (r1 : Int), cN (r2 : Int)] rfl rfl ?c1 ?c2 ?c3 ?c4 ?c5 ?_)
              try case c1 =>
                intro j u hj
                match j, hj with
                | 0, hj => simp at hj; subst hj; simp [Addr.add]
                | 1, hj => simp at hj; subst hj; simp [Addr.add]
                | 2, hj => simp at hj; subst hj; simp [Addr.add]
                | j + 3, hj => simp at hj
              case c2 =>
                intro u hu
                simp at hu
                rcases hu with rfl | rfl | rfl <;> rfl
              case c3 => unfold maxLen; omega
              case c4 => omega
              case c5 => first | omega | (simp; omega)
              intro v' w3 ho3 hg3 _
              have HB3 := Lib.hid (show Below w.heap.size w w3 from (bald HB2.out _).grown hg3 (by simp; omega) (fun k e => (ho2.lt k e).1))
              have HO3 : Hid (w3.ownsRow w.heap.size 63 3 v' (R ++ [PE.mk id (r1 : Int) (r2 : Int)]).length (flatE (R ++ [PE.mk id (r1 : Int) (r2 : Int)]))) := Lib.hid (by rw [List.length_append, flatE_append, flatE_one]; exact ho3)
              clear ho2 ho3 hg3
              go_wp2
              go_roundw
              case rel => exact ⟨f, a + z, R ++ [PE.mk id (r1 : Int) (r2 : Int)], num_eq (by have := HZ2.out; omega), HO3.out, HB3.out, by rw [HNX.out, HPX.out, HR1.out, HR2.out, HID.out], HFZ.out, HSL.out, by rw [List.length_append]; exact HRL.out⟩
              case measure => have := HSL.out; simp [intOf]; omega
          · have g3 : ((d.toNat : Int) != 0) = true := by simp; omega
            have HN := Lib.hid (show pdR false s = (14, []) by rw [← HE.out, HS.out, if_neg (by omega), if_pos (by rw [← HDN.out]; exact hu)])
            clear h0 hlong ho hB hu
            go_wp2
            go_ret2
            exact PdEnd.bad HN.out HB.out
    · have HX2 := Lib.hid (show pdR false s = (0, R) by rw [← HE.out, pdL_end (by omega)])
      obtain ⟨a5, c5, rfl⟩ := own_formS ho
      clear ho hB
      go_wp2
      go_ret2
      exact ⟨_, by rw [HX2.out]; rfl, by rw [HX2.out]; exact HO.out, HB.out⟩
set_option maxRecDepth 100000 in
set_option maxHeartbeats 4000000 in
theorem pdecb_ok (s : ByteArray) (w : World) (hs : s.size < 2 ^ 61) : Calls Try.prog 42 #[.string s, .bool true] w (PdEnd w (pdR true s)) := by
  obtain ⟨j0, hj, ky0, ky1, ky2⟩ := info_parts peInfo
  go_enter Try.func42, Try.ntmps42
  go_wp2
  go_loopw [8, 7, 9, 10, 11, 12, 13, 14] (fun i v _ _ _ _ _ _ wr => ∃ (f a : Nat) (R : List PE), i = cN a ∧ wr.ownsRow w.heap.size 63 3 v R.length (flatE R) ∧ Below w.heap.size w wr ∧ pdL true s f a R = pdR true s ∧ s.size ≤ a + f ∧ a ≤ s.size ∧ R.length ≤ 1024) (fun i _ _ _ _ _ _ _ _ => s.size - (intOf i).toNat)
  case atStart => exact ⟨s.size + 1, 0, [], rfl, ⟨rfl, .inl ⟨rfl, rfl⟩⟩, Below.refl _ w, rfl, by omega, Nat.zero_le _, by simp⟩
  case round =>
    obtain ⟨f, a, R, rfl, ho, hB, hE, hf, ha, hR⟩ := hrel
    have HO := Lib.hid ho
    have HB := Lib.hid hB
    have HE := Lib.hid hE
    have hsz := hB.size
    clear hE
    by_cases hlt : (a : Int) < (s.size : Int)
    · have hlt' : a < s.size := by omega
      obtain ⟨f, rfl⟩ : ∃ f', f = f' + 1 := ⟨f - 1, by omega⟩
      have hstep : pdL true s (f + 1) a R = if sB s a = 0 ∨ s.size < a + sizP (sB s a) then (10, []) else if sB s (a + 1) ≠ 0 then (14, []) else if R.length = 1024 then (7, []) else pdL true s f (a + sizP (sB s a)) (R ++ [pdX true s a]) := by
        rw [pdL, if_neg (by omega)]
      obtain ⟨c, hx⟩ : ∃ c, s[a]'hlt' = c := ⟨_, rfl⟩
      have hc : c.toNat = sB s a := by rw [← hx]; exact sB_get s a hlt'
      obtain ⟨n, hn⟩ : ∃ n : Nat, sB s a = n := ⟨_, rfl⟩
      have hPX : pdX true s a = ⟨s.extract (a + 8) (a + 8 + n), rdN true s (a + 2) 4, rdN true s (a + 6) 2⟩ := by rw [pdX, hn]
      rw [hn] at hstep hc
      have hcn : (c.toNat : Int) = (n : Int) := by omega
      have hn8 : n < 256 := by have := UInt8.toNat_lt c; omega
      have hm := tmod2p n
      obtain ⟨z, hz⟩ : ∃ z, sizP n = z := ⟨_, rfl⟩
      have hz2 : z = 8 + n + n % 2 := by rw [← hz]; rfl
      rw [hz] at hstep
      have e1 : (8 : Int) + (n : Int) + ((n % 2 : Nat) : Int) = (z : Int) := by omega
      have HS := Lib.hid hstep
      have HPX := Lib.hid hPX
      have HZ2 := Lib.hid hz2
      have hzb : z ≤ 300 := by omega
      have hzn : 8 + n ≤ z := by omega
      clear hstep hc hn hPX hz hz2
      by_cases h0 : n = 0
      · have HN := Lib.hid (show pdR true s = (10, []) by rw [← HE.out, HS.out, if_pos (.inl h0)])
        have g1 : ((n : Int) == 0) = true := by rw [h0]; rfl
        clear h0 ho hB
        go_wp2
        go_ret2
        exact PdEnd.bad HN.out HB.out
      · have g1 : ((n : Int) == 0) = false := beq_eq_false_iff_ne.2 (by omega)
        by_cases hlong : s.size < a + z
        · have HN := Lib.hid (show pdR true s = (10, []) by rw [← HE.out, HS.out, if_pos (.inr hlong)])
          have g2 : (s.size : Int) - (a : Int) < (z : Int) := by omega
          clear h0 hlong ho hB
          go_wp2
          go_ret2
          exact PdEnd.bad HN.out HB.out
        · have g2 : ¬ (s.size : Int) - (a : Int) < (z : Int) := by omega
          have ha1 : a + 1 < s.size := by omega
          have ha1' : (a : Int) + 1 < (s.size : Int) := by omega
          have p1 : (0 : Int) ≤ (a : Int) + 1 := by omega
          have p2 : ((a : Int) + 1).toNat = a + 1 := by omega
          obtain ⟨d, hd⟩ : ∃ d, s[a + 1]'ha1 = d := ⟨_, rfl⟩
          have hdn : d.toNat = sB s (a + 1) := by rw [← hd]; exact sB_get s (a + 1) ha1
          have HDN := Lib.hid hdn
          clear hdn
          by_cases hu : d.toNat = 0
          · have g3 : ((d.toNat : Int) != 0) = false := by simp [hu]
            by_cases hfull : R.length = 1024
            · have HN := Lib.hid (show pdR true s = (7, []) by rw [← HE.out, HS.out, if_neg (by omega), if_neg (by rw [← HDN.out]; omega), if_pos hfull])
              have g4 : ((R.length : Int) == 1024) = true := by rw [hfull]; rfl
              obtain ⟨a5, c5, rfl⟩ := own_formS ho
              clear h0 hlong ho hB hu hfull
              go_wp2
              go_ret2
              exact PdEnd.bad HN.out HB.out
            · have g4 : ((R.length : Int) == 1024) = false := beq_eq_false_iff_ne.2 (by omega)
              have HNX := Lib.hid (show pdR true s = pdL true s f (a + z) (R ++ [pdX true s a]) by rw [← HE.out, HS.out, if_neg (by omega), if_neg (by rw [← HDN.out]; omega), if_neg hfull])
              have hin1 : a + 2 + 4 ≤ s.size := by omega
              have hin2 : a + 6 + 2 ≤ s.size := by omega
              have HRL := Lib.hid (show R.length + 1 ≤ 1024 by omega)
              have HFZ := Lib.hid (show s.size ≤ a + z + f by omega)
              have c1 := fun W => readBig_ok s (a + 2) 4 W (by omega) (by omega) (by omega) hin1
              have c2 := fun W => readBig_ok s (a + 6) 2 W (by omega) (by omega) (by omega) hin2
              obtain ⟨r1, hr1⟩ : ∃ r : Nat, beR s (a + 2) 4 = r := ⟨_, rfl⟩
              obtain ⟨r2, hr2⟩ : ∃ r : Nat, beR s (a + 6) 2 = r := ⟨_, rfl⟩
              rw [hr1, show ((4 : Nat) : Int) = 4 from rfl, show (((a + 2 : Nat)) : Int) = (a : Int) + 2 by omega] at c1
              rw [hr2, show ((2 : Nat) : Int) = 2 from rfl, show (((a + 6 : Nat)) : Int) = (a : Int) + 6 by omega] at c2
              have HR1 := Lib.hid (show rdN true s (a + 2) 4 = r1 by rw [rdN]; simpa using hr1)
              have HR2 := Lib.hid (show rdN true s (a + 6) 2 = r2 by rw [rdN]; simpa using hr2)
              obtain ⟨id, hid⟩ : ∃ id, s.extract (a + 8) (a + 8 + n) = id := ⟨_, rfl⟩
              have k1 : (a : Int) + 8 ≤ (a : Int) + 8 + (n : Int) := by omega
              have k2 : (a : Int) + 8 + (n : Int) ≤ (s.size : Int) := by omega
              have k3 : (0 : Int) ≤ (a : Int) + 8 := by omega
              have k4 : ((a : Int) + 8).toNat = a + 8 := by omega
              have k5 : ((a : Int) + 8 + (n : Int)).toNat = a + 8 + n := by omega
              have HID := Lib.hid hid
              have HSL := Lib.hid (show a + z ≤ s.size by omega)
              obtain ⟨a5, c5, rfl⟩ := own_formS ho
              clear h0 hlong hu hfull hr1 hr2 hin1 hin2 hB ho
              go_wp2_with fail
              with_reducible refine (c1 _).mono ?_
              rintro e w1 ⟨rfl, hB1⟩
              go_wp2_with fail
              with_reducible refine (c2 _).mono ?_
              rintro e w2 ⟨rfl, hB2⟩
              have ho2 := own_keepS HO.out (bthen hB1 hB2)
              have hb2 := bthen HB.out (bthen hB1 hB2)
              have hsz2 := hb2.size
              have HB2 := Lib.hid hb2
              clear hB1 hB2 c1 c2 hb2
              go_wp2_with (at_builtin; refine wpList_append_own _ rfl _ _ 44 rfl w.heap.size 63 j0 (.agg #[.string ByteArray.empty, .int .i64 0, .int .i64 0]) 3 32 Try.underlying44 hj ky0 ky1 ky2 rfl (by decide) _ _ _ rfl (ho2.alloc _) ⟨w2.heap.size, 0, none⟩ 1 1 [.string id, cN (r1 : Int), cN (r2 : Int)] rfl rfl ?c1 ?c2 ?c3 ?c4 ?c5 ?_)
              try case c1 =>
                intro j u hj
                match j, hj with
                | 0, hj => simp at hj; subst hj; simp [Addr.add]
                | 1, hj => simp at hj; subst hj; simp [Addr.add]
                | 2, hj => simp at hj; subst hj; simp [Addr.add]
                | j + 3, hj => simp at hj
              case c2 =>
                intro u hu
                simp at hu
                rcases hu with rfl | rfl | rfl <;> rfl
              case c3 => unfold maxLen; omega
              case c4 => omega
              case c5 => first | omega | (simp; omega)
              intro v' w3 ho3 hg3 _
              have HB3 := Lib.hid (show Below w.heap.size w w3 from (bald HB2.out _).grown hg3 (by simp; omega) (fun k e => (ho2.lt k e).1))
              have HO3 : Hid (w3.ownsRow w.heap.size 63 3 v' (R ++ [PE.mk id (r1 : Int) (r2 : Int)]).length (flatE (R ++ [PE.mk id (r1 : Int) (r2 : Int)]))) := Lib.hid (by rw [List.length_append, flatE_append, flatE_one]; exact ho3)
              clear ho2 ho3 hg3
              go_wp2
              go_roundw
              case rel => exact ⟨f, a + z, R ++ [PE.mk id (r1 : Int) (r2 : Int)], num_eq (by have := HZ2.out; omega), HO3.out, HB3.out, by rw [HNX.out, HPX.out, HR1.out, HR2.out, HID.out], HFZ.out, HSL.out, by rw [List.length_append]; exact HRL.out⟩
              case measure => have := HSL.out; simp [intOf]; omega
          · have g3 : ((d.toNat : Int) != 0) = true := by simp; omega
            have HN := Lib.hid (show pdR true s = (14, []) by rw [← HE.out, HS.out, if_neg (by omega), if_pos (by rw [← HDN.out]; exact hu)])
            clear h0 hlong ho hB hu
            go_wp2
            go_ret2
            exact PdEnd.bad HN.out HB.out
    · have HX2 := Lib.hid (show pdR true s = (0, R) by rw [← HE.out, pdL_end (by omega)])
      obtain ⟨a5, c5, rfl⟩ := own_formS ho
      clear ho hB
      go_wp2
      go_ret2
      exact ⟨_, by rw [HX2.out]; rfl, by rw [HX2.out]; exact HO.out, HB.out⟩
end Go.Proofs.Ytnmlephjhcmbhaa
