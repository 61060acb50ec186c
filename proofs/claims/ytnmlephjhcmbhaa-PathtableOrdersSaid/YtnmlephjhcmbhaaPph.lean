/- pathtable.Encode. -/
import Derived.Test.YtnmlephjhcmbhaaPpg
import Derived.Test.YtnmlephjhcmbhaaPpf
import Derived.Test.YtnmlephjhcmbhaaPpb
namespace Go.Proofs.Ytnmlephjhcmbhaa
set_option linter.unusedSimpArgs false
set_option linter.unusedVariables false
open Go Go.RowKit
def goodN (x : PE) : Prop := numE x.lba 4 = 0 ∧ numE x.par 2 = 0 ∧ x.par ≠ 0
instance (x : PE) : Decidable (goodN x) := by unfold goodN; infer_instance
def partsP (big : Bool) (x : PE) : List ByteArray := [⟨#[0]⟩, numB x.lba 4 big, numB x.par 2 big, x.id, bL (List.replicate (x.id.size % 2) 0)]
def joinB (l : List ByteArray) : List UInt8 := l.flatMap fun s => s.data.toList
def encB (big : Bool) (x : PE) : List UInt8 := bN x.id.size :: joinB (partsP big x)
def encsB (big : Bool) (l : List PE) : List UInt8 := l.flatMap (encB big)
def encPE (big : Bool) (l : List PE) : Int :=
  if 1024 < l.length ∨ l.any (fun x => decide ((255 : Int) < x.id.size)) = true then 7
  else if l.any (fun x => x.id.toList.isEmpty) = true then 1
  else if l.all (fun x => decide (goodN x)) = true then 0 else 2
def encPS (big : Bool) (l : List PE) : ByteArray := if encPE big l = 0 then ⟨(encsB big l).toArray⟩ else ByteArray.empty
/-- The builder, where k bytes are written. -/
structure EP (w : World) (b : Nat) (bs : List UInt8) (W : World) : Prop where
  hb : IsB w.heap.size b (cb bs) W
  ge : w.heap.size ≤ b
  bel : Below w.heap.size w W
theorem EP.other {w : World} {b : Nat} {bs : List UInt8} {W W' : World} (h : EP w b bs W) (k : Below W.heap.size W W') : EP w b bs W' :=
  ⟨isB_keep h.hb fun _ _ _ _ _ hw => (k.block _ (lt_of_block hw)).trans hw, h.ge, h.bel.trans (k.mono h.bel.size)⟩
theorem EP.wrote {w : World} {b : Nat} {bs bs' : List UInt8} {W W' : World} (h : EP w b bs W) (k : Bd w.heap.size b (ptr b) (cb bs') W') (k2 : Below w.heap.size W W') : EP w b bs' W' := ⟨.inr k, h.ge, h.bel.trans k2⟩
theorem EP.str {w : World} {b : Nat} {bs : List UInt8} {W : World} (h : EP w b bs W) (s : ByteArray) (hl : bs.length ≤ 2000000) (hl2 : s.size ≤ 1000) :
    Calls Try.prog 52 #[ptr b, .string s] W fun e W' => e = .returned (.tuple #[.int .i64 s.size, .nilIface]) ∧ EP w b (bs ++ s.data.toList) W' ∧ Hid (Fr5 b W W') := by
  refine (writeString_f w.heap.size b (cb bs) s W h.hb (by rw [cb_length]; omega) h.bel.size).mono ?_
  rintro e W' ⟨rfl, ⟨hd, hbl⟩, hfr⟩
  rw [← cb_str, ← cb_append] at hd
  exact ⟨rfl, h.wrote hd hbl, hfr⟩
theorem EP.byte {w : World} {b : Nat} {bs : List UInt8} {W : World} (h : EP w b bs W) (c : UInt8) (hl : bs.length ≤ 2000000) :
    Calls Try.prog 54 #[ptr b, .int .u8 c.toNat] W fun e W' => e = .returned .nilIface ∧ EP w b (bs ++ [c]) W' ∧ Hid (Fr5 b W W') := by
  refine (writeByte_f w.heap.size b (cb bs) c.toNat W h.hb (by rw [cb_length]; omega) h.bel.size).mono ?_
  rintro e W' ⟨rfl, ⟨hd, hbl⟩, hfr⟩
  rw [← cb_snoc] at hd
  exact ⟨rfl, h.wrote hd hbl, hfr⟩
theorem EP.done {w : World} {b : Nat} {bs : List UInt8} {W : World} (h : EP w b bs W) :
    Calls Try.prog 55 #[ptr b] W fun e W' => e = .returned (.string ⟨bs.toArray⟩) ∧ Below w.heap.size w W' :=
  (Try.Builder_String_any w.heap.size b bs W h.hb h.bel.size).mono fun _ _ ⟨he, hw⟩ => ⟨he, h.bel.trans hw⟩
theorem EP.start {w W : World} (h : Below w.heap.size w W) : EP w W.heap.size [] (W.alloc (.cells #[.pointer none, .slice none 0 0] 73)) :=
  ⟨Or.inl ⟨h.size, _, World.alloc_heap_new _ _, ⟨by simp [cb], Or.inl ⟨rfl, by simp [cb]⟩⟩, by simp [Value.ownBlock]⟩, h.size, bald h _⟩
theorem xb_cells {W : World} {B : Nat} {x : PE} (h : W.heap[B]? = some (.cells (peA x) 63 (0, 0))) : W.cell? ⟨B, 0, none⟩ = some (.string x.id) ∧ W.cell? ⟨B, 1, none⟩ = some (cN x.lba) ∧ W.cell? ⟨B, 2, none⟩ = some (cN x.par) :=
  ⟨Lib.cell_of_heap h 0, Lib.cell_of_heap h 1, Lib.cell_of_heap h 2⟩
theorem numE_or (n : Int) (s : Nat) : numE n s = 0 ∨ numE n s = 2 := by unfold numE; split <;> simp
theorem tmod2 (n : Nat) : Int.tmod (n : Int) 2 = ((n % 2 : Nat) : Int) := by rw [Int.tmod_eq_emod_of_nonneg (by omega)]; omega
theorem EP.lt {w : World} {b : Nat} {bs : List UInt8} {W : World} (h : EP w b bs W) : b < W.heap.size := by
  rcases h.hb with hb | hb
  · exact hb.lt
  · exact hb.lt
theorem all_badP {l : List PE} {k : Nat} {x : PE} (hk : k < l.length) (hx : l.getD k peD = x) (h : ¬ goodN x) : l.all (fun x => decide (goodN x)) = false := by
  rw [List.all_eq_false]
  refine ⟨x, ?_, by simpa using h⟩
  rw [← hx, List.getD_eq_getElem?_getD, List.getElem?_eq_getElem hk, Option.getD_some]
  exact List.getElem_mem hk
theorem strB_get (l : List ByteArray) (j : Nat) (h : j < l.length) : (strB l).toArray[j]? = some (.string (l.getD j ByteArray.empty)) := by simp [strB, List.getD_eq_getElem?_getD, h]
theorem take_snocB (l : List ByteArray) (k : Nat) (hk : k < l.length) : l.take (k + 1) = l.take k ++ [l.getD k ByteArray.empty] := by
  rw [List.take_succ_eq_append_getElem hk, List.getD_eq_getElem?_getD, List.getElem?_eq_getElem hk, Option.getD_some]
theorem repeat_z (n : Nat) : Lib.repeatL [0] n = List.replicate n 0 := by
  induction n with
  | zero => rfl
  | succ n ih => rw [Lib.repeatL, ih, List.replicate_succ]; rfl
theorem rep0_ok (n : Nat) (w : World) (hn : n ≤ 2 ^ 40) : Calls Try.prog 87 #[.string ⟨#[0]⟩, .int .i64 n] w fun e w' => e = .returned (.string (bL (List.replicate n 0))) ∧ Below w.heap.size w w' := by
  refine (Try.strings_Repeat ⟨#[0]⟩ n w (by omega) (by show 1 * n ≤ _; omega)).mono ?_
  rintro e w' ⟨rfl, hB⟩
  exact ⟨by rw [← repeat_z]; rfl, hB⟩
theorem numB_size (n : Int) (s : Nat) (big : Bool) : (numB n s big).size ≤ s := by
  unfold numB
  split
  · cases big
    · show (leL n.toNat s).toArray.size ≤ s
      rw [List.size_toArray, leL_length]; exact Nat.le_refl _
    · show (leL n.toNat s).reverse.toArray.size ≤ s
      rw [List.size_toArray, List.length_reverse, leL_length]; exact Nat.le_refl _
  · exact Nat.zero_le _
theorem parts_size (big : Bool) (x : PE) (h : x.id.size ≤ 255) : ∀ s ∈ partsP big x, s.size ≤ 1000 := by
  intro s hs
  unfold partsP at hs
  simp only [List.mem_cons, List.not_mem_nil, or_false] at hs
  rcases hs with rfl | rfl | rfl | rfl | rfl
  · decide
  · have := numB_size x.lba 4 big; omega
  · have := numB_size x.par 2 big; omega
  · omega
  · show (List.replicate (x.id.size % 2) (0 : UInt8)).toArray.size ≤ 1000
    simp
    omega
theorem joinB_snoc (l : List ByteArray) (s : ByteArray) : joinB (l ++ [s]) = joinB l ++ s.data.toList := by simp [joinB]
theorem joinB_le : ∀ (l : List ByteArray), (∀ s ∈ l, s.size ≤ 1000) → (joinB l).length ≤ 1000 * l.length
  | [], _ => by simp [joinB]
  | s :: l, h => by
    have h1 := joinB_le l fun x hx => h x (List.mem_cons_of_mem _ hx)
    have h2 := h s (List.mem_cons_self ..)
    rw [show joinB (s :: l) = s.data.toList ++ joinB l from rfl, List.length_append, list_size, List.length_cons]
    omega
theorem encsB_le (big : Bool) : ∀ (l : List PE), (∀ x ∈ l, x.id.size ≤ 255) → (encsB big l).length ≤ 1800 * l.length
  | [], _ => by simp [encsB]
  | x :: l, h => by
    have h1 := encsB_le big l fun y hy => h y (List.mem_cons_of_mem _ hy)
    have h3 := h x (List.mem_cons_self ..)
    have h2 : (encB big x).length ≤ 1800 := by
      have e1 := numB_size x.lba 4 big
      have e2 := numB_size x.par 2 big
      simp [encB, joinB, partsP, list_size, bL]
      omega
    rw [show encsB big (x :: l) = encB big x ++ encsB big l from rfl, List.length_append, List.length_cons]
    omega
theorem encsB_snoc (big : Bool) (l : List PE) (x : PE) : encsB big (l ++ [x]) = encsB big l ++ encB big x := by simp [encsB]
def PeEnd (w : World) (big : Bool) (l : List PE) (e : Ending) (w' : World) : Prop := e = .returned (.tuple #[.string (encPS big l), cN (encPE big l)]) ∧ Below w.heap.size w w'
theorem PeEnd.bad {w w' : World} {big : Bool} {l : List PE} {x : Int} (hx : encPE big l = x) (h0 : x ≠ 0) (hb : Below w.heap.size w w') : PeEnd w big l (.returned (.tuple #[.string ⟨#[]⟩, cN x])) w' := by
  refine ⟨?_, hb⟩
  rw [hx, encPS, hx, if_neg h0]
  rfl
set_option maxRecDepth 100000 in
set_option maxHeartbeats 400000 in
theorem penc_large (a : Option Addr) (c : Nat) (l : List PE) (big : Bool) (w : World) (hl : 1024 < l.length) : Calls Try.prog 41 #[.slice a l.length c, .bool big] w (PeEnd w big l) := by
  have HX := Lib.hid (show encPE big l = 7 by rw [encPE, if_pos (.inl hl)])
  have g1 : (1024 : Int) < (l.length : Int) := by omega
  go_enter Try.func41, Try.ntmps41
  go_wp2
  go_ret2
  exact PeEnd.bad HX.out (by decide) (Below.refl _ w)
set_option maxRecDepth 100000 in
set_option maxHeartbeats 4000000 in
theorem penc_small (a : Option Addr) (c : Nat) (l : List PE) (big : Bool) (w : World) (hl : l.length ≤ 1024) (hrow : RowP w a l) : Calls Try.prog 41 #[.slice a l.length c, .bool big] w (PeEnd w big l) := by
  have g1 : ¬ (1024 : Int) < (l.length : Int) := by omega
  have cL := cflong_ok a c l w (by omega) hrow
  have cE0 := fun W (hW : Below w.heap.size w W) => cfempty_ok a c l W (by omega) (hrow.below hW)
  have HR := Lib.hid hrow
  clear hrow
  cases h1 : l.any (fun x => decide ((255 : Int) < x.id.size))
  · rw [h1] at cL
    cases h2 : l.any (fun x => x.id.toList.isEmpty)
    · simp only [h2] at cE0
      have HN1 : Hid (¬ (1024 < l.length ∨ l.any (fun x => decide ((255 : Int) < x.id.size)) = true)) := Lib.hid (by rw [h1]; simp; omega)
      have HN2 : Hid (¬ l.any (fun x => x.id.toList.isEmpty) = true) := Lib.hid (by rw [h2]; simp)
      have HZ : Hid (∀ x ∈ l, x.id.size ≤ 255) := Lib.hid (fun x hx => by
        have := List.any_eq_false.1 h1 x hx
        simp at this
        omega)
      clear h1 h2
      cases big
      · go_enter Try.func41, Try.ntmps41
        go_wp2_with fail
        with_reducible refine cL.mono ?_
        rintro e w0 ⟨rfl, hB0⟩
        have cE := cE0 _ hB0
        go_wp2_with fail
        with_reducible refine cE.mono ?_
        rintro e w1 ⟨rfl, hB1⟩
        have HB0 := Lib.hid (bthen hB0 hB1)
        clear hB0 hB1 cL cE cE0
        go_wp2
        go_loopw [28, 9, 10, 11, 12, 13, 15] (fun i _ _ _ _ _ _ wr => ∃ k : Nat, i = cN k ∧ k ≤ l.length ∧ (l.take k).all (fun x => decide (goodN x)) = true ∧ EP w w1.heap.size (encsB false (l.take k)) wr) (fun i _ _ _ _ _ _ _ => l.length - (intOf i).toNat)
        case atStart => exact ⟨0, rfl, Nat.zero_le _, rfl, EP.start HB0.out⟩
        case round =>
          obtain ⟨k, rfl, hk, hall, hE⟩ := hrel
          have HALL := Lib.hid hall
          have HE := Lib.hid hE
          clear hall
          by_cases hlt : (k : Int) < (l.length : Int)
          · have hkl : k < l.length := by omega
            obtain ⟨b, off, rfl, hb, hc⟩ := HR.out k hkl
            obtain ⟨x, hx⟩ : ∃ x, l.getD k peD = x := ⟨_, rfl⟩
            rw [hx] at hc
            have hmx : x ∈ l := by rw [← hx, List.getD_eq_getElem?_getD, List.getElem?_eq_getElem hkl, Option.getD_some]; exact List.getElem_mem hkl
            obtain ⟨q0, q1, q2⟩ := hc.below hb hE.bel
            have c1 : ∀ W, Calls Try.prog 85 #[cN x.lba, cN 4] W fun e w' => e = .returned (.tuple #[.string (numB x.lba 4 false), cN (numE x.lba 4)]) ∧ Below W.heap.size W w' := fun W => elittle_ok x.lba 4 W (.inr rfl)
            have c2 : ∀ W, Calls Try.prog 85 #[cN x.par, cN 2] W fun e w' => e = .returned (.tuple #[.string (numB x.par 2 false), cN (numE x.par 2)]) ∧ Below W.heap.size W w' := fun W => elittle_ok x.par 2 W (.inl rfl)
            have hV0 := PVS.new (w := w) hE.bel x
            have BAD : ¬ goodN x → encPE false l = 2 := fun h => by rw [encPE, if_neg HN1.out, if_neg HN2.out, all_badP hkl hx h]; rfl
            have HBAD := Lib.hid BAD
            have HX := Lib.hid hx
            have HZX := Lib.hid (HZ.out x hmx)
            have HLT := Lib.hid hE.lt
            have HV0 := Lib.hid hV0
            have HE0 := Lib.hid (hE.other ((Below.refl _ wr).alloc (Nat.le_refl _) (.cells (peA x) 63)))
            clear hb hc hx hmx hV0 BAD hE
            rcases numE_or x.lba 4 with h4 | h4
            · rcases numE_or x.par 2 with h2 | h2
              · rw [h4] at c1
                rw [h2] at c2
                by_cases h0 : x.par = 0
                · have g3 : (x.par == 0) = true := beq_iff_eq.2 h0
                  have HN := Lib.hid (HBAD.out fun h => h.2.2 h0)
                  clear h0 h2 h4
                  go_wp2_with fail
                  with_reducible refine (c1 _).mono ?_
                  rintro e w2 ⟨rfl, hB2⟩
                  have HV2 := Lib.hid (HV0.out.below hB2)
                  have HXB2 := Lib.hid ((hB2.block _ (lt_of_block (World.alloc_heap_new wr (.cells (peA x) 63)))).trans (World.alloc_heap_new wr (.cells (peA x) 63)))
                  have HE2 := Lib.hid (HE0.out.other hB2)
                  obtain ⟨p0, p1, p2⟩ := HV2.out.own
                  clear hB2 c1 q0 q1 q2
                  go_wp2_with fail
                  with_reducible refine (c2 _).mono ?_
                  rintro e w3 ⟨rfl, hB3⟩
                  have HV3 := Lib.hid (HV2.out.below hB3)
                  have HXB3 := Lib.hid ((hB3.block _ (lt_of_block HXB2.out)).trans HXB2.out)
                  have HE3 := Lib.hid (HE2.out.other hB3)
                  clear p0 p1 p2 hB3 c2
                  obtain ⟨p0, p1, p2⟩ := HV3.out.own
                  go_wp2
                  go_ret2
                  exact PeEnd.bad HN.out (by decide) HV3.out.bel
                · have g3 : (x.par == 0) = false := beq_eq_false_iff_ne.2 h0
                  have HG := Lib.hid (show goodN x from ⟨h4, h2, h0⟩)
                  have hwb := bN_wrap x.id.size
                  have hm := tmod2 x.id.size
                  obtain ⟨m2, hm2⟩ : ∃ m, x.id.size % 2 = m := ⟨_, rfl⟩
                  rw [hm2] at hm
                  have c3 := fun W => rep0_ok m2 W (by omega)
                  have HP0 := Lib.hid (show partsP false x = [⟨#[0]⟩, numB x.lba 4 false, numB x.par 2 false, x.id, bL (List.replicate m2 0)] by rw [partsP, hm2])
                  have HEB := Lib.hid (show encB false x = bN x.id.size :: joinB (partsP false x) from rfl)
                  have HPS := Lib.hid (parts_size false x HZX.out)
                  have hbl := encsB_le false (l.take k) fun y hy => HZ.out y (List.mem_of_mem_take hy)
                  rw [List.length_take] at hbl
                  obtain ⟨A1, hA1⟩ : ∃ s, numB x.lba 4 false = s := ⟨_, rfl⟩
                  obtain ⟨A2, hA2⟩ : ∃ s, numB x.par 2 false = s := ⟨_, rfl⟩
                  obtain ⟨A3, hA3⟩ : ∃ s, bL (List.replicate m2 0) = s := ⟨_, rfl⟩
                  obtain ⟨P5, hP5⟩ : ∃ P5, partsP false x = P5 := ⟨_, rfl⟩
                  obtain ⟨bs, hbs⟩ : ∃ bs, encsB false (l.take k) = bs := ⟨_, rfl⟩
                  obtain ⟨cb0, hcb⟩ : ∃ cb0, bN x.id.size = cb0 := ⟨_, rfl⟩
                  rw [hA1] at c1 HP0
                  rw [hA2] at c2 HP0
                  rw [hA3] at c3 HP0
                  rw [hP5] at HP0 HEB HPS
                  rw [hbs] at HE0 hbl
                  rw [hcb] at hwb HEB
                  have HBS := Lib.hid hbs
                  have hbl2 : bs.length ≤ 1800 * 1024 := by omega
                  have HBL := Lib.hid hbl2
                  clear h0 h2 h4 hA1 hA2 hA3 hP5 hbs hcb hbl hbl2 hm2
                  go_wp2_with fail
                  with_reducible refine (c1 _).mono ?_
                  rintro e w2 ⟨rfl, hB2⟩
                  have HV2 := Lib.hid (HV0.out.below hB2)
                  have HXB2 := Lib.hid ((hB2.block _ (lt_of_block (World.alloc_heap_new wr (.cells (peA x) 63)))).trans (World.alloc_heap_new wr (.cells (peA x) 63)))
                  have HE2 := Lib.hid (HE0.out.other hB2)
                  obtain ⟨p0, p1, p2⟩ := HV2.out.own
                  clear hB2 c1 q0 q1 q2
                  go_wp2_with fail
                  with_reducible refine (c2 _).mono ?_
                  rintro e w3 ⟨rfl, hB3⟩
                  have HV3 := Lib.hid (HV2.out.below hB3)
                  have HXB3 := Lib.hid ((hB3.block _ (lt_of_block HXB2.out)).trans HXB2.out)
                  have HE3 := Lib.hid (HE2.out.other hB3)
                  clear p0 p1 p2 hB3 c2
                  obtain ⟨p0, p1, p2⟩ := HV3.out.own
                  have cB := HE3.out.byte cb0 (by have := HBL.out; omega)
                  go_wp2_with fail
                  with_reducible refine cB.mono ?_
                  rintro e w4 ⟨rfl, hE4, hF4⟩
                  have HS4 : Hid (w4.heap[wr.heap.size]? = some (.cells (peA x) 63 (0, 0)) ∧ EP w w1.heap.size (bs ++ [cb0]) w4) := Lib.hid ⟨hF4.out _ _ _ _ (by have := HLT.out; omega) (by decide) HXB3.out, hE4⟩
                  clear hE4 hF4 cB p0 p1 p2
                  go_wp2
                  refine region_sch (fun W => W.heap[wr.heap.size]? = some (.cells (peA x) 63 (0, 0)) ∧ EP w w1.heap.size (bs ++ [cb0]) W) [(true, 0), (true, 1), (true, 2), (true, 3), (true, 4), (true, 5), (true, 6), (true, 7), (true, 11), (false, 8), (false, 9), (true, 10)] [] (by kernel_rfl) (by kernel_rfl) (by rintro ⟨_, _, h⟩; cases h.1) (fun _ _ d _ _ h => by cases d <;> exact h) ⟨HS4.out.1, HS4.out.2.other (Below.refl _ w4).drew⟩ ?_
                  simp only [pickM, pickT, List.filterMap_cons, List.filterMap_nil, List.getElem?_cons_zero, List.getElem?_cons_succ, Option.map_some]
                  repeat (first | (refine m_float ⟨?_, .inl ⟨?_, .inl ?_⟩, fun K' hK => ?_⟩; rotate_left; (first | rfl | (go_simp; done)); (intro w' hS; (obtain ⟨p0, p1, p2⟩ := xb_cells hS.1); go_simp; try rfl); (simp only [Act.put, List.setIfInBounds_toArray, List.set_cons_succ, List.set_cons_zero]; refine hK _ ?_; clear hK K')) | (refine m_float ⟨undef, .inr ⟨?_, rfl⟩, fun K' hK => ?_⟩; (first | rfl | (go_simp; done)); (simp only [Act.put, List.setIfInBounds_toArray, List.set_cons_succ, List.set_cons_zero]; refine hK _ ?_; clear hK K')))
                  refine m_loud ?_ (fun K' hK => ?_)
                  · rintro ⟨_, _, h, _⟩; cases h
                  go_wp2_with (go_at_call 87; (with_reducible refine (c3 _).mono ?_); rintro e w5 ⟨rfl, hB5⟩)
                  have HS5 : Hid (w5.heap[wr.heap.size]? = some (.cells (peA x) 63 (0, 0)) ∧ EP w w1.heap.size (bs ++ [cb0]) w5) := Lib.hid ⟨(hB5.block _ (lt_of_block HS4.out.1)).trans HS4.out.1, (HS4.out.2.other (Below.refl _ w4).drew).other hB5⟩
                  refine hK _ _ HS5.out ?_
                  clear hK K'
                  refine m_loud ?_ (fun K' hK => ?_)
                  · rintro ⟨_, _, h, _⟩; cases h
                  go_wp2
                  have HS6 : Hid ((w5.alloc (.cells #[.string ⟨#[0]⟩, .string A1, .string A2, .string x.id, .string A3] 9)).heap[wr.heap.size]? = some (.cells (peA x) 63 (0, 0)) ∧ EP w w1.heap.size (bs ++ [cb0]) (w5.alloc (.cells #[.string ⟨#[0]⟩, .string A1, .string A2, .string x.id, .string A3] 9))) :=
                    Lib.hid ⟨(Lib.alloc_old _ _ _ (lt_of_block HS5.out.1)).trans HS5.out.1, HS5.out.2.other ((Below.refl _ w5).alloc (Nat.le_refl _) _)⟩
                  refine hK _ _ HS6.out ?_
                  clear hK K'
                  repeat (first | (refine m_float ⟨?_, .inl ⟨?_, .inl ?_⟩, fun K' hK => ?_⟩; rotate_left; (first | rfl | (go_simp; done)); (intro w' hS; (obtain ⟨p0, p1, p2⟩ := xb_cells hS.1); go_simp; try rfl); (simp only [Act.put, List.setIfInBounds_toArray, List.set_cons_succ, List.set_cons_zero]; refine hK _ ?_; clear hK K')) | (refine m_float ⟨undef, .inr ⟨?_, rfl⟩, fun K' hK => ?_⟩; (first | rfl | (go_simp; done)); (simp only [Act.put, List.setIfInBounds_toArray, List.set_cons_succ, List.set_cons_zero]; refine hK _ ?_; clear hK K')))
                  refine m_nil ?_
                  generalize hwo : wr = wo
                  have hl5 : P5.length = 5 := by rw [HP0.out]; rfl
                  have HNE := Lib.hid (show w5.heap.size ≠ w1.heap.size by have := HS5.out.2.lt; omega)
                  have hblk0 : (w5.alloc (.cells #[.string ⟨#[0]⟩, .string A1, .string A2, .string x.id, .string A3] 9)).heap[w5.heap.size]? = some (.cells (strB P5).toArray 9 (0, 0)) := by
                    rw [HP0.out]; exact World.alloc_heap_new _ _
                  have HBLK0 := Lib.hid hblk0
                  have HL5 := Lib.hid hl5
                  clear hblk0 hl5 c3 hwb hm
                  go_wp2
                  go_loopw [73, 15] (fun i _ wq => ∃ j : Nat, i = cN j ∧ j ≤ 5 ∧ EP w w1.heap.size (bs ++ [cb0] ++ joinB (P5.take j)) wq ∧ wq.heap[w5.heap.size]? = some (.cells (strB P5).toArray 9 (0, 0))) (fun i _ _ => 5 - (intOf i).toNat)
                  case atStart => exact ⟨0, rfl, by omega, by simpa [joinB] using HS6.out.2, HBLK0.out⟩
                  case round =>
                    obtain ⟨j, rfl, hj, hEq, hblk⟩ := hrel
                    have HBLK := Lib.hid hblk
                    have HEQ := Lib.hid hEq
                    by_cases hj5 : (j : Int) < 5
                    · have hjl : j < P5.length := by rw [HL5.out]; omega
                      obtain ⟨s, hs⟩ : ∃ s, P5.getD j ByteArray.empty = s := ⟨_, rfl⟩
                      have hsm : s ∈ P5 := by rw [← hs, List.getD_eq_getElem?_getD, List.getElem?_eq_getElem hjl, Option.getD_some]; exact List.getElem_mem hjl
                      have q0 : wr.cell? ⟨w5.heap.size, j, none⟩ = some (.string s) := by rw [Lib.cell_of_heap hblk, strB_get P5 j hjl, hs]
                      have cS := HEQ.out.str s (by
                        have h1 := joinB_le (P5.take j) fun y hy => HPS.out y (List.mem_of_mem_take hy)
                        have h2 := HBL.out
                        rw [List.length_take] at h1
                        simp only [List.length_append, List.length_cons, List.length_nil]
                        omega) (HPS.out s hsm)
                      have HTK := Lib.hid (show joinB (P5.take (j + 1)) = joinB (P5.take j) ++ s.data.toList by rw [take_snocB P5 j hjl, joinB_snoc, hs])
                      clear hs hsm hjl hblk hEq
                      go_wp2_with fail
                      with_reducible refine cS.mono ?_
                      rintro e w6 ⟨rfl, hE6, hF6⟩
                      have HE6 := Lib.hid hE6
                      have HB6 := Lib.hid (hF6.out _ _ _ _ HNE.out (by decide) HBLK.out)
                      clear hE6 hF6 cS q0
                      go_wp2
                      go_roundw
                      case rel => exact ⟨j + 1, by go_num, by omega, by rw [HTK.out, ← List.append_assoc]; exact HE6.out, HB6.out⟩
                      case measure => simp [intOf]; omega
                    · obtain rfl : j = 5 := by omega
                      clear hblk hEq
                      go_wp2
                      go_roundw
                      case rel => exact ⟨k + 1, by go_num, by omega, by
                        rw [take_snocP l k hkl, List.all_append, HALL.out, HX.out]
                        simp [HG.out], by
                        have h1 := HEQ.out
                        rw [List.take_of_length_le (by rw [HL5.out]; exact Nat.le_refl _)] at h1
                        rw [take_snocP l k hkl, encsB_snoc, HX.out, HBS.out, HEB.out]
                        simpa using h1⟩
                      case measure => simp [intOf]; omega
              · rw [h4] at c1
                rw [h2] at c2
                have HN := Lib.hid (HBAD.out fun h => by have := h.2.1; omega)
                clear h2 h4
                go_wp2_with fail
                with_reducible refine (c1 _).mono ?_
                rintro e w2 ⟨rfl, hB2⟩
                have HV2 := Lib.hid (HV0.out.below hB2)
                have HXB2 := Lib.hid ((hB2.block _ (lt_of_block (World.alloc_heap_new wr (.cells (peA x) 63)))).trans (World.alloc_heap_new wr (.cells (peA x) 63)))
                have HE2 := Lib.hid (HE0.out.other hB2)
                obtain ⟨p0, p1, p2⟩ := HV2.out.own
                clear hB2 c1 q0 q1 q2
                go_wp2_with fail
                with_reducible refine (c2 _).mono ?_
                rintro e w3 ⟨rfl, hB3⟩
                have HV3 := Lib.hid (HV2.out.below hB3)
                have HXB3 := Lib.hid ((hB3.block _ (lt_of_block HXB2.out)).trans HXB2.out)
                have HE3 := Lib.hid (HE2.out.other hB3)
                clear p0 p1 p2 hB3 c2
                obtain ⟨p0, p1, p2⟩ := HV3.out.own
                go_wp2
                go_ret2
                exact PeEnd.bad HN.out (by decide) HV3.out.bel
            · rw [h4] at c1
              have HN := Lib.hid (HBAD.out fun h => by have := h.1; omega)
              clear h4
              rcases numE_or x.par 2 with h2 | h2
              · rw [h2] at c2
                clear h2
                go_wp2_with fail
                with_reducible refine (c1 _).mono ?_
                rintro e w2 ⟨rfl, hB2⟩
                have HV2 := Lib.hid (HV0.out.below hB2)
                have HXB2 := Lib.hid ((hB2.block _ (lt_of_block (World.alloc_heap_new wr (.cells (peA x) 63)))).trans (World.alloc_heap_new wr (.cells (peA x) 63)))
                have HE2 := Lib.hid (HE0.out.other hB2)
                obtain ⟨p0, p1, p2⟩ := HV2.out.own
                clear hB2 c1 q0 q1 q2
                go_wp2_with fail
                with_reducible refine (c2 _).mono ?_
                rintro e w3 ⟨rfl, hB3⟩
                have HV3 := Lib.hid (HV2.out.below hB3)
                have HXB3 := Lib.hid ((hB3.block _ (lt_of_block HXB2.out)).trans HXB2.out)
                have HE3 := Lib.hid (HE2.out.other hB3)
                clear p0 p1 p2 hB3 c2
                obtain ⟨p0, p1, p2⟩ := HV3.out.own
                go_wp2
                go_ret2
                exact PeEnd.bad HN.out (by decide) HV3.out.bel
              · rw [h2] at c2
                clear h2
                go_wp2_with fail
                with_reducible refine (c1 _).mono ?_
                rintro e w2 ⟨rfl, hB2⟩
                have HV2 := Lib.hid (HV0.out.below hB2)
                have HXB2 := Lib.hid ((hB2.block _ (lt_of_block (World.alloc_heap_new wr (.cells (peA x) 63)))).trans (World.alloc_heap_new wr (.cells (peA x) 63)))
                have HE2 := Lib.hid (HE0.out.other hB2)
                obtain ⟨p0, p1, p2⟩ := HV2.out.own
                clear hB2 c1 q0 q1 q2
                go_wp2_with fail
                with_reducible refine (c2 _).mono ?_
                rintro e w3 ⟨rfl, hB3⟩
                have HV3 := Lib.hid (HV2.out.below hB3)
                have HXB3 := Lib.hid ((hB3.block _ (lt_of_block HXB2.out)).trans HXB2.out)
                have HE3 := Lib.hid (HE2.out.other hB3)
                clear p0 p1 p2 hB3 c2
                obtain ⟨p0, p1, p2⟩ := HV3.out.own
                go_wp2
                go_ret2
                exact PeEnd.bad HN.out (by decide) HV3.out.bel
          · obtain rfl : k = l.length := by omega
            have HX : Hid (encPE false l = 0) := Lib.hid (by
              have h := HALL.out
              rw [List.take_length] at h
              rw [encPE, if_neg HN1.out, if_neg HN2.out, if_pos h])
            have c1 := hE.done
            rw [List.take_length] at c1
            clear hE
            go_wp2_with fail
            with_reducible refine c1.mono ?_
            rintro e w2 ⟨rfl, hB2⟩
            go_wp2
            go_ret2
            exact ⟨by rw [encPS, HX.out, if_pos rfl]; rfl, hB2⟩
      · go_enter Try.func41, Try.ntmps41
        go_wp2_with fail
        with_reducible refine cL.mono ?_
        rintro e w0 ⟨rfl, hB0⟩
        have cE := cE0 _ hB0
        go_wp2_with fail
        with_reducible refine cE.mono ?_
        rintro e w1 ⟨rfl, hB1⟩
        have HB0 := Lib.hid (bthen hB0 hB1)
        clear hB0 hB1 cL cE cE0
        go_wp2
        go_loopw [28, 9, 10, 11, 12, 13, 15] (fun i _ _ _ _ _ _ wr => ∃ k : Nat, i = cN k ∧ k ≤ l.length ∧ (l.take k).all (fun x => decide (goodN x)) = true ∧ EP w w1.heap.size (encsB true (l.take k)) wr) (fun i _ _ _ _ _ _ _ => l.length - (intOf i).toNat)
        case atStart => exact ⟨0, rfl, Nat.zero_le _, rfl, EP.start HB0.out⟩
        case round =>
          obtain ⟨k, rfl, hk, hall, hE⟩ := hrel
          have HALL := Lib.hid hall
          have HE := Lib.hid hE
          clear hall
          by_cases hlt : (k : Int) < (l.length : Int)
          · have hkl : k < l.length := by omega
            obtain ⟨b, off, rfl, hb, hc⟩ := HR.out k hkl
            obtain ⟨x, hx⟩ : ∃ x, l.getD k peD = x := ⟨_, rfl⟩
            rw [hx] at hc
            have hmx : x ∈ l := by rw [← hx, List.getD_eq_getElem?_getD, List.getElem?_eq_getElem hkl, Option.getD_some]; exact List.getElem_mem hkl
            obtain ⟨q0, q1, q2⟩ := hc.below hb hE.bel
            have c1 : ∀ W, Calls Try.prog 86 #[cN x.lba, cN 4] W fun e w' => e = .returned (.tuple #[.string (numB x.lba 4 true), cN (numE x.lba 4)]) ∧ Below W.heap.size W w' := fun W => ebig_ok x.lba 4 W (.inr rfl)
            have c2 : ∀ W, Calls Try.prog 86 #[cN x.par, cN 2] W fun e w' => e = .returned (.tuple #[.string (numB x.par 2 true), cN (numE x.par 2)]) ∧ Below W.heap.size W w' := fun W => ebig_ok x.par 2 W (.inl rfl)
            have hV0 := PVS.new (w := w) hE.bel x
            have BAD : ¬ goodN x → encPE true l = 2 := fun h => by rw [encPE, if_neg HN1.out, if_neg HN2.out, all_badP hkl hx h]; rfl
            have HBAD := Lib.hid BAD
            have HX := Lib.hid hx
            have HZX := Lib.hid (HZ.out x hmx)
            have HLT := Lib.hid hE.lt
            have HV0 := Lib.hid hV0
            have HE0 := Lib.hid (hE.other ((Below.refl _ wr).alloc (Nat.le_refl _) (.cells (peA x) 63)))
            clear hb hc hx hmx hV0 BAD hE
            rcases numE_or x.lba 4 with h4 | h4
            · rcases numE_or x.par 2 with h2 | h2
              · rw [h4] at c1
                rw [h2] at c2
                by_cases h0 : x.par = 0
                · have g3 : (x.par == 0) = true := beq_iff_eq.2 h0
                  have HN := Lib.hid (HBAD.out fun h => h.2.2 h0)
                  clear h0 h2 h4
                  go_wp2_with fail
                  with_reducible refine (c1 _).mono ?_
                  rintro e w2 ⟨rfl, hB2⟩
                  have HV2 := Lib.hid (HV0.out.below hB2)
                  have HXB2 := Lib.hid ((hB2.block _ (lt_of_block (World.alloc_heap_new wr (.cells (peA x) 63)))).trans (World.alloc_heap_new wr (.cells (peA x) 63)))
                  have HE2 := Lib.hid (HE0.out.other hB2)
                  obtain ⟨p0, p1, p2⟩ := HV2.out.own
                  clear hB2 c1 q0 q1 q2
                  go_wp2_with fail
                  with_reducible refine (c2 _).mono ?_
                  rintro e w3 ⟨rfl, hB3⟩
                  have HV3 := Lib.hid (HV2.out.below hB3)
                  have HXB3 := Lib.hid ((hB3.block _ (lt_of_block HXB2.out)).trans HXB2.out)
                  have HE3 := Lib.hid (HE2.out.other hB3)
                  clear p0 p1 p2 hB3 c2
                  obtain ⟨p0, p1, p2⟩ := HV3.out.own
                  go_wp2
                  go_ret2
                  exact PeEnd.bad HN.out (by decide) HV3.out.bel
                · have g3 : (x.par == 0) = false := beq_eq_false_iff_ne.2 h0
                  have HG := Lib.hid (show goodN x from ⟨h4, h2, h0⟩)
                  have hwb := bN_wrap x.id.size
                  have hm := tmod2 x.id.size
                  obtain ⟨m2, hm2⟩ : ∃ m, x.id.size % 2 = m := ⟨_, rfl⟩
                  rw [hm2] at hm
                  have c3 := fun W => rep0_ok m2 W (by omega)
                  have HP0 := Lib.hid (show partsP true x = [⟨#[0]⟩, numB x.lba 4 true, numB x.par 2 true, x.id, bL (List.replicate m2 0)] by rw [partsP, hm2])
                  have HEB := Lib.hid (show encB true x = bN x.id.size :: joinB (partsP true x) from rfl)
                  have HPS := Lib.hid (parts_size true x HZX.out)
                  have hbl := encsB_le true (l.take k) fun y hy => HZ.out y (List.mem_of_mem_take hy)
                  rw [List.length_take] at hbl
                  obtain ⟨A1, hA1⟩ : ∃ s, numB x.lba 4 true = s := ⟨_, rfl⟩
                  obtain ⟨A2, hA2⟩ : ∃ s, numB x.par 2 true = s := ⟨_, rfl⟩
                  obtain ⟨A3, hA3⟩ : ∃ s, bL (List.replicate m2 0) = s := ⟨_, rfl⟩
                  obtain ⟨P5, hP5⟩ : ∃ P5, partsP true x = P5 := ⟨_, rfl⟩
                  obtain ⟨bs, hbs⟩ : ∃ bs, encsB true (l.take k) = bs := ⟨_, rfl⟩
                  obtain ⟨cb0, hcb⟩ : ∃ cb0, bN x.id.size = cb0 := ⟨_, rfl⟩
                  rw [hA1] at c1 HP0
                  rw [hA2] at c2 HP0
                  rw [hA3] at c3 HP0
                  rw [hP5] at HP0 HEB HPS
                  rw [hbs] at HE0 hbl
                  rw [hcb] at hwb HEB
                  have HBS := Lib.hid hbs
                  have hbl2 : bs.length ≤ 1800 * 1024 := by omega
                  have HBL := Lib.hid hbl2
                  clear h0 h2 h4 hA1 hA2 hA3 hP5 hbs hcb hbl hbl2 hm2
                  go_wp2_with fail
                  with_reducible refine (c1 _).mono ?_
                  rintro e w2 ⟨rfl, hB2⟩
                  have HV2 := Lib.hid (HV0.out.below hB2)
                  have HXB2 := Lib.hid ((hB2.block _ (lt_of_block (World.alloc_heap_new wr (.cells (peA x) 63)))).trans (World.alloc_heap_new wr (.cells (peA x) 63)))
                  have HE2 := Lib.hid (HE0.out.other hB2)
                  obtain ⟨p0, p1, p2⟩ := HV2.out.own
                  clear hB2 c1 q0 q1 q2
                  go_wp2_with fail
                  with_reducible refine (c2 _).mono ?_
                  rintro e w3 ⟨rfl, hB3⟩
                  have HV3 := Lib.hid (HV2.out.below hB3)
                  have HXB3 := Lib.hid ((hB3.block _ (lt_of_block HXB2.out)).trans HXB2.out)
                  have HE3 := Lib.hid (HE2.out.other hB3)
                  clear p0 p1 p2 hB3 c2
                  obtain ⟨p0, p1, p2⟩ := HV3.out.own
                  have cB := HE3.out.byte cb0 (by have := HBL.out; omega)
                  go_wp2_with fail
                  with_reducible refine cB.mono ?_
                  rintro e w4 ⟨rfl, hE4, hF4⟩
                  have HS4 : Hid (w4.heap[wr.heap.size]? = some (.cells (peA x) 63 (0, 0)) ∧ EP w w1.heap.size (bs ++ [cb0]) w4) := Lib.hid ⟨hF4.out _ _ _ _ (by have := HLT.out; omega) (by decide) HXB3.out, hE4⟩
                  clear hE4 hF4 cB p0 p1 p2
                  go_wp2
                  refine region_sch (fun W => W.heap[wr.heap.size]? = some (.cells (peA x) 63 (0, 0)) ∧ EP w w1.heap.size (bs ++ [cb0]) W) [(true, 0), (true, 1), (true, 2), (true, 3), (true, 4), (true, 5), (true, 6), (true, 7), (true, 11), (false, 8), (false, 9), (true, 10)] [] (by kernel_rfl) (by kernel_rfl) (by rintro ⟨_, _, h⟩; cases h.1) (fun _ _ d _ _ h => by cases d <;> exact h) ⟨HS4.out.1, HS4.out.2.other (Below.refl _ w4).drew⟩ ?_
                  simp only [pickM, pickT, List.filterMap_cons, List.filterMap_nil, List.getElem?_cons_zero, List.getElem?_cons_succ, Option.map_some]
                  repeat (first | (refine m_float ⟨?_, .inl ⟨?_, .inl ?_⟩, fun K' hK => ?_⟩; rotate_left; (first | rfl | (go_simp; done)); (intro w' hS; (obtain ⟨p0, p1, p2⟩ := xb_cells hS.1); go_simp; try rfl); (simp only [Act.put, List.setIfInBounds_toArray, List.set_cons_succ, List.set_cons_zero]; refine hK _ ?_; clear hK K')) | (refine m_float ⟨undef, .inr ⟨?_, rfl⟩, fun K' hK => ?_⟩; (first | rfl | (go_simp; done)); (simp only [Act.put, List.setIfInBounds_toArray, List.set_cons_succ, List.set_cons_zero]; refine hK _ ?_; clear hK K')))
                  refine m_loud ?_ (fun K' hK => ?_)
                  · rintro ⟨_, _, h, _⟩; cases h
                  go_wp2_with (go_at_call 87; (with_reducible refine (c3 _).mono ?_); rintro e w5 ⟨rfl, hB5⟩)
                  have HS5 : Hid (w5.heap[wr.heap.size]? = some (.cells (peA x) 63 (0, 0)) ∧ EP w w1.heap.size (bs ++ [cb0]) w5) := Lib.hid ⟨(hB5.block _ (lt_of_block HS4.out.1)).trans HS4.out.1, (HS4.out.2.other (Below.refl _ w4).drew).other hB5⟩
                  refine hK _ _ HS5.out ?_
                  clear hK K'
                  refine m_loud ?_ (fun K' hK => ?_)
                  · rintro ⟨_, _, h, _⟩; cases h
                  go_wp2
                  have HS6 : Hid ((w5.alloc (.cells #[.string ⟨#[0]⟩, .string A1, .string A2, .string x.id, .string A3] 9)).heap[wr.heap.size]? = some (.cells (peA x) 63 (0, 0)) ∧ EP w w1.heap.size (bs ++ [cb0]) (w5.alloc (.cells #[.string ⟨#[0]⟩, .string A1, .string A2, .string x.id, .string A3] 9))) :=
                    Lib.hid ⟨(Lib.alloc_old _ _ _ (lt_of_block HS5.out.1)).trans HS5.out.1, HS5.out.2.other ((Below.refl _ w5).alloc (Nat.le_refl _) _)⟩
                  refine hK _ _ HS6.out ?_
                  clear hK K'
                  repeat (first | (refine m_float ⟨?_, .inl ⟨?_, .inl ?_⟩, fun K' hK => ?_⟩; rotate_left; (first | rfl | (go_simp; done)); (intro w' hS; (obtain ⟨p0, p1, p2⟩ := xb_cells hS.1); go_simp; try rfl); (simp only [Act.put, List.setIfInBounds_toArray, List.set_cons_succ, List.set_cons_zero]; refine hK _ ?_; clear hK K')) | (refine m_float ⟨undef, .inr ⟨?_, rfl⟩, fun K' hK => ?_⟩; (first | rfl | (go_simp; done)); (simp only [Act.put, List.setIfInBounds_toArray, List.set_cons_succ, List.set_cons_zero]; refine hK _ ?_; clear hK K')))
                  refine m_nil ?_
                  generalize hwo : wr = wo
                  have hl5 : P5.length = 5 := by rw [HP0.out]; rfl
                  have HNE := Lib.hid (show w5.heap.size ≠ w1.heap.size by have := HS5.out.2.lt; omega)
                  have hblk0 : (w5.alloc (.cells #[.string ⟨#[0]⟩, .string A1, .string A2, .string x.id, .string A3] 9)).heap[w5.heap.size]? = some (.cells (strB P5).toArray 9 (0, 0)) := by
                    rw [HP0.out]; exact World.alloc_heap_new _ _
                  have HBLK0 := Lib.hid hblk0
                  have HL5 := Lib.hid hl5
                  clear hblk0 hl5 c3 hwb hm
                  go_wp2
                  go_loopw [73, 15] (fun i _ wq => ∃ j : Nat, i = cN j ∧ j ≤ 5 ∧ EP w w1.heap.size (bs ++ [cb0] ++ joinB (P5.take j)) wq ∧ wq.heap[w5.heap.size]? = some (.cells (strB P5).toArray 9 (0, 0))) (fun i _ _ => 5 - (intOf i).toNat)
                  case atStart => exact ⟨0, rfl, by omega, by simpa [joinB] using HS6.out.2, HBLK0.out⟩
                  case round =>
                    obtain ⟨j, rfl, hj, hEq, hblk⟩ := hrel
                    have HBLK := Lib.hid hblk
                    have HEQ := Lib.hid hEq
                    by_cases hj5 : (j : Int) < 5
                    · have hjl : j < P5.length := by rw [HL5.out]; omega
                      obtain ⟨s, hs⟩ : ∃ s, P5.getD j ByteArray.empty = s := ⟨_, rfl⟩
                      have hsm : s ∈ P5 := by rw [← hs, List.getD_eq_getElem?_getD, List.getElem?_eq_getElem hjl, Option.getD_some]; exact List.getElem_mem hjl
                      have q0 : wr.cell? ⟨w5.heap.size, j, none⟩ = some (.string s) := by rw [Lib.cell_of_heap hblk, strB_get P5 j hjl, hs]
                      have cS := HEQ.out.str s (by
                        have h1 := joinB_le (P5.take j) fun y hy => HPS.out y (List.mem_of_mem_take hy)
                        have h2 := HBL.out
                        rw [List.length_take] at h1
                        simp only [List.length_append, List.length_cons, List.length_nil]
                        omega) (HPS.out s hsm)
                      have HTK := Lib.hid (show joinB (P5.take (j + 1)) = joinB (P5.take j) ++ s.data.toList by rw [take_snocB P5 j hjl, joinB_snoc, hs])
                      clear hs hsm hjl hblk hEq
                      go_wp2_with fail
                      with_reducible refine cS.mono ?_
                      rintro e w6 ⟨rfl, hE6, hF6⟩
                      have HE6 := Lib.hid hE6
                      have HB6 := Lib.hid (hF6.out _ _ _ _ HNE.out (by decide) HBLK.out)
                      clear hE6 hF6 cS q0
                      go_wp2
                      go_roundw
                      case rel => exact ⟨j + 1, by go_num, by omega, by rw [HTK.out, ← List.append_assoc]; exact HE6.out, HB6.out⟩
                      case measure => simp [intOf]; omega
                    · obtain rfl : j = 5 := by omega
                      clear hblk hEq
                      go_wp2
                      go_roundw
                      case rel => exact ⟨k + 1, by go_num, by omega, by
                        rw [take_snocP l k hkl, List.all_append, HALL.out, HX.out]
                        simp [HG.out], by
                        have h1 := HEQ.out
                        rw [List.take_of_length_le (by rw [HL5.out]; exact Nat.le_refl _)] at h1
                        rw [take_snocP l k hkl, encsB_snoc, HX.out, HBS.out, HEB.out]
                        simpa using h1⟩
                      case measure => simp [intOf]; omega
              · rw [h4] at c1
                rw [h2] at c2
                have HN := Lib.hid (HBAD.out fun h => by have := h.2.1; omega)
                clear h2 h4
                go_wp2_with fail
                with_reducible refine (c1 _).mono ?_
                rintro e w2 ⟨rfl, hB2⟩
                have HV2 := Lib.hid (HV0.out.below hB2)
                have HXB2 := Lib.hid ((hB2.block _ (lt_of_block (World.alloc_heap_new wr (.cells (peA x) 63)))).trans (World.alloc_heap_new wr (.cells (peA x) 63)))
                have HE2 := Lib.hid (HE0.out.other hB2)
                obtain ⟨p0, p1, p2⟩ := HV2.out.own
                clear hB2 c1 q0 q1 q2
                go_wp2_with fail
                with_reducible refine (c2 _).mono ?_
                rintro e w3 ⟨rfl, hB3⟩
                have HV3 := Lib.hid (HV2.out.below hB3)
                have HXB3 := Lib.hid ((hB3.block _ (lt_of_block HXB2.out)).trans HXB2.out)
                have HE3 := Lib.hid (HE2.out.other hB3)
                clear p0 p1 p2 hB3 c2
                obtain ⟨p0, p1, p2⟩ := HV3.out.own
                go_wp2
                go_ret2
                exact PeEnd.bad HN.out (by decide) HV3.out.bel
            · rw [h4] at c1
              have HN := Lib.hid (HBAD.out fun h => by have := h.1; omega)
              clear h4
              rcases numE_or x.par 2 with h2 | h2
              · rw [h2] at c2
                clear h2
                go_wp2_with fail
                with_reducible refine (c1 _).mono ?_
                rintro e w2 ⟨rfl, hB2⟩
                have HV2 := Lib.hid (HV0.out.below hB2)
                have HXB2 := Lib.hid ((hB2.block _ (lt_of_block (World.alloc_heap_new wr (.cells (peA x) 63)))).trans (World.alloc_heap_new wr (.cells (peA x) 63)))
                have HE2 := Lib.hid (HE0.out.other hB2)
                obtain ⟨p0, p1, p2⟩ := HV2.out.own
                clear hB2 c1 q0 q1 q2
                go_wp2_with fail
                with_reducible refine (c2 _).mono ?_
                rintro e w3 ⟨rfl, hB3⟩
                have HV3 := Lib.hid (HV2.out.below hB3)
                have HXB3 := Lib.hid ((hB3.block _ (lt_of_block HXB2.out)).trans HXB2.out)
                have HE3 := Lib.hid (HE2.out.other hB3)
                clear p0 p1 p2 hB3 c2
                obtain ⟨p0, p1, p2⟩ := HV3.out.own
                go_wp2
                go_ret2
                exact PeEnd.bad HN.out (by decide) HV3.out.bel
              · rw [h2] at c2
                clear h2
                go_wp2_with fail
                with_reducible refine (c1 _).mono ?_
                rintro e w2 ⟨rfl, hB2⟩
                have HV2 := Lib.hid (HV0.out.below hB2)
                have HXB2 := Lib.hid ((hB2.block _ (lt_of_block (World.alloc_heap_new wr (.cells (peA x) 63)))).trans (World.alloc_heap_new wr (.cells (peA x) 63)))
                have HE2 := Lib.hid (HE0.out.other hB2)
                obtain ⟨p0, p1, p2⟩ := HV2.out.own
                clear hB2 c1 q0 q1 q2
                go_wp2_with fail
                with_reducible refine (c2 _).mono ?_
                rintro e w3 ⟨rfl, hB3⟩
                have HV3 := Lib.hid (HV2.out.below hB3)
                have HXB3 := Lib.hid ((hB3.block _ (lt_of_block HXB2.out)).trans HXB2.out)
                have HE3 := Lib.hid (HE2.out.other hB3)
                clear p0 p1 p2 hB3 c2
                obtain ⟨p0, p1, p2⟩ := HV3.out.own
                go_wp2
                go_ret2
                exact PeEnd.bad HN.out (by decide) HV3.out.bel
          · obtain rfl : k = l.length := by omega
            have HX : Hid (encPE true l = 0) := Lib.hid (by
              have h := HALL.out
              rw [List.take_length] at h
              rw [encPE, if_neg HN1.out, if_neg HN2.out, if_pos h])
            have c1 := hE.done
            rw [List.take_length] at c1
            clear hE
            go_wp2_with fail
            with_reducible refine c1.mono ?_
            rintro e w2 ⟨rfl, hB2⟩
            go_wp2
            go_ret2
            exact ⟨by rw [encPS, HX.out, if_pos rfl]; rfl, hB2⟩
    · simp only [h2] at cE0
      have HX := Lib.hid (show encPE big l = 1 by rw [encPE, if_neg (by rw [h1]; simp; omega), if_pos h2])
      clear h1 h2
      go_enter Try.func41, Try.ntmps41
      go_wp2_with fail
      with_reducible refine cL.mono ?_
      rintro e w0 ⟨rfl, hB0⟩
      have cE := cE0 _ hB0
      go_wp2_with fail
      with_reducible refine cE.mono ?_
      rintro e w1 ⟨rfl, hB1⟩
      go_wp2
      go_ret2
      exact PeEnd.bad HX.out (by decide) (bthen hB0 hB1)
  · rw [h1] at cL
    have HX := Lib.hid (show encPE big l = 7 by rw [encPE, if_pos (.inr h1)])
    clear h1 cE0
    go_enter Try.func41, Try.ntmps41
    go_wp2_with fail
    with_reducible refine cL.mono ?_
    rintro e w0 ⟨rfl, hB0⟩
    go_wp2
    go_ret2
    exact PeEnd.bad HX.out (by decide) hB0
theorem penc_ok (a : Option Addr) (c : Nat) (l : List PE) (big : Bool) (w : World) (hrow : RowP w a l) : Calls Try.prog 41 #[.slice a l.length c, .bool big] w (PeEnd w big l) := by
  by_cases hl : 1024 < l.length
  · exact penc_large a c l big w hl
  · exact penc_small a c l big w (by omega) hrow
end Go.Proofs.Ytnmlephjhcmbhaa
