/- slices.SortStableFunc of at most 40 records. -/
import Derived.Test.YtnmlephjhcmbhaaGreatGkj
namespace Go.Proofs.YtnmlephjhcmbhaaGreat
set_option linter.unusedSimpArgs false
set_option linter.unusedVariables false
open Go Go.RowKit
set_option maxRecDepth 100000 in
set_option maxHeartbeats 400000 in
theorem insint_none (ad : Option Addr) (n cap a : Nat) (b : Nat) (hb : b ≤ a + 1) (ha : a ≤ 2000) (fv : Value) (w : World) : Calls Tryz.prog 91 #[.slice ad n cap, cN a, cN b, fv] w fun e w' => e = .returned (.tuple #[]) ∧ w' = w := by
  have g1 : ¬ (a : Int) + 1 < (b : Int) := by omega
  go_enter Tryz.func91, Tryz.ntmps91
  go_wp2
  refine wp_loop_rounds 1 ?_
  rw [rounds_succ]
  go_wp2
  go_end0
  exact ⟨rfl, by trivial⟩
set_option maxRecDepth 100000 in
set_option maxHeartbeats 400000 in
theorem stabint_nil (ad : Option Addr) (cap : Nat) (fv : Value) (w : World) : Calls Tryz.prog 65 #[.slice ad 0 cap, cN 0, fv] w fun e w' => e = .returned (.tuple #[]) ∧ w' = w := by
  have c1 := insint_none ad 0 cap 0 0 (by omega) (by omega) fv w
  rw [show ((0 : Nat) : Int) = 0 from rfl] at c1
  go_enter Tryz.func65, Tryz.ntmps65
  go_wp2
  refine wp_loop_rounds 1 ?_
  rw [rounds_succ]
  go_wp2_with fail
  with_reducible refine c1.mono ?_
  rintro e w1 ⟨rfl, rfl⟩
  go_wp2
  refine wp_loop_rounds 1 ?_
  rw [rounds_succ]
  go_wp2
  go_end0
  exact ⟨rfl, by trivial⟩
theorem se_join {cf : Rec → Rec → Int} {zs m1 m2 : List TR} {k : Nat} (h1 : m1.Perm (zs.take k)) (h2 : m2.Perm (zs.drop k)) : (m1 ++ m2).Perm zs := by
  have := h1.append h2
  rwa [List.take_append_drop] at this
set_option maxRecDepth 100000 in
set_option maxHeartbeats 4000000 in
theorem stabint_ok (cf : Rec → Rec → Int) (hcf : CmpOk cf) (P : Rec → Prop) (w : World) (g : Nat) (tl : List Value) (Fb cap : Nat) (zs : List TR) (hcmp : CmpC cf P w g tl Fb) (hP : ∀ t ∈ zs, P t.1) (hinc : zs.Pairwise (fun a b => a.2 < b.2)) (h0 : zs ≠ []) (hn : zs.length ≤ 40) (W0 : World) (hS : ST w g tl zs W0) :
    Calls Tryz.prog 65 #[.slice (some ⟨g, 0, none⟩) zs.length cap, cN zs.length, .func (.func 46) #[] #[.pointer (some ⟨Fb, 0, none⟩)]] W0 (SeT cf w g tl [] zs []) := by
  by_cases hs : zs.length < 20
  · obtain ⟨x, l', rfl⟩ : ∃ x l', zs = x :: l' := by cases zs with | nil => exact absurd rfl h0 | cons x l' => exact ⟨x, l', rfl⟩
    have c1 := insrec_ok cf hcf P w g tl Fb cap [] [] x l' hcmp hP hinc 0 (x :: l').length (x :: l').length rfl (by simp) (by simp) (by omega) W0 (by show ST w g tl _ _; simpa using hS)
    rw [show ((0 : Nat) : Int) = 0 from rfl] at c1
    have g1 : ¬ (20 : Int) ≤ ((x :: l').length : Int) := by omega
    have g2 : ¬ (20 : Int) < ((x :: l').length : Int) := by omega
    generalize (x :: l').length = n at c1 g1 g2 ⊢
    clear hcmp hP hS h0 hn hs hcf
    go_enter Tryz.func65, Tryz.ntmps65
    go_wp2
    refine wp_loop_rounds 1 ?_
    rw [rounds_succ]
    go_wp2_with fail
    with_reducible refine c1.mono ?_
    rintro e w1 ⟨rfl, hE⟩
    have HE := Lib.hid hE
    clear hE
    go_wp2
    refine wp_loop_rounds 1 ?_
    rw [rounds_succ]
    go_wp2
    go_end0
    exact ⟨rfl, HE.out⟩
  · obtain ⟨x, l', hz1⟩ : ∃ x l', zs.take 20 = x :: l' := by
      cases hz : zs.take 20 with
      | nil =>
        have := congrArg List.length hz
        rw [List.length_take, List.length_nil] at this
        omega
      | cons x l' => exact ⟨x, l', rfl⟩
    have hinc1 := hinc.sublist (List.take_sublist 20 zs)
    have hl1 : (zs.take 20).length = 20 := by rw [List.length_take]; omega
    have c1 := insrec_ok cf hcf P w g tl Fb cap [] (zs.drop 20) x l' hcmp (fun t ht => hP t (List.mem_of_mem_take (by rw [hz1]; exact ht))) (by rw [← hz1]; exact hinc1) 0 20 zs.length rfl (by rw [← hz1, hl1]) (by simp; omega) (by omega) W0 (by rw [← hz1]; show ST w g tl _ _; simpa using hS)
    rw [show ((0 : Nat) : Int) = 0 from rfl, show ((20 : Nat) : Int) = 20 from rfl, ← hz1] at c1
    have g1 : (20 : Int) ≤ (zs.length : Int) := by omega
    by_cases h40 : zs.length = 40
    · obtain ⟨y, r', hz2⟩ : ∃ x l', zs.drop 20 = x :: l' := by
        cases hz : zs.drop 20 with
        | nil =>
          have := congrArg List.length hz
          rw [List.length_drop, List.length_nil] at this
          omega
        | cons x l' => exact ⟨x, l', rfl⟩
      have hinc2 := hinc.sublist (List.drop_sublist 20 zs)
      have hl2 : (zs.drop 20).length = zs.length - 20 := by simp
      have c2 : ∀ m1 W, m1.Perm (zs.take 20) → ST w g tl ([] ++ m1 ++ zs.drop 20) W → Calls Tryz.prog 91 #[.slice (some ⟨g, 0, none⟩) zs.length cap, cN 20, cN 40, .func (.func 46) #[] #[.pointer (some ⟨Fb, 0, none⟩)]] W (SeT cf w g tl m1 (zs.drop 20) []) := fun m1 W hm hW => by
        have := insrec_ok cf hcf P w g tl Fb cap m1 [] y r' hcmp (fun t ht => hP t (List.mem_of_mem_drop (by rw [hz2]; exact ht))) (by rw [← hz2]; exact hinc2) 20 40 zs.length (by rw [hm.length_eq, hl1]) (by rw [← hz2, hl2]; omega) (by simp; omega) (by omega) W (by rw [← hz2]; show ST w g tl _ _; simpa using hW)
        rw [show ((20 : Nat) : Int) = 20 from rfl, show ((40 : Nat) : Int) = 40 from rfl, ← hz2] at this
        exact this
      have c3 : ∀ m1 m2 W, m1.Perm (zs.take 20) → m2.Perm (zs.drop 20) → m1.Pairwise (ltT cf) → m2.Pairwise (ltT cf) → ST w g tl (m1 ++ m2 ++ []) W → Calls Tryz.prog 92 #[.slice (some ⟨g, 0, none⟩) zs.length cap, cN 0, cN 20, cN 40, .func (.func 46) #[] #[.pointer (some ⟨Fb, 0, none⟩)]] W (SeT cf w g tl [] (m1 ++ m2) []) := fun m1 m2 W h1 h2 s1 s2 hW => by
        have e1 := h1.length_eq
        have e2 := h2.length_eq
        rw [hl1] at e1
        rw [hl2] at e2
        have := symint_ok cf hcf P w g tl Fb cap hcmp zs.length (by omega) (m1.length + m2.length) [] m1 m2 [] 0 20 40 W (Nat.le_refl _) (by omega) (by omega) rfl (by omega) (by omega) (by simp; omega) s1 s2
          (fun x hx y hy => by
            have := hinc
            rw [← List.take_append_drop 20 zs, List.pairwise_append] at this
            exact this.2.2 x (h1.subset hx) y (h2.subset hy))
          (fun x hx => hP x (by
            rcases List.mem_append.1 hx with hx | hx
            · exact List.mem_of_mem_take (h1.subset hx)
            · exact List.mem_of_mem_drop (h2.subset hx))) (by simpa using hW)
        exact this
      have g2 : (20 : Int) < (zs.length : Int) := by omega
      have g3 : (40 : Int) ≤ (zs.length : Int) := by omega
      have g4 : ¬ (40 : Int) < (zs.length : Int) := by omega
      have g5 : ¬ (60 : Int) ≤ (zs.length : Int) := by omega
      have g6 : ¬ (60 : Int) < (zs.length : Int) := by omega
      have g7 : ¬ (80 : Int) ≤ (zs.length : Int) := by omega
      have c4 := fun W => insint_none (some ⟨g, 0, none⟩) zs.length cap 40 zs.length (by omega) (by omega) (.func (.func 46) #[] #[.pointer (some ⟨Fb, 0, none⟩)]) W
      rw [show ((40 : Nat) : Int) = 40 from rfl] at c4
      generalize zs.length = n at c1 c2 c3 c4 g1 g2 g3 g4 g5 g6 g7 ⊢
      have C2 := Lib.hid c2
      have C3 := Lib.hid c3
      clear hcmp hP hS h0 hn hs hcf hz1 hz2 hinc hinc1 hinc2 hl1 hl2 h40 c2 c3
      go_enter Tryz.func65, Tryz.ntmps65
      go_wp2
      refine wp_loop_rounds 3 ?_
      rw [rounds_succ]
      go_wp2_with fail
      with_reducible refine c1.mono ?_
      rintro e w1 ⟨rfl, hE⟩
      obtain ⟨m1, p1, s1, hS1⟩ := hE
      have H1 := Lib.hid (And.intro p1 s1)
      have c2 := C2.out m1 w1 p1 hS1
      clear p1 s1 hS1 c1
      go_wp2
      rw [rounds_succ]
      go_wp2_with fail
      with_reducible refine c2.mono ?_
      rintro e w2 ⟨rfl, hE⟩
      obtain ⟨m2, p2, s2, hS2⟩ := hE
      have H2 := Lib.hid (And.intro p2 s2)
      have c3 := C3.out m1 m2 w2 H1.out.1 p2 H1.out.2 s2 hS2
      clear p2 s2 hS2 c2
      go_wp2
      rw [rounds_succ]
      go_wp2_with fail
      with_reducible refine (c4 _).mono ?_
      rintro e w4 ⟨rfl, rfl⟩
      go_wp2
      refine wp_loop_rounds 2 ?_
      rw [rounds_succ]
      go_wp2
      refine wp_loop_rounds 2 ?_
      rw [rounds_succ]
      go_wp2_with fail
      with_reducible refine c3.mono ?_
      rintro e w3 ⟨rfl, hE⟩
      have HE := Lib.hid hE
      clear hE c3
      go_wp2
      rw [rounds_succ]
      go_wp2
      rw [rounds_succ]
      go_wp2
      go_end0
      obtain ⟨m, p3, s3, hS3⟩ := HE.out
      exact ⟨rfl, m, p3.trans (se_join (cf := cf) H1.out.1 H2.out.1), s3, hS3⟩
    have g3 : ¬ (40 : Int) ≤ (zs.length : Int) := by omega
    by_cases h20 : zs.length = 20
    · have c2 := fun W => insint_none (some ⟨g, 0, none⟩) zs.length cap 20 zs.length (by omega) (by omega) (.func (.func 46) #[] #[.pointer (some ⟨Fb, 0, none⟩)]) W
      rw [show ((20 : Nat) : Int) = 20 from rfl] at c2
      have g2 : ¬ (20 : Int) < (zs.length : Int) := by rw [h20]; decide
      have HD := Lib.hid (show zs.take 20 = zs by rw [List.take_of_length_le (Nat.le_of_eq h20)])
      have HD2 := Lib.hid (show zs.drop 20 = [] by rw [List.drop_eq_nil_of_le (Nat.le_of_eq h20)])
      generalize zs.length = n at c1 c2 g1 g2 g3 ⊢
      clear hcmp hP hS h0 hn hs hcf hz1 hinc hinc1 hl1 h20
      go_enter Tryz.func65, Tryz.ntmps65
      go_wp2
      refine wp_loop_rounds 2 ?_
      rw [rounds_succ]
      go_wp2_with fail
      with_reducible refine c1.mono ?_
      rintro e w1 ⟨rfl, hE⟩
      have HE := Lib.hid hE
      clear hE
      go_wp2
      rw [rounds_succ]
      go_wp2_with fail
      with_reducible refine (c2 _).mono ?_
      rintro e w2 ⟨rfl, rfl⟩
      go_wp2
      refine wp_loop_rounds 1 ?_
      rw [rounds_succ]
      go_wp2
      go_end0
      have := HE.out
      rw [HD.out, HD2.out] at this
      exact ⟨rfl, this⟩
    · obtain ⟨y, r', hz2⟩ : ∃ x l', zs.drop 20 = x :: l' := by
        cases hz : zs.drop 20 with
        | nil =>
          have := congrArg List.length hz
          rw [List.length_drop, List.length_nil] at this
          omega
        | cons x l' => exact ⟨x, l', rfl⟩
      have hinc2 := hinc.sublist (List.drop_sublist 20 zs)
      have hl2 : (zs.drop 20).length = zs.length - 20 := by simp
      have c2 : ∀ m1 W, m1.Perm (zs.take 20) → ST w g tl ([] ++ m1 ++ zs.drop 20) W → Calls Tryz.prog 91 #[.slice (some ⟨g, 0, none⟩) zs.length cap, cN 20, cN zs.length, .func (.func 46) #[] #[.pointer (some ⟨Fb, 0, none⟩)]] W (SeT cf w g tl m1 (zs.drop 20) []) := fun m1 W hm hW => by
        have := insrec_ok cf hcf P w g tl Fb cap m1 [] y r' hcmp (fun t ht => hP t (List.mem_of_mem_drop (by rw [hz2]; exact ht))) (by rw [← hz2]; exact hinc2) 20 zs.length zs.length (by rw [hm.length_eq, hl1]) (by rw [← hz2, hl2]; omega) (by simp) (by omega) W (by rw [← hz2]; show ST w g tl _ _; simpa using hW)
        rw [show ((20 : Nat) : Int) = 20 from rfl, ← hz2] at this
        exact this
      have c3 : ∀ m1 m2 W, m1.Perm (zs.take 20) → m2.Perm (zs.drop 20) → m1.Pairwise (ltT cf) → m2.Pairwise (ltT cf) → ST w g tl (m1 ++ m2 ++ []) W → Calls Tryz.prog 92 #[.slice (some ⟨g, 0, none⟩) zs.length cap, cN 0, cN 20, cN zs.length, .func (.func 46) #[] #[.pointer (some ⟨Fb, 0, none⟩)]] W (SeT cf w g tl [] (m1 ++ m2) []) := fun m1 m2 W h1 h2 s1 s2 hW => by
        have e1 := h1.length_eq
        have e2 := h2.length_eq
        rw [hl1] at e1
        rw [hl2] at e2
        have := symint_ok cf hcf P w g tl Fb cap hcmp zs.length (by omega) (m1.length + m2.length) [] m1 m2 [] 0 20 zs.length W (Nat.le_refl _) (by omega) (by omega) rfl (by omega) (by omega) (by simp; omega) s1 s2
          (fun x hx y hy => by
            have := hinc
            rw [← List.take_append_drop 20 zs, List.pairwise_append] at this
            exact this.2.2 x (h1.subset hx) y (h2.subset hy))
          (fun x hx => hP x (by
            rcases List.mem_append.1 hx with hx | hx
            · exact List.mem_of_mem_take (h1.subset hx)
            · exact List.mem_of_mem_drop (h2.subset hx))) (by simpa using hW)
        exact this
      have g2 : (20 : Int) < (zs.length : Int) := by omega
      have g4 : ¬ (40 : Int) < (zs.length : Int) := by omega
      generalize zs.length = n at c1 c2 c3 g1 g2 g3 g4 ⊢
      have C2 := Lib.hid c2
      have C3 := Lib.hid c3
      clear hcmp hP hS h0 hn hs hcf hz1 hz2 hinc hinc1 hinc2 hl1 hl2 h20 c2 c3
      go_enter Tryz.func65, Tryz.ntmps65
      go_wp2
      refine wp_loop_rounds 2 ?_
      rw [rounds_succ]
      go_wp2_with fail
      with_reducible refine c1.mono ?_
      rintro e w1 ⟨rfl, hE⟩
      obtain ⟨m1, p1, s1, hS1⟩ := hE
      have H1 := Lib.hid (And.intro p1 s1)
      have c2 := C2.out m1 w1 p1 hS1
      clear p1 s1 hS1 c1
      go_wp2
      rw [rounds_succ]
      go_wp2_with fail
      with_reducible refine c2.mono ?_
      rintro e w2 ⟨rfl, hE⟩
      obtain ⟨m2, p2, s2, hS2⟩ := hE
      have H2 := Lib.hid (And.intro p2 s2)
      have c3 := C3.out m1 m2 w2 H1.out.1 p2 H1.out.2 s2 hS2
      clear p2 s2 hS2 c2
      go_wp2
      refine wp_loop_rounds 2 ?_
      rw [rounds_succ]
      go_wp2
      refine wp_loop_rounds 1 ?_
      rw [rounds_succ]
      go_wp2_with fail
      with_reducible refine c3.mono ?_
      rintro e w3 ⟨rfl, hE⟩
      have HE := Lib.hid hE
      clear hE c3
      go_wp2
      rw [rounds_succ]
      go_wp2
      go_end0
      obtain ⟨m, p3, s3, hS3⟩ := HE.out
      exact ⟨rfl, m, p3.trans (se_join (cf := cf) H1.out.1 H2.out.1), s3, hS3⟩
set_option maxRecDepth 100000 in
set_option maxHeartbeats 400000 in
theorem ssint_ok (cf : Rec → Rec → Int) (hcf : CmpOk cf) (P : Rec → Prop) (w : World) (g : Nat) (tl : List Value) (Fb cap : Nat) (zs : List TR) (hcmp : CmpC cf P w g tl Fb) (hP : ∀ t ∈ zs, P t.1) (hinc : zs.Pairwise (fun a b => a.2 < b.2)) (h0 : zs ≠ []) (hn : zs.length ≤ 40) (W0 : World) (hS : ST w g tl zs W0) :
    Calls Tryz.prog 45 #[.slice (some ⟨g, 0, none⟩) zs.length cap, .func (.func 46) #[] #[.pointer (some ⟨Fb, 0, none⟩)]] W0 (SeT cf w g tl [] zs []) := by
  have c1 := stabint_ok cf hcf P w g tl Fb cap zs hcmp hP hinc h0 hn W0 hS
  clear hcmp hP h0 hn hS
  go_enter Tryz.func45, Tryz.ntmps45
  go_wp2_with fail
  with_reducible refine c1.mono ?_
  rintro e w1 ⟨rfl, hE⟩
  have HE := Lib.hid hE
  clear hE
  go_wp2
  go_end0
  exact ⟨rfl, HE.out⟩
set_option maxRecDepth 100000 in
set_option maxHeartbeats 400000 in
theorem ssint_nil (ad : Option Addr) (cap : Nat) (fv : Value) (w : World) : Calls Tryz.prog 45 #[.slice ad 0 cap, fv] w fun e w' => e = .returned (.tuple #[]) ∧ w' = w := by
  have c1 := stabint_nil ad cap fv w
  go_enter Tryz.func45, Tryz.ntmps45
  go_wp2_with fail
  with_reducible refine c1.mono ?_
  rintro e w1 ⟨rfl, rfl⟩
  go_wp2
  go_end0
  exact ⟨rfl, by trivial⟩
end Go.Proofs.YtnmlephjhcmbhaaGreat
