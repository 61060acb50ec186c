/- Package datetime: Split's errors, Record. -/
import Derived.Test.YtnmlephjhcmbhaaDtb
namespace Go.Proofs.Ytnmlephjhcmbhaa
set_option linter.unusedSimpArgs false
set_option linter.unusedVariables false
open Go Go.RowKit
theorem split_okv (t z : Int) (x : Dt) (Y M D h m s : Nat) (w : World) (hY : 1970 + x.k = Y) (hM : x.c + 1 = M) (hD : x.d + 1 = D) (hx : x.Good) (ht : 315532800 ≤ t ∧ t ≤ 4102444799) (hz : -1440 ≤ z ∧ z ≤ 1440)
    (hh : h < 24) (hm : m < 60) (hs : s < 60) (hl : t + 60 * z = (x.days : Int) * 86400 + h * 3600 + m * 60 + s) :
    Calls Try.prog 104 #[cI t, cI z] w fun e w' => e = .returned (.tuple #[.agg #[cI Y, cI M, cI D, cI h, cI m, cI s], cI 0]) ∧ Below w.heap.size w w' := by
  subst hY hM hD
  exact split_ok t z x h m s w hx ht hz hh hm hs hl
set_option maxRecDepth 100000 in
set_option maxHeartbeats 1000000 in
theorem split_bad (t z : Int) (w : World) (h : ¬ ((315532800 ≤ t ∧ t ≤ 4102444799) ∧ -1440 ≤ z ∧ z ≤ 1440)) :
    Calls Try.prog 104 #[cI t, cI z] w fun e w' => e = .returned (.tuple #[.agg #[cI 0, cI 0, cI 0, cI 0, cI 0, cI 0], cI 2]) ∧ Below w.heap.size w w' := by
  have c1 := fun W => isTime_ok t W
  have c2 := fun W => isZone_ok z W
  by_cases h1 : 315532800 ≤ t ∧ t ≤ 4102444799
  · have h2 : ¬ (-1440 ≤ z ∧ z ≤ 1440) := fun k => h ⟨h1, k⟩
    rw [decide_eq_true h1] at c1
    rw [decide_eq_false h2] at c2
    clear h h1 h2
    go_enter Try.func104, Try.ntmps104
    go_wp2_with (first | (go_at_call 150; (with_reducible refine (c1 _).mono ?_); rintro e w1 ⟨rfl, rfl⟩) | (go_at_call 151; (with_reducible refine (c2 _).mono ?_); rintro e w1 ⟨rfl, rfl⟩))
    have H0 : (w.alloc (.cells #[cI 0, cI 0, cI 0, cI 0, cI 0, cI 0] 117)).heap[w.heap.size]? = some (.cells #[cI 0, cI 0, cI 0, cI 0, cI 0, cI 0] 117 (0, 0)) := World.alloc_heap_new _ _
    obtain ⟨q0, q1, q2, q3, q4, q5⟩ := cells6 H0
    refine bodyPost_ret (v := .tuple #[.agg #[cI 0, cI 0, cI 0, cI 0, cI 0, cI 0], cI 2]) ?_ rfl ⟨rfl, (Below.refl _ w).alloc (Nat.le_refl _) _⟩
    simp [results, Try.results104, go_sem, q0, q1, q2, q3, q4, q5]
  · rw [decide_eq_false h1] at c1
    clear h h1
    go_enter Try.func104, Try.ntmps104
    go_wp2_with (first | (go_at_call 150; (with_reducible refine (c1 _).mono ?_); rintro e w1 ⟨rfl, rfl⟩) | (go_at_call 151; (with_reducible refine (c2 _).mono ?_); rintro e w1 ⟨rfl, rfl⟩))
    have H0 : (w.alloc (.cells #[cI 0, cI 0, cI 0, cI 0, cI 0, cI 0] 117)).heap[w.heap.size]? = some (.cells #[cI 0, cI 0, cI 0, cI 0, cI 0, cI 0] 117 (0, 0)) := World.alloc_heap_new _ _
    obtain ⟨q0, q1, q2, q3, q4, q5⟩ := cells6 H0
    refine bodyPost_ret (v := .tuple #[.agg #[cI 0, cI 0, cI 0, cI 0, cI 0, cI 0], cI 2]) ?_ rfl ⟨rfl, (Below.refl _ w).alloc (Nat.le_refl _) _⟩
    simp [results, Try.results104, go_sem, q0, q1, q2, q3, q4, q5]
set_option maxRecDepth 100000 in
set_option maxHeartbeats 1000000 in
theorem record_bad (t z : Int) (w : World) (h : ¬ ((315532800 ≤ t ∧ t ≤ 4102444799) ∧ z % 15 = 0 ∧ -720 ≤ z ∧ z ≤ 780)) :
    Calls Try.prog 49 #[cI t, cI z] w fun e w' => e = .returned (.tuple #[.string ByteArray.empty, cI 2]) ∧ Below w.heap.size w w' := by
  have c2 := fun W => isQuarter_ok z W
  by_cases h1 : (315532800 ≤ t ∧ t ≤ 4102444799) ∧ -1440 ≤ z ∧ z ≤ 1440
  · have h2 : ¬ (z % 15 = 0 ∧ -720 ≤ z ∧ z ≤ 780) := fun k => h ⟨h1.1, k⟩
    rw [decide_eq_false h2] at c2
    obtain ⟨L, hL⟩ : ∃ L : Nat, t + 60 * z = L := ⟨(t + 60 * z).toNat, by omega⟩
    obtain ⟨x, hx, hxd⟩ := date_of (L / 86400)
    obtain ⟨hs, hse⟩ : ∃ hs, L % 86400 = hs := ⟨_, rfl⟩
    have c1 := fun W => split_okv t z x _ _ _ (hs / 3600) (hs / 60 % 60) (hs % 60) W rfl rfl rfl hx h1.1 h1.2 (by omega) (by omega) (by omega) (by omega)
    generalize 1970 + x.k = Y at c1
    generalize x.c + 1 = M at c1
    generalize x.d + 1 = D at c1
    generalize hs / 3600 = a1 at c1
    generalize hs / 60 % 60 = a2 at c1
    generalize hs % 60 = a3 at c1
    clear h h1 h2 hL hse hx hxd
    go_enter Try.func49, Try.ntmps49
    go_wp2_with (first | (go_at_call 104; (with_reducible refine (c1 _).mono ?_); rintro e w1 ⟨rfl, hB1⟩) | (go_at_call 105; (with_reducible refine (c2 _).mono ?_); rintro e w1 ⟨rfl, rfl⟩))
    go_ret2
    exact ⟨rfl, hB1.alloc hB1.size _⟩
  · have c1 := fun W => split_bad t z W h1
    clear h h1
    go_enter Try.func49, Try.ntmps49
    go_wp2_with (first | (go_at_call 104; (with_reducible refine (c1 _).mono ?_); rintro e w1 ⟨rfl, hB1⟩) | (go_at_call 105; (with_reducible refine (c2 _).mono ?_); rintro e w1 ⟨rfl, rfl⟩))
    go_ret2
    exact ⟨rfl, hB1.alloc hB1.size _⟩
/-- The byte of a zone. -/
def zB (z : Int) : UInt8 := UInt8.ofNat ((z / 15 + 256) % 256).toNat
/-- The seven bytes of a time in a directory record. -/
def recL (Y M D h m s : Nat) (z : Int) : List UInt8 := [UInt8.ofNat (Y - 1900), UInt8.ofNat M, UInt8.ofNat D, UInt8.ofNat h, UInt8.ofNat m, UInt8.ofNat s, zB z]
theorem cutB (n : Nat) (h : n < 256) : IntKind.u8.wrap (n : Int) = ((UInt8.ofNat n).toNat : Int) := by
  rw [IntKind.wrap_u8, UInt8.toNat_ofNat', Nat.mod_eq_of_lt (show n < 2 ^ 8 by omega)]
  omega
theorem i8_wrap (q : Int) (h1 : -128 ≤ q) (h2 : q ≤ 127) : IntKind.i8.wrap q = q := by
  simp [IntKind.wrap, IntKind.bits, IntKind.signed]
  omega
theorem zB_wrap (z : Int) (h : z % 15 = 0 ∧ -720 ≤ z ∧ z ≤ 780) : IntKind.u8.wrap (IntKind.i8.wrap (z.tdiv 15)) = ((zB z).toNat : Int) ∧ wrap64 (z.tdiv 15) = z.tdiv 15 := by
  have e : z.tdiv 15 = z / 15 := Int.tdiv_eq_ediv_of_dvd (Int.dvd_of_emod_eq_zero h.1)
  obtain ⟨q, hq⟩ : ∃ q, z / 15 = q := ⟨_, rfl⟩
  have hb : -48 ≤ q ∧ q ≤ 52 := by omega
  rw [e, hq]
  constructor
  · rw [zB, hq, UInt8.toNat_ofNat', Nat.mod_eq_of_lt (show ((q + 256) % 256).toNat < 2 ^ 8 by omega), IntKind.wrap_u8, i8_wrap q (by omega) (by omega)]
    omega
  · unfold wrap64; omega
set_option maxRecDepth 100000 in
set_option maxHeartbeats 1000000 in
theorem record_walk (t z : Int) (Y M D h m s : Nat) (b0 b1 b2 b3 b4 b5 b6 : UInt8) (w : World) (hq : z % 15 = 0 ∧ -720 ≤ z ∧ z ≤ 780)
    (e0 : IntKind.u8.wrap (wrap64 ((Y : Int) - 1900)) = (b0.toNat : Int)) (e1 : IntKind.u8.wrap (M : Int) = (b1.toNat : Int)) (e2 : IntKind.u8.wrap (D : Int) = (b2.toNat : Int)) (e3 : IntKind.u8.wrap (h : Int) = (b3.toNat : Int))
    (e4 : IntKind.u8.wrap (m : Int) = (b4.toNat : Int)) (e5 : IntKind.u8.wrap (s : Int) = (b5.toNat : Int)) (e6 : IntKind.u8.wrap (IntKind.i8.wrap (z.tdiv 15)) = (b6.toNat : Int)) (e7 : wrap64 (z.tdiv 15) = z.tdiv 15)
    (c1 : ∀ w : World, Calls Try.prog 104 #[cI t, cI z] w fun e w' => e = .returned (.tuple #[.agg #[cI Y, cI M, cI D, cI h, cI m, cI s], cI 0]) ∧ Below w.heap.size w w') :
    Calls Try.prog 49 #[cI t, cI z] w fun e w' => e = .returned (.tuple #[.string ⟨#[b0, b1, b2, b3, b4, b5, b6]⟩, cI 0]) ∧ Below w.heap.size w w' := by
  have c2 := fun W => isQuarter_ok z W
  rw [decide_eq_true hq] at c2
  have hcv : ∀ (W : World) (B : Nat), W.heap[B]? = some (.cells (cb [b0, b1, b2, b3, b4, b5, b6]).toArray 5 (0, 0)) → (convert 37 9 (.slice (some ⟨B, 0, none⟩) 7 7)).run Try.prog W = .ok (.string ⟨#[b0, b1, b2, b3, b4, b5, b6]⟩) W := fun W B hr =>
    row_string (P := Try.prog) (src := 37) (dst := 9) (n := 7) (cap := 7) (bs := [b0, b1, b2, b3, b4, b5, b6]) Try.underlying37 Try.underlying5 Try.underlying9 rfl hr
  clear hq
  go_enter Try.func49, Try.ntmps49
  go_wp2_with (first | (go_at_call 104; (with_reducible refine (c1 _).mono ?_); rintro e w1 ⟨rfl, hB1⟩) | (go_at_call 105; (with_reducible refine (c2 _).mono ?_); rintro e w1 ⟨rfl, rfl⟩))
  have hrow : ((w1.alloc (.cells #[cI Y, cI M, cI D, cI h, cI m, cI s] 117)).alloc (.cells #[.int .u8 b0.toNat, .int .u8 b1.toNat, .int .u8 b2.toNat, .int .u8 b3.toNat, .int .u8 b4.toNat, .int .u8 b5.toNat, .int .u8 b6.toNat] 5)).heap[w1.heap.size + 1]? = some (.cells (cb [b0, b1, b2, b3, b4, b5, b6]).toArray 5 (0, 0)) := by
    have := World.alloc_heap_new (w1.alloc (.cells #[cI Y, cI M, cI D, cI h, cI m, cI s] 117)) (.cells #[.int .u8 b0.toNat, .int .u8 b1.toNat, .int .u8 b2.toNat, .int .u8 b3.toNat, .int .u8 b4.toNat, .int .u8 b5.toNat, .int .u8 b6.toNat] 5)
    rw [World.size_alloc] at this
    exact this
  rw [hcv _ _ hrow]
  simp only [Result.andThen]
  rw [Oper.upon_value]
  go_wp2
  go_ret2
  exact ⟨rfl, (hB1.alloc hB1.size _).alloc (by have := hB1.size; simp; omega) _⟩
theorem year_byte (Y : Nat) (h1 : 1900 ≤ Y) (h2 : Y ≤ 2155) : IntKind.u8.wrap (wrap64 ((Y : Int) - 1900)) = ((UInt8.ofNat (Y - 1900)).toNat : Int) := by
  have e : wrap64 ((Y : Int) - 1900) = ((Y - 1900 : Nat) : Int) := by rw [wrap_le _ (by omega) (by omega)]; omega
  rw [e]
  exact cutB _ (by omega)
/-- The dates of times: at most 130 years behind 1970. -/
theorem years_le {x : Dt} {t z : Int} {h m s : Nat} (ht : t ≤ 4102444799) (hz : z ≤ 1440) (hl : t + 60 * z = (x.days : Int) * 86400 + h * 3600 + m * 60 + s) : x.k ≤ 130 := by
  have h1 : x.days < 47484 := by omega
  have h2 : dU x.k ≤ x.days := by rw [Dt.days]; omega
  have h3 := dU_ge x.k
  omega
theorem record_ok (t z : Int) (x : Dt) (h m s : Nat) (w : World) (hx : x.Good) (ht : 315532800 ≤ t ∧ t ≤ 4102444799) (hq : z % 15 = 0 ∧ -720 ≤ z ∧ z ≤ 780)
    (hh : h < 24) (hm : m < 60) (hs : s < 60) (hl : t + 60 * z = (x.days : Int) * 86400 + h * 3600 + m * 60 + s) :
    Calls Try.prog 49 #[cI t, cI z] w fun e w' => e = .returned (.tuple #[.string ⟨(recL (1970 + x.k) (x.c + 1) (x.d + 1) h m s z).toArray⟩, cI 0]) ∧ Below w.heap.size w w' := by
  have hk := years_le ht.2 (by omega) hl
  have hd := (mD_ge (1970 + x.k) (x.c + 1)).2
  have hx1 := hx.1
  have hx2 := hx.2
  exact record_walk t z (1970 + x.k) (x.c + 1) (x.d + 1) h m s _ _ _ _ _ _ _ w hq (year_byte _ (by omega) (by omega)) (cutB _ (by omega)) (cutB _ (by omega)) (cutB _ (by omega)) (cutB _ (by omega)) (cutB _ (by omega))
    (zB_wrap z hq).1 (zB_wrap z hq).2 fun W => split_okv t z x _ _ _ h m s W rfl rfl rfl hx ht (by omega) hh hm hs hl
end Go.Proofs.Ytnmlephjhcmbhaa
