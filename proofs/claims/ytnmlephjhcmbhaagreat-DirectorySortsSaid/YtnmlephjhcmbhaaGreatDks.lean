/- What is encoded is decoded: directories, plain. -/
import Derived.Test.YtnmlephjhcmbhaaGreatDkl
import Derived.Test.YtnmlephjhcmbhaaGreatDkn
namespace Go.Proofs.YtnmlephjhcmbhaaGreat
set_option linter.unusedSimpArgs false
set_option linter.unusedVariables false
open Go Go.RowKit
theorem sB_drop (s : ByteArray) (a i : Nat) : sB s (a + i) = ((s.data.toList.drop a).getD i 0).toNat := by
  unfold sB
  rw [List.getD_eq_getElem?_getD, List.getD_eq_getElem?_getD, List.getElem?_drop]
theorem dec_skip (s : ByteArray) (hm : s.size % 2048 = 0) : ∀ (f a K : Nat) (R : List Rec) (O : List Nat), s.data.toList.drop a = List.replicate K 0 → s.size ≤ a + f → decL s f a R O = (0, R, O)
  | 0, a, K, R, O, _, _ => rfl
  | f + 1, a, K, R, O, h, hf => by
    by_cases hlt : a < s.size
    · have h0 : sB s a = 0 := by
        have := sB_drop s a 0
        rw [Nat.add_zero, h] at this
        rw [this, List.getD_eq_getElem?_getD]
        cases K with
        | zero => rfl
        | succ K => simp
      have hb : a < blkE a := by unfold blkE; omega
      rw [decL_zero hlt h0]
      refine dec_skip s hm f (blkE a) (K - (blkE a - a)) R O ?_ (by omega)
      rw [show blkE a = a + (blkE a - a) by omega, ← List.drop_drop, h, List.drop_replicate]
      congr 1
      omega
    · exact decL_end (by omega)
theorem plc_end (a n : Nat) (h1 : n ≤ 254) : plc a n + n ≤ blkE (plc a n) ∧ (a < plc a n → plc a n = blkE a) := by
  unfold plc blkE
  split <;> constructor <;> omega
theorem dec_one (s : ByteArray) (hm : s.size % 2048 = 0) (r : Rec) (he : enE r = 0) (p f : Nat) (Y : List UInt8) (R : List Rec) (O : List Nat) (hd : s.data.toList.drop p = (enS r).data.toList ++ Y)
    (hb : p + (enS r).size ≤ blkE p) (hR : R.length < 1024) : decL s (f + 1) p R O = decL s f (p + (enS r).size) (R ++ [r]) (O ++ [p]) := by
  obtain ⟨n, H, F⟩ := enS_good he
  have hn := F.size
  have hsz := enS_size he
  rw [hn] at hb hsz ⊢
  have hlt : p < s.size := by
    rw [← list_size]
    rcases Nat.lt_or_ge p s.data.toList.length with h | h
    · exact h
    · rw [List.drop_eq_nil_of_le h] at hd
      have := congrArg List.length hd
      rw [List.length_append, list_size, hn] at this
      simp at this
      omega
  obtain ⟨l1, l2, l3, l4, l5⟩ := left_facts s p hlt hm
  have hL : leftS s p = enS r ++ bL (Y.take (blkE p - p - n)) := by
    apply ext_list
    rw [leftS, extract_list, hd, List.take_append, list_size, hn, List.take_of_length_le (by rw [list_size]; omega)]
    simp [bL]
  obtain ⟨d1, d2, d3⟩ := F.behind (bL (Y.take (blkE p - p - n)))
  have h0 : sB s p = n := by
    rw [← F.alone.2.2.2.1]
    have := sB_drop s p 0
    rw [Nat.add_zero, hd] at this
    rw [this]
    unfold sB
    have h34 : 0 < (enS r).data.toList.length := by rw [list_size]; omega
    rw [List.getD_eq_getElem?_getD, List.getElem?_append_left h34, ← List.getD_eq_getElem?_getD]
  have hx := decL_next (f := f) (R := R) (O := O) (n := n) hlt (by omega) (by rw [l4, h0]; omega) (by rw [hL]; exact d1) (by omega) (by rw [hL]; exact d2)
  rw [hx, hL, d3]
theorem dec_run (s : ByteArray) (hm : s.size % 2048 = 0) : ∀ (l : List Rec) (a f K : Nat) (R : List Rec) (O : List Nat), (∀ r ∈ l, enE r = 0) → s.data.toList.drop a = bodyL a (enL l) ++ List.replicate K 0 → a ≤ s.size → s.size ≤ a + f → R.length + l.length ≤ 1024 →
    decL s f a R O = (0, R ++ l, O ++ plcs a (lenR l))
  | [], a, f, K, R, O, _, h, _, hf, _ => by
    rw [dec_skip s hm f a K R O (by simpa [enL, bodyL] using h) hf]
    simp [lenR, plcs]
  | r :: l, a, f, K, R, O, he, h, ha, hf, hR => by
    have hr := he r (by simp)
    have hsz := enS_size hr
    obtain ⟨n, hn⟩ : ∃ n, (enS r).size = n := ⟨_, rfl⟩
    have hlist : (enS r).data.toList.length = n := by rw [list_size, hn]
    rw [show enL (r :: l) = (enS r).data.toList :: enL l from rfl, bodyL, hlist] at h
    rw [hn] at hsz
    obtain ⟨e1, e2⟩ := plc_end a n (by omega)
    obtain ⟨p, hp⟩ : ∃ p, plc a n = p := ⟨_, rfl⟩
    have hpa := (plc_le a n).1
    rw [hp] at h e1 e2 hpa
    have hdp : s.data.toList.drop p = (enS r).data.toList ++ (bodyL (p + n) (enL l) ++ List.replicate K 0) := by
      have e : a + (p - a) = p := by omega
      have e3 : s.data.toList.drop (a + (p - a)) = (enS r).data.toList ++ (bodyL (p + n) (enL l) ++ List.replicate K 0) := by
        rw [← List.drop_drop, h, List.append_assoc, List.drop_append, List.drop_of_length_le (by simp), List.length_replicate, Nat.sub_self, List.drop_zero, List.nil_append, List.append_assoc]
      rw [e] at e3
      exact e3
    have hps : p + n ≤ s.size := by
      have := congrArg List.length hdp
      rw [List.length_append, hlist, List.length_drop, list_size] at this
      omega
    have key : ∀ f, s.size ≤ p + f → decL s f p R O = (0, R ++ (r :: l), O ++ plcs a (lenR (r :: l))) := fun f hf => by
      obtain ⟨f, rfl⟩ : ∃ f', f = f' + 1 := ⟨f - 1, by omega⟩
      have h1 := dec_one s hm r hr p f _ R O hdp (by rw [hn]; exact e1) (by simp at hR; omega)
      rw [hn] at h1
      have hdn : s.data.toList.drop (p + n) = bodyL (p + n) (enL l) ++ List.replicate K 0 := by
        rw [← List.drop_drop, hdp, List.drop_append, List.drop_of_length_le (by rw [hlist]; exact Nat.le_refl _), hlist]
        simp
      rw [h1, dec_run s hm l (p + n) f K (R ++ [r]) (O ++ [p]) (fun x hx => he x (by simp [hx])) hdn (by omega) (by omega) (by simp at hR ⊢; omega)]
      simp [lenR, plcs, hn, hp]
    rcases Nat.lt_or_ge a p with hlt | hge
    · have h0 : sB s a = 0 := by
        have := sB_drop s a 0
        rw [Nat.add_zero, h] at this
        rw [this, List.getD_eq_getElem?_getD, List.append_assoc, List.getElem?_append_left (by simp; omega)]
        simp [show 0 < p - a by omega]
      obtain ⟨f, rfl⟩ : ∃ f', f = f' + 1 := ⟨f - 1, by omega⟩
      rw [decL_zero (by omega) h0, ← e2 hlt]
      exact key f (by omega)
    · obtain rfl : p = a := by omega
      exact key f hf
/-- The place is at most 254 bytes further on. -/
theorem plc_small (a n : Nat) (h : n ≤ 254) : plc a n ≤ a + 254 := by unfold plc; split <;> omega
theorem plcE_small : ∀ (l : List Nat) (a : Nat), (∀ n ∈ l, n ≤ 254) → plcE a l ≤ a + 508 * l.length
  | [], _, _ => by simp [plcE]
  | n :: l, a, h => by
    have h1 := plcE_small l (plc a n + n) fun m hm => h m (List.mem_cons_of_mem _ hm)
    have h3 := h n (List.mem_cons_self ..)
    have h2 := plc_small a n h3
    rw [plcE, List.length_cons]
    omega
theorem lenR_small {l : List Rec} (h : firstE l = 0) : ∀ n ∈ lenR l, n ≤ 254 := by
  intro n hn
  obtain ⟨r, hr, rfl⟩ := List.mem_map.1 hn
  exact (enS_size (firstE_all h r hr)).2.2.1
theorem totT_small {l : List Rec} (h : firstE l = 0) : totT l ≤ 508 * l.length + 2047 ∧ totT l % 2048 = 0 := by
  have h1 := plcE_small (lenR l) 0 (lenR_small h)
  have e : (lenR l).length = l.length := by simp [lenR]
  unfold totT blkM endM
  rw [if_pos (lenI_ok h), natS_lenI]
  rw [e] at h1
  omega
/-- What is encoded, with blocks of zeros behind it, is decoded. -/
theorem dec_enc (l : List Rec) (h : firstE l = 0) (hl : l.length ≤ 60) (z : Nat) (hz : z ≤ 2) (s : ByteArray) (hs : s.data.toList = bufL (totT l) (enL l) ++ List.replicate (z * 2048) 0) :
    dirD s = (0, l, plcs 0 (lenR l)) := by
  obtain ⟨t1, t2⟩ := totT_small h
  have hge := totT_ge h
  have hsz : s.size = totT l + z * 2048 := by
    rw [← list_size, hs, List.length_append, buf_len _ _ (by rw [lensN_enL]; exact hge), List.length_replicate]
  have hm : s.size % 2048 = 0 := by omega
  rw [dirD, if_neg (by omega), if_neg (by omega)]
  have := dec_run s hm l 0 (s.size + 1) (totT l - plcE 0 (lenR l) + z * 2048) [] [] (firstE_all h) (by
    rw [List.drop_zero, hs, bufL, lensN_enL, List.append_assoc, List.replicate_append_replicate]) (Nat.zero_le _) (by omega) (by simp; omega)
  rw [this]
  simp
end Go.Proofs.YtnmlephjhcmbhaaGreat
