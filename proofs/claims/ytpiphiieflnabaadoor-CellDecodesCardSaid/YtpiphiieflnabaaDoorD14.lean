/- The document's Print: what it does. Conditions: none. -/
import Derived.Test.YtpiphiieflnabaaDoorD13
namespace Go.Proofs.YtpiphiieflnabaaDoor
open Go Go.Abs
set_option maxRecDepth 100000
variable {ev : Env}

theorem w64 {n : Int} (h0 : -9223372036854775808 ≤ n) (h : n < 9223372036854775808) : IntKind.i64.wrap n = n := by
  simp only [IntKind.wrap]
  unfold IntKind.signed IntKind.bits
  simp
  split <;> omega
theorem w8 {n : Int} (h0 : 0 ≤ n) (h : n < 256) : IntKind.u8.wrap n = n := by
  simp only [IntKind.wrap]
  unfold IntKind.signed IntKind.bits
  simp
  omega
theorem wu64 (n : Int) : IntKind.u64.wrap n = n % 18446744073709551616 := by
  simp only [IntKind.wrap]
  unfold IntKind.signed IntKind.bits
  simp
theorem u8w_ofNat {n : Int} (h0 : 0 ≤ n) (h : n < 256) : u8w n = UInt8.ofNat n.toNat := by unfold u8w; rw [w8 h0 h]
theorem dec_len {u k : Nat} (hk : 0 < k) (h : u < 10 ^ k) : (Lib.decDigits u).length ≤ k := by
  by_cases h0 : u = 0
  · subst h0; rw [Lib.decDigits]; simp; omega
  · have hn := dec_nz u (by omega)
    have hv := dec_val u
    cases hd : Lib.decDigits u with
    | nil => simp
    | cons c r =>
      rw [hd] at hn hv
      have := valF_ge hn
      rw [hv] at this
      have h3 : 10 ^ r.length < 10 ^ k := by omega
      have := (Nat.pow_lt_pow_iff_right (by omega : 1 < 10)).1 h3
      simp only [List.length_cons]; omega
theorem itoa_len {n : Int} {k : Nat} (hk : 0 < k) (h : n.natAbs < 10 ^ k) : (Lib.itoa n).length ≤ k + 1 := by
  unfold Lib.itoa
  split
  · simp only [List.length_cons]; have := dec_len hk h; omega
  · have := dec_len hk (u := n.toNat) (by omega); omega
theorem itoa_low {m : Nat} (h1 : 1 ≤ m) (h : m < 10) : Lib.itoa (-(m : Int)) = [45] ++ [u8w (W64 (48 - (-(m : Int)).tmod 10))] := by
  rw [itoa_neg (by omega), Int.neg_tmod, show ((m : Int)).tmod 10 = ((m % 10 : Nat) : Int) from (Int.ofNat_tmod m 10).symm, show m % 10 = m by omega, show W64 (48 - -(m : Int)) = 48 - -(m : Int) from w64 (by omega) (by omega), u8w_ofNat (by omega) (by omega),
    show (-(m : Int)).natAbs = m by omega, Lib.decDigits, dif_pos h, show (48 - -(m : Int)).toNat = 48 + m by omega]; rfl
theorem itoa_neg10 {m : Nat} (h : 10 ≤ m) (hm : m ≤ 9223372036854775808) : Lib.itoa (-(m : Int)) = Lib.itoa (W64 ((-(m : Int)).tdiv 10)) ++ [u8w (W64 (48 - (-(m : Int)).tmod 10))] := by
  have e1 : (-(m : Int)).tdiv 10 = -((m / 10 : Nat) : Int) := by rw [Int.neg_tdiv, show ((m : Int)).tdiv 10 = ((m / 10 : Nat) : Int) from (Int.ofNat_tdiv m 10).symm]
  have e2 : (-(m : Int)).tmod 10 = -((m % 10 : Nat) : Int) := by rw [Int.neg_tmod, show ((m : Int)).tmod 10 = ((m % 10 : Nat) : Int) from (Int.ofNat_tmod m 10).symm]
  rw [e1, e2, show W64 (-((m / 10 : Nat) : Int)) = -((m / 10 : Nat) : Int) from w64 (by omega) (by omega), show W64 (48 - -((m % 10 : Nat) : Int)) = 48 - -((m % 10 : Nat) : Int) from w64 (by omega) (by omega), u8w_ofNat (by omega) (by omega),
    itoa_neg (by omega), itoa_neg (by omega), show (-(m : Int)).natAbs = m by omega, show (-((m / 10 : Nat) : Int)).natAbs = m / 10 by omega, show (48 - -((m % 10 : Nat) : Int)).toNat = 48 + m % 10 by omega]
  conv => lhs; rw [Lib.decDigits, dif_neg (by omega)]
  rfl
theorem itoa_one {m : Nat} (h : m < 10) : Lib.itoa (m : Int) = [u8w (W64 (48 + (m : Int).tmod 10))] := by
  rw [show ((m : Int)).tmod 10 = ((m % 10 : Nat) : Int) from (Int.ofNat_tmod m 10).symm, show m % 10 = m by omega, show W64 (48 + (m : Int)) = 48 + (m : Int) from w64 (by omega) (by omega), u8w_ofNat (by omega) (by omega)]
  unfold Lib.itoa
  rw [if_neg (by omega), Int.toNat_natCast, Lib.decDigits, dif_pos h, show (48 + (m : Int)).toNat = 48 + m by omega]
theorem itoa_pos10 {m : Nat} (h : 10 ≤ m) (hm : m ≤ 9223372036854775807) : Lib.itoa (m : Int) = Lib.itoa (W64 ((m : Int).tdiv 10)) ++ [u8w (W64 (48 + (m : Int).tmod 10))] := by
  have e1 : (m : Int).tdiv 10 = ((m / 10 : Nat) : Int) := (Int.ofNat_tdiv m 10).symm
  have e2 : (m : Int).tmod 10 = ((m % 10 : Nat) : Int) := (Int.ofNat_tmod m 10).symm
  rw [e1, e2, show W64 ((m / 10 : Nat) : Int) = ((m / 10 : Nat) : Int) from w64 (by omega) (by omega), show W64 (48 + ((m % 10 : Nat) : Int)) = 48 + ((m % 10 : Nat) : Int) from w64 (by omega) (by omega), u8w_ofNat (by omega) (by omega)]
  unfold Lib.itoa
  rw [if_neg (by omega), if_neg (by omega), Int.toNat_natCast, Int.toNat_natCast, show (48 + ((m % 10 : Nat) : Int)).toNat = 48 + m % 10 by omega]
  conv => lhs; rw [Lib.decDigits, dif_neg (by omega)]
theorem inK_some {k : Nat} {n : Int} {A : Option (AV × Store)} (h1 : 0 < k) (h2 : n.natAbs < 10 ^ k) (h3 : -9223372036854775808 ≤ n) (h4 : n ≤ 9223372036854775807) : inK k n A = A := by
  unfold inK; rw [decide_eq_true h1, decide_eq_true h2, decide_eq_true h3, decide_eq_true h4]; rfl
theorem pow_div {m k : Nat} (h : 10 ≤ m) (h2 : m < 10 ^ (k + 1)) : 0 < k ∧ m / 10 < 10 ^ k := by
  constructor
  · rcases Nat.eq_zero_or_pos k with rfl | h'
    · simp at h2; omega
    · exact h'
  · rw [Nat.pow_succ] at h2; omega
theorem okPrintK (k : Nat) (hk : k ≤ 30) : Con.ok Tryd.prog (G0 ev) 30 (printK k) := by
  induction k with
  | zero =>
    intro args st r st' h
    unfold printK at h
    dsimp only at h
    split at h
    · exact absurd (need_get h).1 (by simp)
    · exact (no_get h).elim
  | succ k ih =>
    refine loop_spec (l := [(30, printK k)]) ⟨ih (by omega), trivial⟩ hm Tryd.func30 (by rfl) (by kernel_rfl) fun args st r h => ?_
    unfold printK at h
    dsimp only at h
    split at h
    · rename_i n
      obtain ⟨h1, hA⟩ := need_get h
      obtain ⟨h2, hB⟩ := need_get hA
      simp only [Bool.and_eq_true, decide_eq_true_eq] at h1 h2
      refine ⟨noL, noL_ok, ?_⟩
      rw [rprint_ev, ← ret_get hB]
      have hL : ∀ m : Nat, m ≤ 40 → decide (m ≤ LIM) = true := fun m hm => decide_eq_true (by unfold LIM; omega)
      by_cases hn : n < 0
      · obtain ⟨m, rfl⟩ : ∃ m : Nat, n = -(m : Int) := ⟨n.natAbs, by omega⟩
        rw [decide_eq_true hn, cond_true]
        have e1 : W64 ((-(m : Int)).tdiv 10) = -((m / 10 : Nat) : Int) := by
          rw [Int.neg_tdiv, show ((m : Int)).tdiv 10 = ((m / 10 : Nat) : Int) from (Int.ofNat_tdiv m 10).symm]; exact w64 (by omega) (by omega)
        by_cases h10 : m < 10
        · rw [decide_eq_true (by rw [e1]; omega), cond_true, itoa_low (by omega) h10, hL _ (by simp)]; rfl
        · obtain ⟨hp, hq⟩ := pow_div (by omega : 10 ≤ m) (by have := h1.2; omega : m < 10 ^ (k + 1))
          rw [decide_eq_false (by rw [e1]; omega), cond_false, itoa_neg10 (by omega) (by omega)]
          have hq' : (-((m / 10 : Nat) : Int)).natAbs < 10 ^ k := by omega
          have hl := itoa_len hp hq'
          rw [e1, inK_some hp hq' (by omega) (by omega), hL _ (by simp only [List.length_cons, List.length_nil]; omega)]; rfl
      · obtain ⟨m, rfl⟩ : ∃ m : Nat, n = (m : Int) := ⟨n.toNat, by omega⟩
        rw [decide_eq_false hn, cond_false]
        have e1 : W64 ((m : Int).tdiv 10) = ((m / 10 : Nat) : Int) := by
          rw [show ((m : Int)).tdiv 10 = ((m / 10 : Nat) : Int) from (Int.ofNat_tdiv m 10).symm]; exact w64 (by omega) (by omega)
        by_cases h10 : m < 10
        · rw [decide_eq_true (by omega : (m : Int) < 10), itoa_one h10]; rfl
        · obtain ⟨hp, hq⟩ := pow_div (by omega : 10 ≤ m) (by have := h1.2; omega : m < 10 ^ (k + 1))
          rw [decide_eq_false (by omega : ¬ (m : Int) < 10), cond_false, itoa_pos10 (by omega) (by omega)]
          have hq' : (((m / 10 : Nat) : Int)).natAbs < 10 ^ k := by omega
          have hl := itoa_len hp hq'
          rw [e1, inK_some hp hq' (by omega) (by omega), hL _ (by simp only [List.length_cons, List.length_nil]; omega)]; rfl
    · exact (no_get h).elim
theorem okRPrint : Con.ok Tryd.prog (G0 ev) 30 printC := by
  intro args st r st' h
  refine okPrintK 20 (by omega) args st r st' ?_
  unfold printC at h
  unfold printK
  dsimp only at h ⊢
  split at h
  · rename_i n
    obtain ⟨h1, h2⟩ := need_get h
    have h1' := h1
    simp only [Bool.and_eq_true, decide_eq_true_eq] at h1
    rw [decide_eq_true (by omega : 0 < 20), decide_eq_true (by omega : n.natAbs < 10 ^ 20), h1']
    exact h2
  · exact (no_get h).elim
end Go.Proofs.YtpiphiieflnabaaDoor
