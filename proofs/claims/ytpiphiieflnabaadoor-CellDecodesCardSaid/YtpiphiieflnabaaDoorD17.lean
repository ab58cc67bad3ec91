/- Sums: the plain law; awake of the laws on numbers. Conditions: strconv.ErrRange holds an interface value. -/
import Derived.Test.YtpiphiieflnabaaDoorD16
namespace Go.Proofs.YtpiphiieflnabaaDoor
open Go Go.Abs
set_option maxRecDepth 100000
variable {ev : Env}

theorem inR_iff {n : Int} : inR n = true ↔ -9223372036854775808 ≤ n ∧ n ≤ 9223372036854775807 := by unfold inR; simp
/-- All numbers added up; the error's number. -/
def sumP (l : List Int) : Int × Int := cond (inR l.sum) (l.sum, 0) (0, 18)
theorem fdiv63 (n : Int) : n.fdiv 9223372036854775808 = n / 9223372036854775808 := Int.fdiv_eq_ediv_of_nonneg _ (by omega)
theorem foldS : ∀ (l : List Int) (p : Int × Int), l.all inR = true → 0 ≤ p.2 → p.2 < 18446744073709551616 → -1000000 ≤ p.1 - l.length → p.1 + l.length ≤ 1000000 →
    0 ≤ (l.foldl sumS p).2 ∧ (l.foldl sumS p).2 < 18446744073709551616 ∧ (l.foldl sumS p).1 * 18446744073709551616 + (l.foldl sumS p).2 = p.1 * 18446744073709551616 + p.2 + l.sum ∧ -1000000 ≤ (l.foldl sumS p).1 ∧ (l.foldl sumS p).1 ≤ 1000000
  | [], p, _, h1, h2, h3, h4 => by
    simp only [List.length_nil] at h3 h4
    refine ⟨h1, h2, ?_, by simp; omega, by simp; omega⟩
    simp
  | n :: l, (hi, lo), ha, h1, h2, h3, h4 => by
    simp only [List.all_cons, Bool.and_eq_true, inR_iff] at ha
    simp only [List.length_cons] at h3 h4
    dsimp only at h1 h2 h3 h4
    have e2 : sumS (hi, lo) n = (hi + (n / 9223372036854775808 + (lo + n % 18446744073709551616) / 18446744073709551616), (lo + n % 18446744073709551616) % 18446744073709551616) := by
      unfold sumS
      dsimp only
      rw [fdiv63, wu64, Int.add_zero, show W64 ((lo + n % 18446744073709551616) / 18446744073709551616) = (lo + n % 18446744073709551616) / 18446744073709551616 from w64 (by omega) (by omega),
        show W64 (n / 9223372036854775808 + (lo + n % 18446744073709551616) / 18446744073709551616) = n / 9223372036854775808 + (lo + n % 18446744073709551616) / 18446744073709551616 from w64 (by omega) (by omega),
        show W64 (hi + (n / 9223372036854775808 + (lo + n % 18446744073709551616) / 18446744073709551616)) = hi + (n / 9223372036854775808 + (lo + n % 18446744073709551616) / 18446744073709551616) from w64 (by omega) (by omega)]
    rw [List.foldl_cons, e2]
    obtain ⟨r1, r2, r3, r4, r5⟩ := foldS l (hi + (n / 9223372036854775808 + (lo + n % 18446744073709551616) / 18446744073709551616), (lo + n % 18446744073709551616) % 18446744073709551616) ha.2 (by dsimp only; omega) (by dsimp only; omega) (by dsimp only; omega) (by dsimp only; omega)
    refine ⟨r1, r2, ?_, r4, r5⟩
    rw [r3, List.sum_cons]
    dsimp only
    omega
noncomputable def sumC : Con where
  spec := fun args st => match args, st with
    | [.seq (.int .i64) l], [] => .need (List.all (α := Int) l inR && decide (List.length (α := Int) l ≤ 1000)) (.ret (.tup [.int .i64 (sumP l).1, .int .i64 (sumP l).2], []))
    | _, _ => .no
  quiet := true
theorem okSum : Con.ok Tryd.prog (G0 ev) 23 sumC :=
  loop_spec oka1 hm Tryd.func23 hcA (by kernel_rfl) fun args st r h => by
    unfold sumC at h
    dsimp only at h
    split at h
    · rename_i l
      obtain ⟨h1, h2⟩ := need_get h
      simp only [Bool.and_eq_true, decide_eq_true_eq] at h1
      refine ⟨LA, loops_ok ⟨loop_entry (n := 0) hbA specA_ok, trivial⟩, ?_⟩
      obtain ⟨r1, r2, r3, r4, r5⟩ := foldS l (0, 0) h1.1 (by simp) (by simp) (by dsimp only; omega) (by dsimp only; omega)
      rw [sum_ev, ← ret_get h2, decide_eq_true (rfl : (List.length (α := Int) l : Int) = _), decide_eq_true (show List.length (α := Int) l ≤ LIM by unfold LIM; omega), fdiv63]
      unfold sumP
      generalize List.foldl sumS (0, 0) l = p at *
      obtain ⟨hi, lo⟩ := p
      dsimp only at r1 r2 r3 r4 r5 ⊢
      simp only [Int.zero_mul, Int.add_zero, Int.zero_add] at r3
      rw [← r3]
      by_cases hlo : lo < 9223372036854775808
      · rw [show W64 lo = lo from w64 (by omega) (by omega)]
        by_cases hh : hi = 0
        · rw [decide_eq_true (by omega), inR_iff.2 (by omega)]; subst hh; simp [i2]
        · have e0 : inR (hi * 18446744073709551616 + lo) = false := Bool.eq_false_iff.2 fun e => by rw [inR_iff] at e; omega
          rw [decide_eq_false (by omega), e0]; rfl
      · have e : W64 lo = lo - 18446744073709551616 := by
          simp only [W64, IntKind.wrap]
          unfold IntKind.signed IntKind.bits
          simp
          rw [if_pos (by omega)]; omega
        rw [e]
        by_cases hh : hi = -1
        · rw [decide_eq_true (by omega), inR_iff.2 (by omega)]; subst hh; simp only [i2, cond_true, Bool.and_self]; congr 4; congr 1; omega
        · have e0 : inR (hi * 18446744073709551616 + lo) = false := Bool.eq_false_iff.2 fun e => by rw [inR_iff] at e; omega
          rw [decide_eq_false (by omega), e0]; rfl
    · exact (no_get h).elim
theorem qr32 {n : Int} (h : inR n = true) : cond (decide (n.tmod 4294967296 < 0)) (W64 (W64 (n.tdiv 4294967296) - 1)) (W64 (n.tdiv 4294967296)) = n / 4294967296 ∧
    cond (decide (n.tmod 4294967296 < 0)) (W64 (n.tmod 4294967296 + 4294967296)) (n.tmod 4294967296) = n % 4294967296 := by
  rw [inR_iff] at h
  by_cases hn : 0 ≤ n
  · rw [Int.tdiv_eq_ediv_of_nonneg hn, Int.tmod_eq_emod_of_nonneg hn, decide_eq_false (by omega)]
    exact ⟨w64 (by omega) (by omega), rfl⟩
  · obtain ⟨m, rfl⟩ : ∃ m : Nat, n = -(m : Int) := ⟨n.natAbs, by omega⟩
    rw [Int.neg_tdiv, Int.neg_tmod, show ((m : Int)).tdiv 4294967296 = ((m / 4294967296 : Nat) : Int) from (Int.ofNat_tdiv m 4294967296).symm, show ((m : Int)).tmod 4294967296 = ((m % 4294967296 : Nat) : Int) from (Int.ofNat_tmod m 4294967296).symm,
      show W64 (-((m / 4294967296 : Nat) : Int)) = -((m / 4294967296 : Nat) : Int) from w64 (by omega) (by omega)]
    by_cases hr : m % 4294967296 = 0
    · rw [decide_eq_false (by omega)]
      exact ⟨by rw [cond_false]; omega, by rw [cond_false]; omega⟩
    · rw [decide_eq_true (by omega), cond_true, cond_true]
      exact ⟨(w64 (by omega) (by omega)).trans (by omega), (w64 (by omega) (by omega)).trans (by omega)⟩
theorem foldR : ∀ (l : List Int) (p : Int × Int), l.all inR = true → 0 ≤ p.2 → p.2 < 4294967296 → -10000000000000000 ≤ p.1 - l.length * 2147483649 → p.1 + l.length * 2147483649 ≤ 10000000000000000 →
    0 ≤ (l.foldl sumR p).2 ∧ (l.foldl sumR p).2 < 4294967296 ∧ (l.foldl sumR p).1 * 4294967296 + (l.foldl sumR p).2 = p.1 * 4294967296 + p.2 + l.sum
  | [], p, _, h1, h2, _, _ => ⟨h1, h2, by simp⟩
  | n :: l, (hi, lo), ha, h1, h2, h3, h4 => by
    simp only [List.all_cons, Bool.and_eq_true] at ha
    simp only [List.length_cons] at h3 h4
    dsimp only at h1 h2 h3 h4
    have hn := inR_iff.1 ha.1
    have e2 : sumR (hi, lo) n = (hi + n / 4294967296 + (lo + n % 4294967296) / 4294967296, (lo + n % 4294967296) % 4294967296) := by
      unfold sumR
      dsimp only
      rw [(qr32 ha.1).1, (qr32 ha.1).2, show W64 (lo + n % 4294967296) = lo + n % 4294967296 from w64 (by omega) (by omega), Int.tdiv_eq_ediv_of_nonneg (by omega), Int.tmod_eq_emod_of_nonneg (by omega),
        show W64 ((lo + n % 4294967296) / 4294967296) = (lo + n % 4294967296) / 4294967296 from w64 (by omega) (by omega), show W64 (hi + n / 4294967296) = hi + n / 4294967296 from w64 (by omega) (by omega),
        show W64 (hi + n / 4294967296 + (lo + n % 4294967296) / 4294967296) = hi + n / 4294967296 + (lo + n % 4294967296) / 4294967296 from w64 (by omega) (by omega)]
    rw [List.foldl_cons, e2]
    obtain ⟨r1, r2, r3⟩ := foldR l (hi + n / 4294967296 + (lo + n % 4294967296) / 4294967296, (lo + n % 4294967296) % 4294967296) ha.2 (by dsimp only; omega) (by dsimp only; omega) (by dsimp only; omega) (by dsimp only; omega)
    refine ⟨r1, r2, ?_⟩
    rw [r3, List.sum_cons]
    dsimp only
    omega
theorem okRSum : Con.ok Tryd.prog (G0 ev) 24 sumC :=
  loop_spec (l := []) trivial hm Tryd.func24 hcB (by kernel_rfl) fun args st r h => by
    unfold sumC at h
    dsimp only at h
    split at h
    · rename_i l
      obtain ⟨h1, h2⟩ := need_get h
      simp only [Bool.and_eq_true, decide_eq_true_eq] at h1
      refine ⟨LB, loops_ok ⟨loop_entry (n := 0) hbB specB_ok, trivial⟩, ?_⟩
      obtain ⟨r1, r2, r3⟩ := foldR l (0, 0) h1.1 (by simp) (by simp) (by dsimp only; omega) (by dsimp only; omega)
      rw [rsum_ev, ← ret_get h2, decide_eq_true (rfl : (List.length (α := Int) l : Int) = _), decide_eq_true (show List.length (α := Int) l ≤ LIM by unfold LIM; omega)]
      unfold sumP
      generalize List.foldl sumR (0, 0) l = p at *
      obtain ⟨hi, lo⟩ := p
      dsimp only at r1 r2 r3 ⊢
      simp only [Int.zero_mul, Int.add_zero, Int.zero_add] at r3
      rw [← r3]
      by_cases h3 : hi < -2147483648
      · have e0 : inR (hi * 4294967296 + lo) = false := Bool.eq_false_iff.2 fun e => by rw [inR_iff] at e; omega
        rw [decide_eq_true h3, e0]; rfl
      · by_cases h4 : 2147483647 < hi
        · have e0 : inR (hi * 4294967296 + lo) = false := Bool.eq_false_iff.2 fun e => by rw [inR_iff] at e; omega
          rw [decide_eq_false h3, decide_eq_true h4, e0]; rfl
        · have e0 : inR (hi * 4294967296 + lo) = true := inR_iff.2 (by omega)
          rw [decide_eq_false h3, decide_eq_false h4, e0, show W64 (hi * 4294967296) = hi * 4294967296 from w64 (by omega) (by omega), show W64 (hi * 4294967296 + lo) = hi * 4294967296 + lo from w64 (by omega) (by omega)]; rfl
    · exact (no_get h).elim
noncomputable def n4 (ev : Env) : List (Nat × Con) := (23, sumC) :: (24, sumC) :: n3 ev
theorem okn4 (hev : EvOK ev) : AllOK Tryd.prog (G0 ev) (n4 ev) := ⟨okSum, okRSum, okn3 hev⟩

/-! ### awake of the laws on numbers -/
theorem awake16_ev (v : Value) (u : Option (List AV)) : (evFn (ctx Tryd.prog (G0 ⟨some v, u⟩) (n4 ⟨some v, u⟩)) noL Tryd.f22 [] []).get = some (.bool true, []) := by kernel_rfl
noncomputable def awake16C (ev : Env) : Con where
  spec := fun args st => match args, st with | [], [] => .need ev.isSome (.ret (.bool true, [])) | _, _ => .no
  quiet := true
theorem okAwake16 (hev : EvOK ev) : Con.ok Tryd.prog (G0 ev) 22 (awake16C ev) :=
  loop_spec (okn4 hev) hm Tryd.func22 (by rfl) (by kernel_rfl) fun args st r h => by
    unfold awake16C at h
    dsimp only at h
    split at h
    · obtain ⟨h1, h2⟩ := need_get h
      obtain ⟨err, u⟩ := ev
      obtain ⟨v, hv⟩ := Option.isSome_iff_exists.1 (show err.isSome = true from h1)
      subst hv
      refine ⟨noL, noL_ok, ?_⟩
      rw [awake16_ev, ← ret_get h2]
    · exact (no_get h).elim
noncomputable def n5 (ev : Env) : List (Nat × Con) := (22, awake16C ev) :: n4 ev
theorem okn5 (hev : EvOK ev) : AllOK Tryd.prog (G0 ev) (n5 ev) := ⟨okAwake16 hev, okn4 hev⟩
end Go.Proofs.YtpiphiieflnabaaDoor
