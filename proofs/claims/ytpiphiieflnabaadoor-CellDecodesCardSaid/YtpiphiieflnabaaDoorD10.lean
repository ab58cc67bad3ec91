/- Decimal numerals: their form, value, order, print and parse, in plain Lean. Conditions: none. -/
import Derived.Lib.ParseIntBTie
import Derived.Lib.ItoaNum
namespace Go.Proofs.YtpiphiieflnabaaDoor

def dv (c : UInt8) : Nat := c.toNat - 48
def isD (c : UInt8) : Bool := decide (48 ≤ c.toNat) && decide (c.toNat ≤ 57)
def valF (acc : Nat) : List UInt8 → Nat
  | [] => acc
  | c :: r => valF (acc * 10 + dv c) r
/-- Digits, the first one not 0. -/
def nz : List UInt8 → Bool
  | [] => false
  | c :: r => !decide (c = 48) && (c :: r).all isD
/-- A text of the form of a number. -/
def form : List UInt8 → Bool
  | 45 :: ds => nz ds
  | ds => decide (ds = [48]) || nz ds
/-- The number that a text is. -/
def numV : List UInt8 → Int
  | 45 :: ds => -(valF 0 ds : Int)
  | ds => (valF 0 ds : Int)

theorem isD_iff {c : UInt8} : isD c = true ↔ 48 ≤ c.toNat ∧ c.toNat ≤ 57 := by unfold isD; simp
theorem dv_lt {c : UInt8} (h : isD c = true) : dv c < 10 := by rw [isD_iff] at h; unfold dv; omega
theorem ofNat_dv {c : UInt8} (h : isD c = true) : UInt8.ofNat (48 + dv c) = c := by
  rw [isD_iff] at h; unfold dv
  rw [show 48 + (c.toNat - 48) = c.toNat by omega]; exact UInt8.ofNat_toNat
theorem dv_ofNat {k : Nat} (h : k < 10) : dv (UInt8.ofNat (48 + k)) = k := by
  unfold dv; rw [UInt8.toNat_ofNat']; omega
theorem isD_ofNat {k : Nat} (h : k < 10) : isD (UInt8.ofNat (48 + k)) = true := by
  rw [isD_iff, UInt8.toNat_ofNat']; omega
theorem valF_eq : ∀ (l : List UInt8) (acc : Nat), valF acc l = acc * 10 ^ l.length + valF 0 l
  | [], acc => by
    have e1 : valF acc [] = acc := rfl
    have e2 : valF 0 [] = 0 := rfl
    rw [e1, e2, List.length_nil, Nat.pow_zero]; omega
  | c :: r, acc => by
    have e1 : valF acc (c :: r) = valF (acc * 10 + dv c) r := rfl
    have e2 : valF 0 (c :: r) = valF (0 * 10 + dv c) r := rfl
    rw [e1, e2, valF_eq r (acc * 10 + dv c), valF_eq r (0 * 10 + dv c), List.length_cons, Nat.pow_succ, Nat.zero_mul, Nat.zero_add, Nat.add_mul]
    rw [show acc * (10 ^ r.length * 10) = acc * 10 * 10 ^ r.length by rw [Nat.mul_comm (10 ^ r.length), Nat.mul_assoc]]
    omega
theorem valF_snoc : ∀ (l : List UInt8) (acc : Nat) (c : UInt8), valF acc (l ++ [c]) = valF acc l * 10 + dv c
  | [], _, _ => rfl
  | b :: r, acc, c => valF_snoc r (acc * 10 + dv b) c
theorem valF_lt : ∀ (l : List UInt8), l.all isD = true → valF 0 l < 10 ^ l.length
  | [], _ => by
    have e2 : valF 0 [] = 0 := rfl
    rw [e2, List.length_nil, Nat.pow_zero]; omega
  | c :: r, h => by
    simp only [List.all_cons, Bool.and_eq_true] at h
    have e2 : valF 0 (c :: r) = valF (0 * 10 + dv c) r := rfl
    rw [e2, valF_eq r, List.length_cons, Nat.pow_succ]
    have h1 := valF_lt r h.2
    have h2 := dv_lt h.1
    have : (0 * 10 + dv c) * 10 ^ r.length ≤ 9 * 10 ^ r.length := Nat.mul_le_mul_right _ (by omega)
    omega
theorem valF_ge {c : UInt8} {r : List UInt8} (h : nz (c :: r) = true) : 10 ^ r.length ≤ valF 0 (c :: r) := by
  simp only [nz, Bool.and_eq_true, Bool.not_eq_true', decide_eq_false_iff_not, List.all_cons] at h
  have e2 : valF 0 (c :: r) = valF (0 * 10 + dv c) r := rfl
  rw [e2, valF_eq r]
  have h1 := isD_iff.1 h.2.1
  have : c.toNat ≠ 48 := fun e => h.1 (UInt8.toNat_inj.1 e)
  have h2 : 1 ≤ 0 * 10 + dv c := by unfold dv; omega
  have := Nat.mul_le_mul_right (10 ^ r.length) h2
  omega
theorem nz_all {ds : List UInt8} (h : nz ds = true) : ds.all isD = true := by
  cases ds with
  | nil => cases h
  | cons c r => simp only [nz, Bool.and_eq_true] at h; exact h.2
theorem valF_pos {ds : List UInt8} (h : nz ds = true) : 1 ≤ valF 0 ds := by
  cases ds with
  | nil => cases h
  | cons c r => have := valF_ge h; have := Nat.one_le_pow r.length 10 (by omega); omega

/-! ### Printing -/
theorem dec_val (u : Nat) : valF 0 (Lib.decDigits u) = u := by
  induction u using Nat.strongRecOn with
  | _ u ih =>
    rw [Lib.decDigits]
    split
    · rename_i h; show 0 * 10 + dv _ = u; rw [dv_ofNat h]; omega
    · rename_i h
      rw [valF_snoc, ih (u / 10) (by omega), dv_ofNat (by omega)]; omega
theorem dec_nz (u : Nat) (h : 1 ≤ u) : nz (Lib.decDigits u) = true := by
  induction u using Nat.strongRecOn with
  | _ u ih =>
    rw [Lib.decDigits]
    split
    · rename_i h9
      simp only [nz, List.all_cons, List.all_nil, Bool.and_true, isD_ofNat h9]
      simp only [Bool.not_eq_true', decide_eq_false_iff_not]
      intro e
      have := congrArg UInt8.toNat e
      rw [UInt8.toNat_ofNat'] at this
      simp at this; omega
    · rename_i h9
      have := ih (u / 10) (by omega) (by omega)
      cases hd : Lib.decDigits (u / 10) with
      | nil => rw [hd] at this; cases this
      | cons c r =>
        rw [hd] at this
        simp only [nz, Bool.and_eq_true, List.all_cons] at this
        simp only [List.cons_append, nz, List.all_cons, List.all_append, List.all_nil, Bool.and_true, isD_ofNat (Nat.mod_lt u (by omega : 10 > 0)), this.1, this.2.1, this.2.2]
theorem dec_of : ∀ (n : Nat) (ds : List UInt8), ds.length = n → nz ds = true → Lib.decDigits (valF 0 ds) = ds := by
  intro n
  induction n with
  | zero => intro ds hl h; rw [List.eq_nil_of_length_eq_zero hl] at h; cases h
  | succ n ih =>
    intro ds hl h
    rcases List.eq_nil_or_concat ds with rfl | ⟨init, c, rfl⟩
    · cases h
    · rw [List.concat_eq_append] at hl h ⊢
      have hc : isD c = true := by have := nz_all h; simp only [List.all_append, List.all_cons, List.all_nil, Bool.and_eq_true] at this; exact this.2.1
      have h10 := dv_lt hc
      rw [valF_snoc]
      cases init with
      | nil =>
        show Lib.decDigits (0 * 10 + dv c) = _
        rw [Lib.decDigits, dif_pos (by omega), show 0 * 10 + dv c = dv c by omega, ofNat_dv hc]; rfl
      | cons b r =>
        have hi : nz (b :: r) = true := by
          simp only [List.cons_append, nz, List.all_cons, List.all_append, Bool.and_eq_true] at h
          simp only [nz, List.all_cons, Bool.and_eq_true]
          exact ⟨h.1, h.2.1, h.2.2.1⟩
        have h1 := valF_pos hi
        rw [Lib.decDigits, dif_neg (by omega), show (valF 0 (b :: r) * 10 + dv c) / 10 = valF 0 (b :: r) by omega, show (valF 0 (b :: r) * 10 + dv c) % 10 = dv c by omega,
          ih (b :: r) (by simp at hl ⊢; omega) hi, ofNat_dv hc]
theorem no45 {ds : List UInt8} (h : nz ds = true) : ∀ r, ds ≠ 45 :: r := by
  rintro r rfl
  have := nz_all h
  simp only [List.all_cons, Bool.and_eq_true] at this
  exact absurd this.1 (by decide)
theorem form_of_nz {ds : List UInt8} (h : nz ds = true) : form ds = true := by
  unfold form
  split
  · exact absurd rfl (no45 h _)
  · rw [h]; simp
theorem numV_of_nz {ds : List UInt8} (h : nz ds = true) : numV ds = (valF 0 ds : Int) := by
  unfold numV
  split
  · exact absurd rfl (no45 h _)
  · rfl
theorem itoa_neg {n : Int} (h : n < 0) : Lib.itoa n = 45 :: Lib.decDigits n.natAbs := by unfold Lib.itoa; rw [if_pos h]
theorem itoa_pos {n : Int} (h : 0 < n) : Lib.itoa n = Lib.decDigits n.toNat := by unfold Lib.itoa; rw [if_neg (by omega)]
theorem itoa_zero : Lib.itoa 0 = [48] := by unfold Lib.itoa; rw [if_neg (by omega), Lib.decDigits]; rfl
theorem itoa_form (n : Int) : form (Lib.itoa n) = true := by
  rcases Int.lt_trichotomy n 0 with h | rfl | h
  · rw [itoa_neg h]; exact dec_nz _ (by omega)
  · rw [itoa_zero]; rfl
  · rw [itoa_pos h]; exact form_of_nz (dec_nz _ (by omega))
theorem itoa_val (n : Int) : numV (Lib.itoa n) = n := by
  rcases Int.lt_trichotomy n 0 with h | rfl | h
  · rw [itoa_neg h]; show -((valF 0 _ : Nat) : Int) = n; rw [dec_val]; omega
  · rw [itoa_zero]; rfl
  · rw [itoa_pos h, numV_of_nz (dec_nz _ (by omega)), dec_val]; omega
theorem itoa_of {s : List UInt8} (h : form s = true) : Lib.itoa (numV s) = s := by
  unfold form at h
  split at h
  · rename_i ds
    have := valF_pos h
    show Lib.itoa (-(valF 0 ds : Int)) = _
    rw [itoa_neg (by omega), show (-(valF 0 ds : Int)).natAbs = valF 0 ds by omega, dec_of _ ds rfl h]
  · rename_i ds hn
    rw [Bool.or_eq_true] at h
    rcases h with h | h
    · rw [decide_eq_true_eq] at h; subst h; exact itoa_zero
    · have := valF_pos h
      rw [numV_of_nz h, itoa_pos (by omega), Int.toNat_natCast, dec_of _ _ rfl h]
theorem numV_inj {s t : List UInt8} (hs : form s = true) (ht : form t = true) (h : numV s = numV t) : s = t := by rw [← itoa_of hs, ← itoa_of ht, h]
theorem itoa_inj {m n : Int} (h : Lib.itoa m = Lib.itoa n) : m = n := by rw [← itoa_val m, ← itoa_val n, h]
end Go.Proofs.YtpiphiieflnabaaDoor
