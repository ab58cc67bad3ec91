/- Decimal numerals: which is less; what strconv's parse makes of one. Conditions: none. -/
import Derived.Test.YtpiphiieflnabaaDoorD10
namespace Go.Proofs.YtpiphiieflnabaaDoor

/-- A text without a minus, and whether it has one. -/
def cutM : List UInt8 → List UInt8 × Bool
  | 45 :: r => (r, true)
  | s => (s, false)
def shl (x y : List UInt8) : Bool := decide (x.length < y.length) || (decide (x.length = y.length) && Op.bytesLess x y)
def lessS (a b : List UInt8) : Bool :=
  cond (!((cutM a).2 == (cutM b).2)) (cutM a).2 (cond (cutM a).2 (shl (cutM b).1 (cutM a).1) (shl (cutM a).1 (cutM b).1))
def lessN (a b : List UInt8) : Bool := form a && (form b && lessS a b)

theorem bytes_val : ∀ (x y : List UInt8), x.all isD = true → y.all isD = true → x.length = y.length → (Op.bytesLess x y = true ↔ valF 0 x < valF 0 y)
  | [], [], _, _, _ => by simp [Op.bytesLess]
  | [], _ :: _, _, _, h => by simp at h
  | _ :: _, [], _, _, h => by simp at h
  | a :: x, b :: y, hx, hy, hl => by
    simp only [List.all_cons, Bool.and_eq_true] at hx hy
    simp only [List.length_cons, Nat.add_right_cancel_iff] at hl
    have ih := bytes_val x y hx.2 hy.2 hl
    have e1 : valF 0 (a :: x) = valF (0 * 10 + dv a) x := rfl
    have e2 : valF 0 (b :: y) = valF (0 * 10 + dv b) y := rfl
    have hxl := valF_lt x hx.2
    have hyl := valF_lt y hy.2
    rw [e1, e2, valF_eq x, valF_eq y, hl]
    rw [hl] at hxl
    generalize 10 ^ y.length = p at *
    generalize valF 0 x = u at *
    generalize valF 0 y = v at *
    have ha := isD_iff.1 hx.1
    have hb := isD_iff.1 hy.1
    simp only [Nat.zero_mul, Nat.zero_add]
    by_cases h1 : a < b
    · have hlt : dv a + 1 ≤ dv b := by have := UInt8.lt_iff_toNat_lt.1 h1; unfold dv; omega
      have := Nat.mul_le_mul_right p hlt
      rw [Nat.add_mul, Nat.one_mul] at this
      simp only [Op.bytesLess, h1, decide_true, Bool.true_or, true_iff]; omega
    · by_cases h2 : a = b
      · subst h2
        simp only [Op.bytesLess, h1, decide_false, Bool.false_or, beq_self_eq_true, Bool.true_and, ih]; omega
      · have h3 : b < a := by
          rw [UInt8.lt_iff_toNat_lt] at h1 ⊢
          have : a.toNat ≠ b.toNat := fun e => h2 (UInt8.toNat_inj.1 e)
          omega
        have hlt : dv b + 1 ≤ dv a := by have := UInt8.lt_iff_toNat_lt.1 h3; unfold dv; omega
        have := Nat.mul_le_mul_right p hlt
        rw [Nat.add_mul, Nat.one_mul] at this
        simp only [Op.bytesLess, h1, decide_false, Bool.false_or, show (a == b) = false by simpa using h2, Bool.false_and, Bool.false_eq_true, false_iff]; omega

/-- Digits as a number has them: 0 alone, or the first one not 0. -/
def okD (ds : List UInt8) : Prop := ds = [48] ∨ nz ds = true
theorem okD_all {ds : List UInt8} (h : okD ds) : ds.all isD = true := by
  rcases h with rfl | h
  · decide
  · exact nz_all h
theorem shl_val {x y : List UInt8} (hx : okD x) (hy : okD y) : shl x y = decide (valF 0 x < valF 0 y) := by
  have ax := okD_all hx
  have ay := okD_all hy
  have key : ∀ {u v : List UInt8}, okD u → okD v → u.length < v.length → valF 0 u < valF 0 v := by
    intro u v hu hv hl
    have h1 := valF_lt u (okD_all hu)
    rcases hv with rfl | hv
    · cases u with
      | nil => rcases hu with hu | hu <;> cases hu
      | cons c r => simp at hl
    · cases v with
      | nil => cases hv
      | cons c r =>
        have h2 := valF_ge hv
        have h3 : 10 ^ u.length ≤ 10 ^ r.length := Nat.pow_le_pow_right (by omega) (by simp at hl; omega)
        omega
  unfold shl
  rw [Bool.eq_iff_iff]
  simp only [Bool.or_eq_true, Bool.and_eq_true, decide_eq_true_eq]
  rcases Nat.lt_trichotomy x.length y.length with h | h | h
  · have := key hx hy h; simp [h, this]
  · have := bytes_val x y ax ay h; simp [h, this]
  · have := key hy hx h
    constructor
    · rintro (h1 | ⟨h1, -⟩) <;> omega
    · intro h1; omega
theorem form_cut {s : List UInt8} (h : form s = true) : okD (cutM s).1 ∧ ((cutM s).2 = true → 1 ≤ valF 0 (cutM s).1) ∧ numV s = cond (cutM s).2 (-(valF 0 (cutM s).1 : Int)) (valF 0 (cutM s).1 : Int) := by
  unfold form at h
  unfold cutM numV
  split at h
  · exact ⟨.inr h, fun _ => valF_pos h, rfl⟩
  · rename_i ds hn
    rw [Bool.or_eq_true, decide_eq_true_eq] at h
    split
    · exact absurd rfl (hn _)
    · refine ⟨h, (fun h => by cases h), ?_⟩
      rfl
theorem lessS_val {a b : List UInt8} (ha : form a = true) (hb : form b = true) : lessS a b = decide (numV a < numV b) := by
  obtain ⟨a1, a2, a3⟩ := form_cut ha
  obtain ⟨b1, b2, b3⟩ := form_cut hb
  unfold lessS
  rw [a3, b3]
  cases h1 : (cutM a).2 <;> cases h2 : (cutM b).2
  · simp only [beq_self_eq_true, Bool.not_true, cond_false]
    rw [shl_val a1 b1, Bool.eq_iff_iff]; simp only [decide_eq_true_eq]; omega
  · have := b2 h2
    simp only [cond_false, cond_true, show (!(false == true)) = true from rfl]
    rw [decide_eq_false]; omega
  · have := a2 h1
    simp only [cond_false, cond_true, show (!(true == false)) = true from rfl]
    rw [decide_eq_true]; omega
  · simp only [beq_self_eq_true, Bool.not_true, cond_false, cond_true]
    rw [shl_val b1 a1, Bool.eq_iff_iff]; simp only [decide_eq_true_eq]; omega

/-! ### Parsing -/
theorem valF_mono (acc : Nat) (l : List UInt8) : acc ≤ valF acc l := by
  rw [valF_eq]
  have := Nat.mul_le_mul_left acc (Nat.one_le_pow l.length 10 (by omega))
  omega
theorem parseM (M : Nat) (hM : M ≤ 18446744073709551615) : ∀ (l : List UInt8) (acc : Nat), l.all isD = true → acc ≤ M → Lib.parseUintM M acc l = if valF acc l ≤ M then .ok (valF acc l) else .range
  | [], acc, _, h => by
    have e : valF acc [] = acc := rfl
    rw [e, if_pos h]; rfl
  | c :: r, acc, hd, h => by
    simp only [List.all_cons, Bool.and_eq_true] at hd
    have hc := isD_iff.1 hd.1
    have e : valF acc (c :: r) = valF (acc * 10 + dv c) r := rfl
    have hm := valF_mono (acc * 10 + dv c) r
    unfold Lib.parseUintM
    rw [if_pos hc, e]
    split
    · rw [if_neg (by omega)]
    · split
      · rename_i h1; rw [if_neg (by unfold dv at hm; unfold dv; omega)]
      · rename_i h1; exact parseM M hM r _ hd.2 (by omega)
theorem parse_form {s : List UInt8} (h : form s = true) : Lib.parseIntB 64 s = if -9223372036854775808 ≤ numV s ∧ numV s ≤ 9223372036854775807 then .ok (numV s) else .range := by
  obtain ⟨h1, h2, h3⟩ := form_cut h
  have hp : ∀ ds : List UInt8, okD ds → Lib.parseUintB 64 ds = if valF 0 ds ≤ 18446744073709551615 then .ok (valF 0 ds) else .range := by
    intro ds hd
    unfold Lib.parseUintB
    rw [if_neg (by rintro rfl; rcases hd with hd | hd <;> cases hd)]
    exact parseM _ (by omega) ds 0 (okD_all hd) (by omega)
  cases s with
  | nil => cases h
  | cons c r =>
    by_cases hc : c = 45
    · subst hc
      have e1 : cutM (45 :: r) = (r, true) := rfl
      rw [e1] at h1 h2 h3
      rw [h3]
      simp only [cond_true]
      dsimp only at h1 h2
      have e2 : Lib.parseIntB 64 (45 :: r) = match Lib.parseUintB 64 r with | .syntax => .syntax | .range => .range | .ok u => if 9223372036854775808 < u then .range else .ok (-(u : Int)) := by
        unfold Lib.parseIntB
        simp only [show (45 : UInt8).toNat = 45 from rfl, or_true, if_true, not_true_eq_false, false_and, if_false, true_and]
        rfl
      rw [e2, hp r h1]
      by_cases h4 : valF 0 r ≤ 18446744073709551615
      · rw [if_pos h4]
        dsimp only
        by_cases h5 : 9223372036854775808 < valF 0 r
        · rw [if_pos h5, if_neg (by omega)]
        · rw [if_neg h5, if_pos (by omega)]
      · rw [if_neg h4, if_neg (by omega)]
    · have e1 : cutM (c :: r) = (c :: r, false) := by
        unfold cutM
        split
        · rename_i h; cases h; exact absurd rfl hc
        · rfl
      rw [e1] at h1 h2 h3
      rw [h3]
      simp only [cond_false]
      dsimp only at h1 h2
      have hd := okD_all h1
      simp only [List.all_cons, Bool.and_eq_true] at hd
      have hcd := isD_iff.1 hd.1
      have e2 : Lib.parseIntB 64 (c :: r) = match Lib.parseUintB 64 (c :: r) with | .syntax => .syntax | .range => .range | .ok u => if 9223372036854775808 ≤ u then .range else .ok (u : Int) := by
        unfold Lib.parseIntB
        have n1 : ¬ c.toNat = 45 := by omega
        have n2 : ¬ c.toNat = 43 := by omega
        simp only [n1, n2, or_self, if_false, not_false_eq_true, true_and, false_and]
        rfl
      rw [e2, hp (c :: r) h1]
      by_cases h4 : valF 0 (c :: r) ≤ 18446744073709551615
      · rw [if_pos h4]
        dsimp only
        by_cases h5 : 9223372036854775808 ≤ valF 0 (c :: r)
        · rw [if_pos h5, if_neg (by omega)]
        · rw [if_neg h5, if_pos (by omega)]
      · rw [if_neg h4, if_neg (by omega)]
end Go.Proofs.YtpiphiieflnabaaDoor
