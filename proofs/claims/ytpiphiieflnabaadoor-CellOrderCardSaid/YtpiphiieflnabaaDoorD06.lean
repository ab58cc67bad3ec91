/- Orders: -1, 0 or 1: what a comparison is, part by part; CellOrder is true. Conditions: none. -/
import Derived.Test.YtpiphiieflnabaaDoorD05
namespace Go.Proofs.YtpiphiieflnabaaDoor
open Go Go.Abs
set_option maxRecDepth 100000
variable {ev : Option Value}

/-- A comparison that is an order. -/
structure Ord3 {α : Type} (c : α → α → Int) : Prop where
  range : ∀ x y, c x y = -1 ∨ c x y = 0 ∨ c x y = 1
  zero : ∀ x y, c x y = 0 ↔ x = y
  anti : ∀ x y, c y x = - c x y
  trans : ∀ x y z, c x y = -1 → c y z = -1 → c x z = -1

theorem Ord3.le_trans {α : Type} {c : α → α → Int} (h : Ord3 c) {x y z : α} (h1 : c x y ≤ 0) (h2 : c y z ≤ 0) : c x z ≤ 0 := by
  rcases h.range x y with e1 | e1 | e1
  · rcases h.range y z with e2 | e2 | e2
    · rw [h.trans _ _ _ e1 e2]; omega
    · obtain rfl := (h.zero _ _).1 e2; omega
    · omega
  · obtain rfl := (h.zero _ _).1 e1; exact h2
  · omega

theorem ordI_ord : Ord3 ordI := by
  have key : ∀ x y : Int, ordI x y = if x < y then -1 else if y < x then 1 else 0 := by
    intro x y; unfold ordI
    by_cases h1 : x < y <;> by_cases h2 : y < x <;> simp [h1, h2]
  refine ⟨fun x y => ?_, fun x y => ?_, fun x y => ?_, fun x y z h1 h2 => ?_⟩
  · rw [key]; split
    · simp
    · split <;> simp
  · rw [key]; split
    · omega
    · split <;> omega
  · rw [key, key]
    by_cases h1 : x < y <;> by_cases h2 : y < x <;> simp [h1, h2]
    omega
  · rw [key] at h1 h2 ⊢
    split at h1
    · split at h2
      · rw [if_pos (by omega)]
      · split at h2 <;> omega
    · split at h1 <;> omega

theorem cmpB_ord : Ord3 Lib.compareBytes := by
  refine ⟨fun x => ?_, fun x => ?_, fun x => ?_, fun x => ?_⟩
  · induction x with
    | nil => intro y; cases y <;> simp [Lib.compareBytes]
    | cons a x ih =>
      intro y
      cases y with
      | nil => simp [Lib.compareBytes]
      | cons b y =>
        unfold Lib.compareBytes; split
        · simp
        · split
          · simp
          · exact ih y
  · induction x with
    | nil => intro y; cases y <;> simp [Lib.compareBytes]
    | cons a x ih =>
      intro y
      cases y with
      | nil => simp [Lib.compareBytes]
      | cons b y =>
        unfold Lib.compareBytes
        split
        · rename_i h; simp; intro e; subst e; exact absurd h (UInt8.lt_irrefl _)
        · split
          · rename_i h; simp; intro e; subst e; exact absurd h (UInt8.lt_irrefl _)
          · rename_i h1 h2
            have : a = b := UInt8.le_antisymm (UInt8.not_lt.1 h2) (UInt8.not_lt.1 h1)
            subst this
            rw [ih y]; simp
  · induction x with
    | nil => intro y; cases y <;> simp [Lib.compareBytes]
    | cons a x ih =>
      intro y
      cases y with
      | nil => simp [Lib.compareBytes]
      | cons b y =>
        unfold Lib.compareBytes
        by_cases h1 : a < b
        · have h2 : ¬ b < a := UInt8.not_lt.2 (UInt8.le_of_lt h1)
          simp [h1, h2]
        · by_cases h2 : b < a
          · simp [h1, h2]
          · simp [h1, h2, ih y]
  · induction x with
    | nil =>
      intro y z h1 h2
      cases z with
      | nil => cases y <;> simp [Lib.compareBytes] at h1 h2
      | cons c z => simp [Lib.compareBytes]
    | cons a x ih =>
      intro y z h1 h2
      cases y with
      | nil => simp [Lib.compareBytes] at h1
      | cons b y =>
        cases z with
        | nil => simp [Lib.compareBytes] at h2
        | cons c z =>
          unfold Lib.compareBytes at h1 h2 ⊢
          by_cases hab : a < b
          · by_cases hbc : b < c
            · rw [if_pos (UInt8.lt_trans hab hbc)]
            · by_cases hcb : c < b
              · rw [if_neg hbc, if_pos hcb] at h2; omega
              · have : b = c := UInt8.le_antisymm (UInt8.not_lt.1 hcb) (UInt8.not_lt.1 hbc)
                subst this; rw [if_pos hab]
          · by_cases hba : b < a
            · rw [if_neg hab, if_pos hba] at h1; omega
            · have : a = b := UInt8.le_antisymm (UInt8.not_lt.1 hba) (UInt8.not_lt.1 hab)
              subst this
              rw [if_neg hab, if_neg hab] at h1
              by_cases hbc : a < c
              · rw [if_pos hbc]
              · by_cases hcb : c < a
                · rw [if_neg hbc, if_pos hcb] at h2; omega
                · rw [if_neg hbc, if_neg hcb] at h2 ⊢; exact ih y z h1 h2

def cmpT (b b' : Bool) : Int := cond (!(b == b')) (cond b 1 (-1)) 0
theorem cmpT_ord : Ord3 cmpT := by
  refine ⟨?_, ?_, ?_, ?_⟩ <;> decide

/-- One comparison, and another one where that tells nothing. -/
def lex {α β : Type} (c : α → α → Int) (d : β → β → Int) (x y : α × β) : Int := if c x.1 y.1 = 0 then d x.2 y.2 else c x.1 y.1
theorem lex_ord {α β : Type} {c : α → α → Int} {d : β → β → Int} (hc : Ord3 c) (hd : Ord3 d) : Ord3 (lex c d) := by
  refine ⟨fun x y => ?_, fun x y => ?_, fun x y => ?_, fun x y z h1 h2 => ?_⟩
  · unfold lex; split
    · exact hd.range _ _
    · exact hc.range _ _
  · unfold lex
    split
    · rename_i h
      rw [hd.zero]
      have := (hc.zero _ _).1 h
      constructor
      · intro h2; exact Prod.ext this h2
      · intro e; rw [e]
    · rename_i h
      constructor
      · intro h2; exact absurd h2 h
      · intro e; subst e; exact absurd ((hc.zero _ _).2 rfl) h
  · unfold lex
    rw [hc.anti x.1 y.1]
    by_cases h : c x.1 y.1 = 0
    · rw [if_pos h, if_pos (by omega), hd.anti]
    · rw [if_neg h, if_neg (by omega)]
  · unfold lex at h1 h2 ⊢
    by_cases e1 : c x.1 y.1 = 0
    · rw [if_pos e1] at h1
      have g1 := (hc.zero _ _).1 e1
      rw [g1]
      by_cases e2 : c y.1 z.1 = 0
      · rw [if_pos e2] at h2 ⊢; exact hd.trans _ _ _ h1 h2
      · rw [if_neg e2] at h2 ⊢; exact h2
    · rw [if_neg e1] at h1
      by_cases e2 : c y.1 z.1 = 0
      · have g2 := (hc.zero _ _).1 e2
        rw [← g2, if_neg e1]; exact h1
      · rw [if_neg e2] at h2
        have := hc.trans _ _ _ h1 h2
        rw [if_neg (by omega)]; exact this

def cmpVal : Val → Val → Int := lex ordI (lex Lib.compareBytes (lex ordI cmpT))
theorem cmpVal_ord : Ord3 cmpVal := lex_ord ordI_ord (lex_ord cmpB_ord (lex_ord ordI_ord cmpT_ord))
theorem cmpV_eq (k n : Int) (s : List UInt8) (b : Bool) (k' n' : Int) (s' : List UInt8) (b' : Bool) : cmpV k s n b k' s' n' b' = cmpVal (k, s, n, b) (k', s', n', b') := by
  unfold cmpV or4 cmpVal lex cmpT
  by_cases h1 : ordI k k' = 0 <;> by_cases h2 : Lib.compareBytes s s' = 0 <;> by_cases h3 : ordI n n' = 0 <;> simp [h1, h2, h3]
theorem less_ord {α : Type} {c : α → α → Int} (hc : Ord3 c) {x y : α} (hne : x ≠ y) (b : Bool) (hb : b = true ↔ c x y = -1) : lessR b = c x y := by
  have h0 : c x y ≠ 0 := fun h => hne ((hc.zero _ _).1 h)
  rcases hc.range x y with e | e | e
  · rw [e, hb.2 e]; rfl
  · exact absurd e h0
  · rw [e]
    cases b with
    | false => rfl
    | true => have := hb.1 rfl; omega
theorem ordI_less (x y : Int) : decide (x < y) = true ↔ ordI x y = -1 := by
  unfold ordI
  by_cases h1 : x < y <;> by_cases h2 : y < x <;> simp [h1, h2]
theorem bytes_less (s s' : List UInt8) : Op.bytesLess s s' = true ↔ Lib.compareBytes s s' = -1 := by
  induction s generalizing s' with
  | nil => cases s' <;> simp [Op.bytesLess, Lib.compareBytes]
  | cons a s ih =>
    cases s' with
    | nil => simp [Op.bytesLess, Lib.compareBytes]
    | cons b s' =>
      unfold Lib.compareBytes
      by_cases h1 : a < b
      · simp [Op.bytesLess, h1]
      · by_cases h2 : b < a
        · have : ¬ a = b := fun e => h1 (by rw [e] at h2; exact absurd h2 (UInt8.lt_irrefl _))
          simp [Op.bytesLess, h1, h2, this]
        · have : a = b := UInt8.le_antisymm (UInt8.not_lt.1 h2) (UInt8.not_lt.1 h1)
          subst this
          simp [Op.bytesLess, h1, ih]
theorem rcmp_eq (k n : Int) (s : List UInt8) (b : Bool) (k' n' : Int) (s' : List UInt8) (b' : Bool) : rcmpR k s n (b2i b) k' s' n' (b2i b') = cmpVal (k, s, n, b) (k', s', n', b') := by
  unfold rcmpR cmpVal lex
  dsimp only
  by_cases h1 : k = k'
  · rw [decide_eq_true h1, if_pos ((ordI_ord.zero _ _).2 h1)]
    simp only [Bool.not_true, cond_false]
    by_cases h2 : s = s'
    · rw [decide_eq_true h2, if_pos ((cmpB_ord.zero _ _).2 h2)]
      simp only [Bool.not_true, cond_false]
      by_cases h3 : n = n'
      · rw [decide_eq_true h3, if_pos ((ordI_ord.zero _ _).2 h3)]
        simp only [Bool.not_true, cond_false]
        cases b <;> cases b' <;> rfl
      · rw [decide_eq_false h3, if_neg (fun e => h3 ((ordI_ord.zero _ _).1 e))]
        simp only [Bool.not_false, cond_true]
        exact less_ord ordI_ord h3 _ (ordI_less _ _)
    · rw [decide_eq_false h2, if_neg (fun e => h2 ((cmpB_ord.zero _ _).1 e))]
      simp only [Bool.not_false, cond_true]
      exact less_ord cmpB_ord h2 _ (bytes_less _ _)
  · rw [decide_eq_false h1, if_neg (fun e => h1 ((ordI_ord.zero _ _).1 e))]
    simp only [Bool.not_false, cond_true]
    exact less_ord ordI_ord h1 _ (ordI_less _ _)

theorem chk_true (k : Int) (s : List UInt8) (n : Int) (b : Bool) (next : Option (AV × Store)) (h : next = bo true) : chkV k s n b next = bo true := by
  unfold chkV
  by_cases hl : (200 : Int) < (s.length : Int)
  · rw [decide_eq_true hl]; rfl
  · rw [decide_eq_false hl, decide_eq_true (show s.length ≤ LIM by unfold LIM; omega), h]
    cases rightR k s n (b2i b) <;> rfl
theorem order_true (k n : Int) (s : List UInt8) (b : Bool) (k' n' : Int) (s' : List UInt8) (b' : Bool) (k2 n2 : Int) (s2 : List UInt8) (b2 : Bool) :
    (evFn (ctx Tryd.prog (G0 ev) p5) (LO ev) Tryd.f5 [.agg [.int .i64 k, .str s, .int .i64 n, .bool b], .agg [.int .i64 k', .str s', .int .i64 n', .bool b'], .agg [.int .i64 k2, .str s2, .int .i64 n2, .bool b2]] []).get = some (.bool true, []) := by
  rw [order_ev]
  refine chk_true _ _ _ _ _ (chk_true _ _ _ _ _ (chk_true _ _ _ _ _ ?_))
  simp only [cmpV_eq, rcmp_eq]
  have hO := cmpVal_ord
  generalize hA : (k, s, n, b) = A
  generalize hB : (k', s', n', b') = B
  generalize hC : (k2, s2, n2, b2) = C
  have hw : IntKind.i64.wrap (0 - cmpVal A B) = cmpVal B A := by
    rw [hO.anti A B]
    rcases hO.range A B with e | e | e <;> rw [e] <;> rfl
  have he : (decide (cmpVal A B = 0) == (decide (k = k') && (decide (s = s') && (decide (n = n') && ((b == b') && true))))) = true := by
    rw [beq_iff_eq, Bool.eq_iff_iff]
    simp only [decide_eq_true_eq, hO.zero, Bool.and_eq_true, beq_iff_eq, and_true]
    subst hA; subst hB
    simp
  rw [hw, he, decide_eq_true (rfl : cmpVal B A = cmpVal B A)]
  simp only [decide_true, Bool.not_true, cond_false]
  by_cases h1 : 0 < cmpVal A B
  · rw [decide_eq_true h1]; rfl
  · rw [decide_eq_false h1]
    by_cases h2 : 0 < cmpVal B C
    · rw [decide_eq_true h2]; rfl
    · rw [decide_eq_false h2, decide_eq_true (hO.le_trans (by omega : cmpVal A B ≤ 0) (by omega : cmpVal B C ≤ 0))]; rfl
end Go.Proofs.YtpiphiieflnabaaDoor
