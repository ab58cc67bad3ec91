/- UTF-8: by code points and byte by byte a text is well formed alike. Conditions: none. -/
import Derived.Test.YtpiphiieflnabaaDoorD26
import Derived.Test.YtpiphiieflnabaaDoorD14
namespace Go.Proofs.YtpiphiieflnabaaDoor
open Go Go.Abs
set_option maxRecDepth 100000

theorem u8w_eq {x : Int} {a : UInt8} (h0 : 0 ≤ x) (h : x < 256) : u8w x = a ↔ x = (a.toNat : Int) := by
  rw [u8w_ofNat h0 h]
  constructor
  · rintro rfl; rw [UInt8.toNat_ofNat']; omega
  · intro e
    have : x.toNat = a.toNat := by omega
    rw [this]; exact UInt8.ofNat_toNat
theorem lt256 (a : UInt8) : a.toNat < 256 := a.toNat_lt
theorem tdiv_nn {c k : Int} (h : 0 ≤ c) : c.tdiv k = c / k := Int.tdiv_eq_ediv_of_nonneg h
theorem tmod_nn {c k : Int} (h : 0 ≤ c) : c.tmod k = c % k := Int.tmod_eq_emod_of_nonneg h
/-- The bytes of a code point, without the wrapping. -/
theorem putL_eq {c : Int} (h0 : 0 ≤ c) (h : c ≤ 1114111) : putL c =
    if c < 128 then [u8w c] else if c < 2048 then [u8w (192 + c / 64), u8w (128 + c % 64)] else if c < 65536 then [u8w (224 + c / 4096), u8w (128 + c / 64 % 64), u8w (128 + c % 64)]
      else [u8w (240 + c / 262144), u8w (128 + c / 4096 % 64), u8w (128 + c / 64 % 64), u8w (128 + c % 64)] := by
  unfold putL
  rw [tdiv_nn h0, tdiv_nn h0, tdiv_nn h0, tmod_nn h0, w64 (n := c / 64) (by omega) (by omega), w64 (n := c / 4096) (by omega) (by omega), w64 (n := c / 262144) (by omega) (by omega),
    tmod_nn (by omega : 0 ≤ c / 64), tmod_nn (by omega : 0 ≤ c / 4096), w64 (n := 192 + c / 64) (by omega) (by omega), w64 (n := 128 + c % 64) (by omega) (by omega), w64 (n := 224 + c / 4096) (by omega) (by omega),
    w64 (n := 128 + c / 64 % 64) (by omega) (by omega), w64 (n := 240 + c / 262144) (by omega) (by omega), w64 (n := 128 + c / 4096 % 64) (by omega) (by omega)]
  by_cases h1 : c < 128
  · rw [decide_eq_true h1, if_pos h1]; rfl
  · rw [decide_eq_false h1, if_neg h1]
    by_cases h2 : c < 2048
    · rw [decide_eq_true h2, if_pos h2]; rfl
    · rw [decide_eq_false h2, if_neg h2]
      by_cases h3 : c < 65536
      · rw [decide_eq_true h3, if_pos h3]; rfl
      · rw [decide_eq_false h3, if_neg h3]; rfl
theorem okP_iff {c : Int} {n : Nat} {s : List UInt8} : okP c n s = true ↔ 0 ≤ c ∧ c ≤ 1114111 ∧ (c < 55296 ∨ 57343 < c) ∧ putL c = s.take n := by
  unfold okP; simp
theorem ok1 (a : UInt8) (r : List UInt8) : okP (W64 (bI a)) 1 (a :: r) = true ↔ a.toNat < 128 := by
  have ha := lt256 a
  rw [okP_iff, show W64 (bI a) = (a.toNat : Int) from w64 (by show _ ≤ (a.toNat : Int); omega) (by show (a.toNat : Int) < _; omega)]
  constructor
  · rintro ⟨h0, h1, -, h3⟩
    rw [putL_eq h0 h1] at h3
    split at h3
    · omega
    · split at h3
      · simp at h3
      · split at h3 <;> simp at h3
  · intro h
    refine ⟨by omega, by omega, .inl (by omega), ?_⟩
    rw [putL_eq (by omega) (by omega), if_pos (by omega), (u8w_eq (a := a) (by omega) (by omega)).2 rfl]; rfl
theorem ok2 (a b : UInt8) (r : List UInt8) : okP (cp2 a b) 2 (a :: b :: r) = true ↔ (194 ≤ a.toNat ∧ a.toNat ≤ 223) ∧ 128 ≤ b.toNat ∧ b.toNat ≤ 191 := by
  have ha := lt256 a
  have hb := lt256 b
  have hc : cp2 a b = ((a.toNat : Int) - 192) * 64 + (b.toNat : Int) - 128 := by
    unfold cp2 W64 bI
    rw [w64 (n := (a.toNat : Int)) (by omega) (by omega), w64 (n := (b.toNat : Int)) (by omega) (by omega), w64 (n := (a.toNat : Int) - 192) (by omega) (by omega), w64 (n := ((a.toNat : Int) - 192) * 64) (by omega) (by omega), w64 (n := ((a.toNat : Int) - 192) * 64 + (b.toNat : Int)) (by omega) (by omega)]
    exact w64 (by omega) (by omega)
  rw [okP_iff, hc]
  generalize hcc : ((a.toNat : Int) - 192) * 64 + (b.toNat : Int) - 128 = c
  constructor
  · rintro ⟨h0, h1, -, h3⟩
    rw [putL_eq h0 h1] at h3
    split at h3
    · simp at h3
    · split at h3
      · simp only [List.take, List.cons.injEq, and_true] at h3
        have e1 := (u8w_eq (by omega) (by omega)).1 h3.1
        have e2 := (u8w_eq (by omega) (by omega)).1 h3.2
        omega
      · split at h3 <;> simp at h3
  · intro h
    refine ⟨by omega, by omega, .inl (by omega), ?_⟩
    rw [putL_eq (by omega) (by omega), if_neg (by omega), if_pos (by omega), (u8w_eq (a := a) (by omega) (by omega)).2 (by omega), (u8w_eq (a := b) (by omega) (by omega)).2 (by omega)]; rfl
theorem ok3 (a b d : UInt8) (r : List UInt8) : okP (cp3 a b d) 3 (a :: b :: d :: r) = true ↔ (224 ≤ a.toNat ∧ a.toNat ≤ 239) ∧ (128 ≤ b.toNat ∧ b.toNat ≤ 191) ∧ (128 ≤ d.toNat ∧ d.toNat ≤ 191) ∧ (a.toNat = 224 → 160 ≤ b.toNat) ∧ (a.toNat = 237 → b.toNat ≤ 159) := by
  have ha := lt256 a
  have hb := lt256 b
  have hd := lt256 d
  have hc : cp3 a b d = ((a.toNat : Int) - 224) * 4096 + ((b.toNat : Int) - 128) * 64 + (d.toNat : Int) - 128 := by
    unfold cp3 W64 bI
    rw [w64 (n := (a.toNat : Int)) (by omega) (by omega), w64 (n := (b.toNat : Int)) (by omega) (by omega), w64 (n := (d.toNat : Int)) (by omega) (by omega), w64 (n := (a.toNat : Int) - 224) (by omega) (by omega), w64 (n := ((a.toNat : Int) - 224) * 4096) (by omega) (by omega),
      w64 (n := (b.toNat : Int) - 128) (by omega) (by omega), w64 (n := ((b.toNat : Int) - 128) * 64) (by omega) (by omega), w64 (n := ((a.toNat : Int) - 224) * 4096 + ((b.toNat : Int) - 128) * 64) (by omega) (by omega), w64 (n := ((a.toNat : Int) - 224) * 4096 + ((b.toNat : Int) - 128) * 64 + (d.toNat : Int)) (by omega) (by omega)]
    exact w64 (by omega) (by omega)
  rw [okP_iff, hc]
  generalize hcc : ((a.toNat : Int) - 224) * 4096 + ((b.toNat : Int) - 128) * 64 + (d.toNat : Int) - 128 = c
  constructor
  · rintro ⟨h0, h1, h2, h3⟩
    rw [putL_eq h0 h1] at h3
    split at h3
    · simp at h3
    · split at h3
      · simp at h3
      · split at h3
        · simp only [List.take, List.cons.injEq, and_true] at h3
          have e1 := (u8w_eq (by omega) (by omega)).1 h3.1
          have e2 := (u8w_eq (by omega) (by omega)).1 h3.2.1
          have e3 := (u8w_eq (by omega) (by omega)).1 h3.2.2
          omega
        · simp at h3
  · intro h
    refine ⟨by omega, by omega, by omega, ?_⟩
    rw [putL_eq (by omega) (by omega), if_neg (by omega), if_neg (by omega), if_pos (by omega), (u8w_eq (a := a) (by omega) (by omega)).2 (by omega), (u8w_eq (a := b) (by omega) (by omega)).2 (by omega), (u8w_eq (a := d) (by omega) (by omega)).2 (by omega)]; rfl
theorem ok4 (a b d f : UInt8) (r : List UInt8) : okP (cp4 a b d f) 4 (a :: b :: d :: f :: r) = true ↔
    (240 ≤ a.toNat ∧ a.toNat ≤ 244) ∧ (128 ≤ b.toNat ∧ b.toNat ≤ 191) ∧ (128 ≤ d.toNat ∧ d.toNat ≤ 191) ∧ (128 ≤ f.toNat ∧ f.toNat ≤ 191) ∧ (a.toNat = 240 → 144 ≤ b.toNat) ∧ (a.toNat = 244 → b.toNat ≤ 143) := by
  have ha := lt256 a
  have hb := lt256 b
  have hd := lt256 d
  have hf := lt256 f
  have hc : cp4 a b d f = ((a.toNat : Int) - 240) * 262144 + ((b.toNat : Int) - 128) * 4096 + ((d.toNat : Int) - 128) * 64 + (f.toNat : Int) - 128 := by
    unfold cp4 W64 bI
    rw [w64 (n := (a.toNat : Int)) (by omega) (by omega), w64 (n := (b.toNat : Int)) (by omega) (by omega), w64 (n := (d.toNat : Int)) (by omega) (by omega), w64 (n := (f.toNat : Int)) (by omega) (by omega), w64 (n := (a.toNat : Int) - 240) (by omega) (by omega), w64 (n := ((a.toNat : Int) - 240) * 262144) (by omega) (by omega),
      w64 (n := (b.toNat : Int) - 128) (by omega) (by omega), w64 (n := ((b.toNat : Int) - 128) * 4096) (by omega) (by omega), w64 (n := (d.toNat : Int) - 128) (by omega) (by omega), w64 (n := ((d.toNat : Int) - 128) * 64) (by omega) (by omega),
      w64 (n := ((a.toNat : Int) - 240) * 262144 + ((b.toNat : Int) - 128) * 4096) (by omega) (by omega), w64 (n := ((a.toNat : Int) - 240) * 262144 + ((b.toNat : Int) - 128) * 4096 + ((d.toNat : Int) - 128) * 64) (by omega) (by omega),
      w64 (n := ((a.toNat : Int) - 240) * 262144 + ((b.toNat : Int) - 128) * 4096 + ((d.toNat : Int) - 128) * 64 + (f.toNat : Int)) (by omega) (by omega)]
    exact w64 (by omega) (by omega)
  rw [okP_iff, hc]
  generalize hcc : ((a.toNat : Int) - 240) * 262144 + ((b.toNat : Int) - 128) * 4096 + ((d.toNat : Int) - 128) * 64 + (f.toNat : Int) - 128 = c
  constructor
  · rintro ⟨h0, h1, h2, h3⟩
    rw [putL_eq h0 h1] at h3
    split at h3
    · simp at h3
    · split at h3
      · simp at h3
      · split at h3
        · simp at h3
        · simp only [List.take, List.cons.injEq, and_true] at h3
          have e1 := (u8w_eq (by omega) (by omega)).1 h3.1
          have e2 := (u8w_eq (by omega) (by omega)).1 h3.2.1
          have e3 := (u8w_eq (by omega) (by omega)).1 h3.2.2.1
          have e4 := (u8w_eq (by omega) (by omega)).1 h3.2.2.2
          omega
  · intro h
    refine ⟨by omega, by omega, by omega, ?_⟩
    rw [putL_eq (by omega) (by omega), if_neg (by omega), if_neg (by omega), if_neg (by omega), (u8w_eq (a := a) (by omega) (by omega)).2 (by omega), (u8w_eq (a := b) (by omega) (by omega)).2 (by omega), (u8w_eq (a := d) (by omega) (by omega)).2 (by omega), (u8w_eq (a := f) (by omega) (by omega)).2 (by omega)]; rfl

/-! ### Byte by byte -/
theorem utf0 (a : UInt8) : utfP 0 (bI a) = if a.toNat < 128 then some 0 else if a.toNat < 194 then none else if a.toNat ≤ 223 then some 1 else if a.toNat = 224 then some 4 else if a.toNat ≤ 236 then some 2 else if a.toNat = 237 then some 5 else if a.toNat ≤ 239 then some 2
    else if a.toNat = 240 then some 6 else if a.toNat ≤ 243 then some 3 else if a.toNat = 244 then some 7 else none := by
  have ha := lt256 a
  show spanGo (a.toNat : Int) [(0, 127, 0), (194, 223, 1), (224, 224, 4), (225, 236, 2), (237, 237, 5), (238, 239, 2), (240, 240, 6), (241, 243, 3), (244, 244, 7)] = _
  generalize a.toNat = n at *
  simp only [spanGo]
  by_cases h1 : n < 128
  · rw [if_pos h1, decide_eq_true (by omega : (0 : Int) ≤ n), decide_eq_true (by omega : (n : Int) ≤ 127)]; rfl
  · rw [if_neg h1, decide_eq_true (by omega : (0 : Int) ≤ n), decide_eq_false (by omega : ¬ (n : Int) ≤ 127)]
    simp only [Bool.and_false, cond_false]
    by_cases h2 : n < 194
    · rw [if_pos h2, decide_eq_false (by omega : ¬ (194 : Int) ≤ n), decide_eq_false (by omega : ¬ (224 : Int) ≤ n), decide_eq_false (by omega : ¬ (225 : Int) ≤ n), decide_eq_false (by omega : ¬ (237 : Int) ≤ n), decide_eq_false (by omega : ¬ (238 : Int) ≤ n), decide_eq_false (by omega : ¬ (240 : Int) ≤ n),
        decide_eq_false (by omega : ¬ (241 : Int) ≤ n), decide_eq_false (by omega : ¬ (244 : Int) ≤ n)]; rfl
    · rw [if_neg h2, decide_eq_true (by omega : (194 : Int) ≤ n)]
      by_cases h3 : n ≤ 223
      · rw [if_pos h3, decide_eq_true (by omega : (n : Int) ≤ 223)]; rfl
      · rw [if_neg h3, decide_eq_false (by omega : ¬ (n : Int) ≤ 223), decide_eq_true (by omega : (224 : Int) ≤ n)]
        by_cases h4 : n = 224
        · rw [if_pos h4, decide_eq_true (by omega : (n : Int) ≤ 224)]; rfl
        · rw [if_neg h4, decide_eq_false (by omega : ¬ (n : Int) ≤ 224), decide_eq_true (by omega : (225 : Int) ≤ n)]
          by_cases h5 : n ≤ 236
          · rw [if_pos h5, decide_eq_true (by omega : (n : Int) ≤ 236)]; rfl
          · rw [if_neg h5, decide_eq_false (by omega : ¬ (n : Int) ≤ 236), decide_eq_true (by omega : (237 : Int) ≤ n)]
            by_cases h6 : n = 237
            · rw [if_pos h6, decide_eq_true (by omega : (n : Int) ≤ 237)]; rfl
            · rw [if_neg h6, decide_eq_false (by omega : ¬ (n : Int) ≤ 237), decide_eq_true (by omega : (238 : Int) ≤ n)]
              by_cases h7 : n ≤ 239
              · rw [if_pos h7, decide_eq_true (by omega : (n : Int) ≤ 239)]; rfl
              · rw [if_neg h7, decide_eq_false (by omega : ¬ (n : Int) ≤ 239), decide_eq_true (by omega : (240 : Int) ≤ n)]
                by_cases h8 : n = 240
                · rw [if_pos h8, decide_eq_true (by omega : (n : Int) ≤ 240)]; rfl
                · rw [if_neg h8, decide_eq_false (by omega : ¬ (n : Int) ≤ 240), decide_eq_true (by omega : (241 : Int) ≤ n)]
                  by_cases h9 : n ≤ 243
                  · rw [if_pos h9, decide_eq_true (by omega : (n : Int) ≤ 243)]; rfl
                  · rw [if_neg h9, decide_eq_false (by omega : ¬ (n : Int) ≤ 243), decide_eq_true (by omega : (244 : Int) ≤ n)]
                    by_cases h10 : n = 244
                    · rw [if_pos h10, decide_eq_true (by omega : (n : Int) ≤ 244)]; rfl
                    · rw [if_neg h10, decide_eq_false (by omega : ¬ (n : Int) ≤ 244)]; rfl
theorem span1 (lo hi t : Int) (a : UInt8) : spanGo (bI a) [(lo, hi, t)] = if lo ≤ (a.toNat : Int) ∧ (a.toNat : Int) ≤ hi then some t else none := by
  simp only [spanGo]
  by_cases h1 : lo ≤ (a.toNat : Int) <;> by_cases h2 : (a.toNat : Int) ≤ hi <;> simp [h1, h2]
def isC (lo hi : Nat) (a : UInt8) : Bool := decide (lo ≤ a.toNat) && decide (a.toNat ≤ hi)
/-- Is a text well formed from a state on? -/
def okV : Int → List UInt8 → Bool
  | t, [] => decide (t = 0)
  | t, c :: r => match utfP t (bI c) with | none => false | some t' => okV t' r
theorem valid_ok : ∀ (s : List UInt8) (t : Int), ((runL t s).2.2 && decide ((runL t s).1 = 0)) = okV t s
  | [], t => rfl
  | c :: r, t => by
    unfold runL okV
    cases utfP t (bI c) with
    | none => rfl
    | some t' => exact valid_ok r t'
theorem okV_span {t lo hi t' : Int} (hs : spans.getD t.toNat [] = [(lo, hi, t')]) (c : UInt8) (r : List UInt8) : okV t (c :: r) = (decide (lo ≤ (c.toNat : Int) ∧ (c.toNat : Int) ≤ hi) && okV t' r) := by
  have e : okV t (c :: r) = match utfP t (bI c) with | none => false | some t' => okV t' r := rfl
  have hu : utfP t (bI c) = if lo ≤ (c.toNat : Int) ∧ (c.toNat : Int) ≤ hi then some t' else none := by unfold utfP; rw [hs, span1]
  rw [e, hu]
  by_cases h : lo ≤ (c.toNat : Int) ∧ (c.toNat : Int) ≤ hi
  · rw [if_pos h, decide_eq_true h, Bool.true_and]
  · rw [if_neg h, decide_eq_false h]; rfl
theorem v1 (c : UInt8) (r : List UInt8) : okV 1 (c :: r) = (decide (128 ≤ (c.toNat : Int) ∧ (c.toNat : Int) ≤ 191) && okV 0 r) := okV_span rfl c r
theorem v2 (c : UInt8) (r : List UInt8) : okV 2 (c :: r) = (decide (128 ≤ (c.toNat : Int) ∧ (c.toNat : Int) ≤ 191) && okV 1 r) := okV_span rfl c r
theorem v3 (c : UInt8) (r : List UInt8) : okV 3 (c :: r) = (decide (128 ≤ (c.toNat : Int) ∧ (c.toNat : Int) ≤ 191) && okV 2 r) := okV_span rfl c r
theorem v4' (c : UInt8) (r : List UInt8) : okV 4 (c :: r) = (decide (160 ≤ (c.toNat : Int) ∧ (c.toNat : Int) ≤ 191) && okV 1 r) := okV_span rfl c r
theorem v5 (c : UInt8) (r : List UInt8) : okV 5 (c :: r) = (decide (128 ≤ (c.toNat : Int) ∧ (c.toNat : Int) ≤ 159) && okV 1 r) := okV_span rfl c r
theorem v6 (c : UInt8) (r : List UInt8) : okV 6 (c :: r) = (decide (144 ≤ (c.toNat : Int) ∧ (c.toNat : Int) ≤ 191) && okV 2 r) := okV_span rfl c r
theorem v7 (c : UInt8) (r : List UInt8) : okV 7 (c :: r) = (decide (128 ≤ (c.toNat : Int) ∧ (c.toNat : Int) ≤ 143) && okV 2 r) := okV_span rfl c r
theorem vnil {t : Int} (h : t ≠ 0) : okV t [] = false := decide_eq_false h
/-- Sizes, from the first byte on. -/
theorem sz_eq (s : List UInt8) : sizeP s = if 1 ≤ s.length then cond (okP (cpAt 1 s) 1 s) 1 (if 2 ≤ s.length then cond (okP (cpAt 2 s) 2 s) 2 (if 3 ≤ s.length then cond (okP (cpAt 3 s) 3 s) 3 (if 4 ≤ s.length then cond (okP (cpAt 4 s) 4 s) 4 0 else 0) else 0) else 0) else 0 := by
  unfold sizeP; simp only [sizeAt]
theorem o1 (a : UInt8) (r : List UInt8) : okP (cpAt 1 (a :: r)) 1 (a :: r) = decide (a.toNat < 128) := by
  rw [Bool.eq_iff_iff, decide_eq_true_eq]; exact ok1 a r
theorem o2 (a b : UInt8) (r : List UInt8) : okP (cpAt 2 (a :: b :: r)) 2 (a :: b :: r) = decide ((194 ≤ a.toNat ∧ a.toNat ≤ 223) ∧ 128 ≤ b.toNat ∧ b.toNat ≤ 191) := by
  rw [Bool.eq_iff_iff, decide_eq_true_eq]; exact ok2 a b r
theorem o3 (a b d : UInt8) (r : List UInt8) : okP (cpAt 3 (a :: b :: d :: r)) 3 (a :: b :: d :: r) = decide ((224 ≤ a.toNat ∧ a.toNat ≤ 239) ∧ (128 ≤ b.toNat ∧ b.toNat ≤ 191) ∧ (128 ≤ d.toNat ∧ d.toNat ≤ 191) ∧ (a.toNat = 224 → 160 ≤ b.toNat) ∧ (a.toNat = 237 → b.toNat ≤ 159)) := by
  rw [Bool.eq_iff_iff, decide_eq_true_eq]; exact ok3 a b d r
theorem o4 (a b d f : UInt8) (r : List UInt8) : okP (cpAt 4 (a :: b :: d :: f :: r)) 4 (a :: b :: d :: f :: r) =
    decide ((240 ≤ a.toNat ∧ a.toNat ≤ 244) ∧ (128 ≤ b.toNat ∧ b.toNat ≤ 191) ∧ (128 ≤ d.toNat ∧ d.toNat ≤ 191) ∧ (128 ≤ f.toNat ∧ f.toNat ≤ 191) ∧ (a.toNat = 240 → 144 ≤ b.toNat) ∧ (a.toNat = 244 → b.toNat ≤ 143)) := by
  rw [Bool.eq_iff_iff, decide_eq_true_eq]; exact ok4 a b d f r
theorem size0 {a : UInt8} (h : 128 ≤ a.toNat) (h2 : a.toNat < 194 ∨ 245 ≤ a.toNat) (s : List UInt8) : sizeP (a :: s) = 0 := by
  rw [sz_eq, if_pos (by simp : 1 ≤ (a :: s).length), o1, decide_eq_false (by omega : ¬ a.toNat < 128), cond_false]
  match s with
  | [] => rfl
  | [b] => rw [if_pos (by simp), o2, decide_eq_false (by omega)]; rfl
  | [b, d] => rw [if_pos (by simp), o2, decide_eq_false (by omega), cond_false, if_pos (by simp), o3, decide_eq_false (by omega)]; rfl
  | b :: d :: f :: r => rw [if_pos (by simp), o2, decide_eq_false (by omega), cond_false, if_pos (by simp), o3, decide_eq_false (by omega), cond_false, if_pos (by simp), o4, decide_eq_false (by omega)]; rfl
theorem size2 {a : UInt8} (h : 194 ≤ a.toNat) (h2 : a.toNat ≤ 223) (b : UInt8) (s : List UInt8) : sizeP [a] = 0 ∧ sizeP (a :: b :: s) = if 128 ≤ b.toNat ∧ b.toNat ≤ 191 then 2 else 0 := by
  constructor
  · rw [sz_eq, if_pos (by simp), o1, decide_eq_false (by omega : ¬ a.toNat < 128)]; rfl
  · rw [sz_eq, if_pos (by simp), o1, decide_eq_false (by omega : ¬ a.toNat < 128), cond_false, if_pos (by simp), o2]
    by_cases hb : 128 ≤ b.toNat ∧ b.toNat ≤ 191
    · rw [if_pos hb, decide_eq_true ⟨⟨h, h2⟩, hb⟩]; rfl
    · rw [if_neg hb, decide_eq_false (fun k => hb k.2), cond_false]
      match s with
      | [] => rfl
      | [d] => rw [if_pos (by simp), o3, decide_eq_false (by omega)]; rfl
      | d :: f :: r => rw [if_pos (by simp), o3, decide_eq_false (by omega), cond_false, if_pos (by simp), o4, decide_eq_false (by omega)]; rfl
theorem size3 {a : UInt8} (h : 224 ≤ a.toNat) (h2 : a.toNat ≤ 239) (b d : UInt8) (s : List UInt8) : sizeP [a] = 0 ∧ sizeP [a, b] = 0 ∧
    sizeP (a :: b :: d :: s) = if (128 ≤ b.toNat ∧ b.toNat ≤ 191) ∧ (128 ≤ d.toNat ∧ d.toNat ≤ 191) ∧ (a.toNat = 224 → 160 ≤ b.toNat) ∧ (a.toNat = 237 → b.toNat ≤ 159) then 3 else 0 := by
  refine ⟨?_, ?_, ?_⟩
  · rw [sz_eq, if_pos (by simp), o1, decide_eq_false (by omega : ¬ a.toNat < 128)]; rfl
  · rw [sz_eq, if_pos (by simp), o1, decide_eq_false (by omega : ¬ a.toNat < 128), cond_false, if_pos (by simp), o2, decide_eq_false (by omega)]; rfl
  · rw [sz_eq, if_pos (by simp), o1, decide_eq_false (by omega : ¬ a.toNat < 128), cond_false, if_pos (by simp), o2, decide_eq_false (by omega), cond_false, if_pos (by simp), o3]
    by_cases hb : (128 ≤ b.toNat ∧ b.toNat ≤ 191) ∧ (128 ≤ d.toNat ∧ d.toNat ≤ 191) ∧ (a.toNat = 224 → 160 ≤ b.toNat) ∧ (a.toNat = 237 → b.toNat ≤ 159)
    · rw [if_pos hb, decide_eq_true ⟨⟨h, h2⟩, hb⟩]; rfl
    · rw [if_neg hb, decide_eq_false (fun k => hb k.2), cond_false]
      match s with
      | [] => rfl
      | f :: r => rw [if_pos (by simp), o4, decide_eq_false (by omega)]; rfl
theorem size4 {a : UInt8} (h : 240 ≤ a.toNat) (h2 : a.toNat ≤ 244) (b d f : UInt8) (s : List UInt8) : sizeP [a] = 0 ∧ sizeP [a, b] = 0 ∧ sizeP [a, b, d] = 0 ∧
    sizeP (a :: b :: d :: f :: s) = if (128 ≤ b.toNat ∧ b.toNat ≤ 191) ∧ (128 ≤ d.toNat ∧ d.toNat ≤ 191) ∧ (128 ≤ f.toNat ∧ f.toNat ≤ 191) ∧ (a.toNat = 240 → 144 ≤ b.toNat) ∧ (a.toNat = 244 → b.toNat ≤ 143) then 4 else 0 := by
  refine ⟨?_, ?_, ?_, ?_⟩
  · rw [sz_eq, if_pos (by simp), o1, decide_eq_false (by omega : ¬ a.toNat < 128)]; rfl
  · rw [sz_eq, if_pos (by simp), o1, decide_eq_false (by omega : ¬ a.toNat < 128), cond_false, if_pos (by simp), o2, decide_eq_false (by omega)]; rfl
  · rw [sz_eq, if_pos (by simp), o1, decide_eq_false (by omega : ¬ a.toNat < 128), cond_false, if_pos (by simp), o2, decide_eq_false (by omega), cond_false, if_pos (by simp), o3, decide_eq_false (by omega)]; rfl
  · rw [sz_eq, if_pos (by simp), o1, decide_eq_false (by omega : ¬ a.toNat < 128), cond_false, if_pos (by simp), o2, decide_eq_false (by omega), cond_false, if_pos (by simp), o3, decide_eq_false (by omega), cond_false, if_pos (by simp), o4]
    by_cases hb : (128 ≤ b.toNat ∧ b.toNat ≤ 191) ∧ (128 ≤ d.toNat ∧ d.toNat ≤ 191) ∧ (128 ≤ f.toNat ∧ f.toNat ≤ 191) ∧ (a.toNat = 240 → 144 ≤ b.toNat) ∧ (a.toNat = 244 → b.toNat ≤ 143)
    · rw [if_pos hb, decide_eq_true ⟨⟨h, h2⟩, hb⟩]; rfl
    · rw [if_neg hb, decide_eq_false (fun k => hb k.2)]; rfl
/-- What the size of the first sequence says of the states. -/
def Steps (s : List UInt8) : Prop := (sizeP s = 0 ∧ okV 0 s = false) ∨ (0 < sizeP s ∧ okV 0 s = okV 0 (s.drop (sizeP s)))
theorem to_state {a : UInt8} {t : Int} (h : utfP 0 (bI a) = some t) (s : List UInt8) : okV 0 (a :: s) = okV t s := by
  have e : okV 0 (a :: s) = match utfP 0 (bI a) with | none => false | some t' => okV t' s := rfl
  rw [e, h]
theorem steps2 {a : UInt8} (h : 194 ≤ a.toNat) (h2 : a.toNat ≤ 223) (s : List UInt8) : Steps (a :: s) := by
  have hu : utfP 0 (bI a) = some 1 := by rw [utf0, if_neg (by omega), if_neg (by omega), if_pos (by omega)]
  unfold Steps
  rw [to_state hu]
  cases s with
  | nil => exact .inl ⟨(size2 h h2 0 []).1, vnil (by decide)⟩
  | cons b r =>
    rw [(size2 h h2 b r).2, v1]
    by_cases hb : 128 ≤ b.toNat ∧ b.toNat ≤ 191
    · rw [if_pos hb, decide_eq_true (by omega)]; exact .inr ⟨by decide, rfl⟩
    · rw [if_neg hb, decide_eq_false (by omega)]; exact .inl ⟨rfl, rfl⟩
theorem steps3 {a : UInt8} (h : 224 ≤ a.toNat) (h2 : a.toNat ≤ 239) {t : Int} (ht : t ≠ 0) (hu : utfP 0 (bI a) = some t) {lo hi : Nat} (hv : ∀ (c : UInt8) (r : List UInt8), okV t (c :: r) = (decide ((lo : Int) ≤ (c.toNat : Int) ∧ (c.toNat : Int) ≤ (hi : Int)) && okV 1 r))
    (hc : ∀ n : Nat, ((128 ≤ n ∧ n ≤ 191) ∧ (a.toNat = 224 → 160 ≤ n) ∧ (a.toNat = 237 → n ≤ 159)) ↔ (lo ≤ n ∧ n ≤ hi)) (s : List UInt8) : Steps (a :: s) := by
  unfold Steps
  rw [to_state hu]
  match s with
  | [] => exact .inl ⟨(size3 h h2 0 0 []).1, vnil ht⟩
  | [b] => exact .inl ⟨(size3 h h2 b 0 []).2.1, by rw [hv, vnil (by decide : (1 : Int) ≠ 0), Bool.and_false]⟩
  | b :: d :: r =>
    have hb := hc b.toNat
    rw [(size3 h h2 b d r).2.2, hv, v1]
    by_cases hk : (128 ≤ b.toNat ∧ b.toNat ≤ 191) ∧ (128 ≤ d.toNat ∧ d.toNat ≤ 191) ∧ (a.toNat = 224 → 160 ≤ b.toNat) ∧ (a.toNat = 237 → b.toNat ≤ 159)
    · rw [if_pos hk, decide_eq_true (by have := hb.1 ⟨hk.1, hk.2.2⟩; omega), decide_eq_true (by omega)]; exact .inr ⟨by decide, rfl⟩
    · rw [if_neg hk]
      refine .inl ⟨rfl, ?_⟩
      by_cases hbb : lo ≤ b.toNat ∧ b.toNat ≤ hi
      · have h3 := hb.2 hbb
        rw [decide_eq_false (fun k => hk ⟨h3.1, by omega, h3.2⟩ : ¬ (128 ≤ (d.toNat : Int) ∧ (d.toNat : Int) ≤ 191)), Bool.false_and, Bool.and_false]
      · rw [decide_eq_false (by omega), Bool.false_and]
theorem steps4 {a : UInt8} (h : 240 ≤ a.toNat) (h2 : a.toNat ≤ 244) {t : Int} (ht : t ≠ 0) (hu : utfP 0 (bI a) = some t) {lo hi : Nat} (hv : ∀ (c : UInt8) (r : List UInt8), okV t (c :: r) = (decide ((lo : Int) ≤ (c.toNat : Int) ∧ (c.toNat : Int) ≤ (hi : Int)) && okV 2 r))
    (hc : ∀ n : Nat, ((128 ≤ n ∧ n ≤ 191) ∧ (a.toNat = 240 → 144 ≤ n) ∧ (a.toNat = 244 → n ≤ 143)) ↔ (lo ≤ n ∧ n ≤ hi)) (s : List UInt8) : Steps (a :: s) := by
  unfold Steps
  rw [to_state hu]
  match s with
  | [] => exact .inl ⟨(size4 h h2 0 0 0 []).1, vnil ht⟩
  | [b] => exact .inl ⟨(size4 h h2 b 0 0 []).2.1, by rw [hv, vnil (by decide : (2 : Int) ≠ 0), Bool.and_false]⟩
  | [b, d] => exact .inl ⟨(size4 h h2 b d 0 []).2.2.1, by rw [hv, v2, vnil (by decide : (1 : Int) ≠ 0), Bool.and_false, Bool.and_false]⟩
  | b :: d :: f :: r =>
    have hb := hc b.toNat
    rw [(size4 h h2 b d f r).2.2.2, hv, v2, v1]
    by_cases hk : (128 ≤ b.toNat ∧ b.toNat ≤ 191) ∧ (128 ≤ d.toNat ∧ d.toNat ≤ 191) ∧ (128 ≤ f.toNat ∧ f.toNat ≤ 191) ∧ (a.toNat = 240 → 144 ≤ b.toNat) ∧ (a.toNat = 244 → b.toNat ≤ 143)
    · rw [if_pos hk, decide_eq_true (by have := hb.1 ⟨hk.1, hk.2.2.2⟩; omega), decide_eq_true (by omega : 128 ≤ (d.toNat : Int) ∧ (d.toNat : Int) ≤ 191), decide_eq_true (by omega : 128 ≤ (f.toNat : Int) ∧ (f.toNat : Int) ≤ 191)]; exact .inr ⟨by decide, rfl⟩
    · rw [if_neg hk]
      refine .inl ⟨rfl, ?_⟩
      by_cases hbb : lo ≤ b.toNat ∧ b.toNat ≤ hi
      · have h3 := hb.2 hbb
        by_cases hd : 128 ≤ (d.toNat : Int) ∧ (d.toNat : Int) ≤ 191
        · rw [decide_eq_false (fun k => hk ⟨h3.1, by omega, by omega, h3.2⟩ : ¬ (128 ≤ (f.toNat : Int) ∧ (f.toNat : Int) ≤ 191)), Bool.false_and, Bool.and_false, Bool.and_false]
        · rw [decide_eq_false hd, Bool.false_and, Bool.and_false]
      · rw [decide_eq_false (by omega), Bool.false_and]
theorem steps (s : List UInt8) (hs : s ≠ []) : Steps s := by
  cases s with
  | nil => exact absurd rfl hs
  | cons a s =>
    have hu := utf0 a
    by_cases h1 : a.toNat < 128
    · rw [if_pos h1] at hu
      unfold Steps
      rw [to_state hu, sz_eq, if_pos (by simp), o1, decide_eq_true h1]
      exact .inr ⟨Nat.one_pos, rfl⟩
    · rw [if_neg h1] at hu
      by_cases h2 : a.toNat < 194
      · rw [if_pos h2] at hu
        refine .inl ⟨size0 (by omega) (.inl h2) s, ?_⟩
        have e : okV 0 (a :: s) = match utfP 0 (bI a) with | none => false | some t' => okV t' s := rfl
        rw [e, hu]
      · rw [if_neg h2] at hu
        by_cases h3 : a.toNat ≤ 223
        · exact steps2 (by omega) h3 s
        · rw [if_neg h3] at hu
          by_cases h4 : a.toNat = 224
          · rw [if_pos h4] at hu; exact steps3 (by omega) (by omega) (by decide) hu (lo := 160) (hi := 191) v4' (by intro n; omega) s
          · rw [if_neg h4] at hu
            by_cases h5 : a.toNat ≤ 236
            · rw [if_pos h5] at hu; exact steps3 (by omega) (by omega) (by decide) hu (lo := 128) (hi := 191) v2 (by intro n; omega) s
            · rw [if_neg h5] at hu
              by_cases h6 : a.toNat = 237
              · rw [if_pos h6] at hu; exact steps3 (by omega) (by omega) (by decide) hu (lo := 128) (hi := 159) v5 (by intro n; omega) s
              · rw [if_neg h6] at hu
                by_cases h7 : a.toNat ≤ 239
                · rw [if_pos h7] at hu; exact steps3 (by omega) (by omega) (by decide) hu (lo := 128) (hi := 191) v2 (by intro n; omega) s
                · rw [if_neg h7] at hu
                  by_cases h8 : a.toNat = 240
                  · rw [if_pos h8] at hu; exact steps4 (by omega) (by omega) (by decide) hu (lo := 144) (hi := 191) v6 (by intro n; omega) s
                  · rw [if_neg h8] at hu
                    by_cases h9 : a.toNat ≤ 243
                    · rw [if_pos h9] at hu; exact steps4 (by omega) (by omega) (by decide) hu (lo := 128) (hi := 191) v3 (by intro n; omega) s
                    · rw [if_neg h9] at hu
                      by_cases h10 : a.toNat = 244
                      · rw [if_pos h10] at hu; exact steps4 (by omega) (by omega) (by decide) hu (lo := 128) (hi := 143) v7 (by intro n; omega) s
                      · rw [if_neg h10] at hu
                        refine .inl ⟨size0 (by omega) (.inr (by omega)) s, ?_⟩
                        have e : okV 0 (a :: s) = match utfP 0 (bI a) with | none => false | some t' => okV t' s := rfl
                        rw [e, hu]
/-- A text is well formed byte by byte just if it is by code points. -/
theorem valid_whole (s : List UInt8) : validP s = decide (wholeP s = s.length) := by
  unfold validP
  rw [valid_ok]
  induction hn : s.length using Nat.strongRecOn generalizing s with
  | _ n ih =>
    by_cases hs : s = []
    · subst hs; subst hn; rfl
    · rw [wholeP_eq]
      have hle := sizeP_le s
      have hpos : 0 < s.length := List.length_pos_iff.2 hs
      rcases steps s hs with ⟨h1, h2⟩ | ⟨h1, h2⟩
      · rw [if_pos h1, h2, decide_eq_false (by omega)]
      · rw [if_neg (by omega), h2, ih (s.drop (sizeP s)).length (by rw [List.length_drop]; omega) _ rfl, Bool.eq_iff_iff]
        simp only [decide_eq_true_eq, List.length_drop]
        omega
end Go.Proofs.YtpiphiieflnabaaDoor
