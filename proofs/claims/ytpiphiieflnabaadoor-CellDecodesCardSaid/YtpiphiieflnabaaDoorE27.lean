/- Values and columns (cell's Right, Encode and what they call): what they do; CellUnlike is true. Conditions: the table of UTF-8 is known; strconv.ErrRange, if it is known, holds an interface value. -/
import Derived.Test.YtpiphiieflnabaaDoorD26
namespace Go.Proofs.YtpiphiieflnabaaDoor
open Go Go.Abs
set_option maxRecDepth 100000
variable {e : Option Value}

def v4 (k : Int) (s : List UInt8) (n : Int) (b : Bool) : Option (AV × Store) := some (.agg [.int .i64 k, .str s, .int .i64 n, .bool b], [])
theorem text_ev (s : List UInt8) : (evFn (ctx Tryd.prog (G0 (E2 e)) []) noL Tryd.f15 [.str s] []).get = v4 1 s 0 false := by kernel_rfl
theorem int_ev (n : Int) : (evFn (ctx Tryd.prog (G0 (E2 e)) []) noL Tryd.f16 [.int .i64 n] []).get = v4 2 [] n false := by kernel_rfl
theorem bool_ev (b : Bool) : (evFn (ctx Tryd.prog (G0 (E2 e)) []) noL Tryd.f17 [.bool b] []).get = v4 3 [] 0 b := by kernel_rfl
noncomputable def textC : Con where
  spec := fun args st => match args, st with | [.str s], [] => .ret (valAV (1, s, 0, false), []) | _, _ => .no
  quiet := true
noncomputable def intC : Con where
  spec := fun args st => match args, st with | [.int .i64 n], [] => .ret (valAV (2, [], n, false), []) | _, _ => .no
  quiet := true
noncomputable def boolC : Con where
  spec := fun args st => match args, st with | [.bool b], [] => .ret (valAV (3, [], 0, b), []) | _, _ => .no
  quiet := true
theorem okText : Con.ok Tryd.prog (G0 (E2 e)) 15 textC :=
  loop_spec (l := []) trivial hm Tryd.func15 (by rfl) (by kernel_rfl) fun args st r h => by
    unfold textC at h
    dsimp only at h
    split at h
    · exact ⟨noL, noL_ok, by rw [text_ev, ← ret_get h]; rfl⟩
    · exact (no_get h).elim
theorem okInt : Con.ok Tryd.prog (G0 (E2 e)) 16 intC :=
  loop_spec (l := []) trivial hm Tryd.func16 (by rfl) (by kernel_rfl) fun args st r h => by
    unfold intC at h
    dsimp only at h
    split at h
    · exact ⟨noL, noL_ok, by rw [int_ev, ← ret_get h]; rfl⟩
    · exact (no_get h).elim
theorem okBool : Con.ok Tryd.prog (G0 (E2 e)) 17 boolC :=
  loop_spec (l := []) trivial hm Tryd.func17 (by rfl) (by kernel_rfl) fun args st r h => by
    unfold boolC at h
    dsimp only at h
    split at h
    · exact ⟨noL, noL_ok, by rw [bool_ev, ← ret_get h]; rfl⟩
    · exact (no_get h).elim
def colB (k : Int) : Bool := decide (1 ≤ k) && decide (k ≤ 3)
theorem col_ev (nm : List UInt8) (k : Int) (nl : Bool) : (evFn (ctx Tryd.prog (G0 (E2 e)) []) noL Tryd.f38 [.agg [.str nm, .int .i64 k, .bool nl]] []).get = cond (decide (1 ≤ k)) (bo (decide (k ≤ 3))) (bo false) := by kernel_rfl
noncomputable def colC : Con where
  spec := fun args st => match args, st with | [.agg [.str _, .int .i64 k, .bool _]], [] => .ret (.bool (colB k), []) | _, _ => .no
  quiet := true
theorem okCol : Con.ok Tryd.prog (G0 (E2 e)) 38 colC :=
  loop_spec (l := []) trivial hm Tryd.func38 (by rfl) (by kernel_rfl) fun args st r h => by
    unfold colC at h
    dsimp only at h
    split at h
    · rename_i nm k nl
      refine ⟨noL, noL_ok, ?_⟩
      rw [col_ev, ← ret_get h]; unfold colB
      cases decide (1 ≤ k) <;> rfl
    · exact (no_get h).elim
def markB (s : List UInt8) : Bool := decide (s = []) || preP s [92]
noncomputable def markC : Con where
  spec := fun args st => match args, st with | [.str s], [] => .ret (.bool (markB s), []) | _, _ => .no
  quiet := true
theorem mark_ev (s : List UInt8) : (evFn (ctx Tryd.prog (G0 (E2 e)) [(54, hasC)]) noL Tryd.f39 [.str s] []).get = cond (decide (s = [])) (bo true) (bo (preP s [92])) := by kernel_rfl
theorem okMark : Con.ok Tryd.prog (G0 (E2 e)) 39 markC :=
  loop_spec (l := [(54, hasC)]) ⟨okHas2, trivial⟩ hm Tryd.func39 (by rfl) (by kernel_rfl) fun args st r h => by
    unfold markC at h
    dsimp only at h
    split at h
    · rename_i s
      refine ⟨noL, noL_ok, ?_⟩
      rw [mark_ev, ← ret_get h]; unfold markB
      cases decide (s = []) <;> rfl
    · exact (no_get h).elim
noncomputable def m1 (e : Option Value) : List (Nat × Con) :=
  (39, markC) :: (38, colC) :: (17, boolC) :: (16, intC) :: (15, textC) :: (52, validC) :: (25, parseC (E2 e)) :: (26, rparseC) :: (29, printC) :: (30, printC) :: (48, trimC) :: p5
theorem okm1 (hev : EvOK (E2 e)) : AllOK Tryd.prog (G0 (E2 e)) (m1 e) := ⟨okMark, okCol, okBool, okInt, okText, okValid, okParse hev, okRParse hev, okPrint, okRPrint, okTrim2, okp5⟩

/-- May a value be, as cell says? -/
def cellR (k : Int) (s : List UInt8) (n : Int) (b : Bool) : Bool :=
  cond (decide (k = 0)) (decide (s = []) && (decide (n = 0) && (b == false))) (cond (decide (k = 1)) (decide (n = 0) && ((b == false) && validP s)) (cond (decide (k = 2)) (decide (s = []) && (b == false)) (decide (k = 3) && (decide (s = []) && decide (n = 0)))))
theorem cright_ev (k n : Int) (s : List UInt8) (b : Bool) : (evFn (ctx Tryd.prog (G0 (E2 e)) (m1 e)) noL Tryd.f35 [.agg [.int .i64 k, .str s, .int .i64 n, .bool b]] []).get =
    cond (decide (k = 0)) (bo (decide (k = 0) && (decide (s = []) && (decide (n = 0) && ((b == false) && true)))))
      (cond (decide (k = 1)) (cond (decide (k = 1) && (decide (s = s) && (decide (n = 0) && ((b == false) && true)))) (cond (decide (s.length ≤ LIM)) (bo (validP s)) none) (bo false))
        (cond (decide (k = 2)) (bo (decide (k = 2) && (decide (s = []) && (decide (n = n) && ((b == false) && true))))) (bo (decide (k = 3) && (decide (s = []) && (decide (n = 0) && ((b == b) && true))))))) := by kernel_rfl
noncomputable def cellRC : Con where
  spec := fun args st => match args, st with | [.agg [.int .i64 k, .str s, .int .i64 n, .bool b]], [] => .need (decide (s.length ≤ LIM)) (.ret (.bool (cellR k s n b), [])) | _, _ => .no
  quiet := true
theorem okCellR (hev : EvOK (E2 e)) : Con.ok Tryd.prog (G0 (E2 e)) 35 cellRC :=
  loop_spec (okm1 hev) hm Tryd.func35 (by rfl) (by kernel_rfl) fun args st r h => by
    unfold cellRC at h
    dsimp only at h
    split at h
    · rename_i k s n b
      obtain ⟨h1, h2⟩ := need_get h
      refine ⟨noL, noL_ok, ?_⟩
      rw [cright_ev, ← ret_get h2, h1, decide_eq_true (rfl : s = s), decide_eq_true (rfl : n = n)]; unfold cellR
      cases decide (k = 0) <;> cases decide (k = 1) <;> cases decide (k = 2) <;> cases decide (s = []) <;> cases decide (n = 0) <;> cases b <;> first | rfl | (cases decide (k = 3) <;> rfl)
    · exact (no_get h).elim
noncomputable def m2 (e : Option Value) : List (Nat × Con) := (35, cellRC) :: m1 e
theorem okm2 (hev : EvOK (E2 e)) : AllOK Tryd.prog (G0 (E2 e)) (m2 e) := ⟨okCellR hev, okm1 hev⟩
end Go.Proofs.YtpiphiieflnabaaDoor

namespace Go.Proofs.YtpiphiieflnabaaDoor
open Go Go.Abs
set_option maxRecDepth 100000
variable {e : Option Value}

def trueT : List UInt8 := [116, 114, 117, 101]
def falseT : List UInt8 := [102, 97, 108, 115, 101]
/-- The field of a value. -/
def fieldP (k : Int) (s : List UInt8) (n : Int) (b nl : Bool) : List UInt8 :=
  cond (decide (k = 1)) (cond (nl && markB s) (92 :: s) s) (cond (decide (k = 2)) (Lib.itoa n) (cond (decide (k = 3)) (cond b trueT falseT) s))
/-- A value's field in a column; the error's number. -/
def encP (k : Int) (s : List UInt8) (n : Int) (b : Bool) (ck : Int) (nl : Bool) : List UInt8 × Int :=
  cond (!colB ck) ([], 22) (cond (!cellR k s n b || (!decide (k = 0) && !decide (k = ck))) ([], 21) (cond (decide (k = 0) && !nl) ([], 20) (fieldP k s n b nl, 0)))
def t2 (p : List UInt8 × Int) : Option (AV × Store) := some (.tup [.str p.1, .int .i64 p.2], [])
def fldT (k : Int) (s : List UInt8) (n : Int) (b nl : Bool) : Option (AV × Store) :=
  cond (decide (k = 1)) (cond nl (cond (markB s) (cond (decide (([92] : List UInt8).length + s.length ≤ LIM)) (t2 (92 :: s, 0)) none) (t2 (s, 0))) (t2 (s, 0)))
    (cond (decide (k = 2)) (cond (inR n) (t2 (Lib.itoa n, 0)) none) (cond (decide (k = 3)) (cond b (t2 (trueT, 0)) (t2 (falseT, 0))) (t2 (s, 0))))
def nulT (k : Int) (s : List UInt8) (n : Int) (b nl : Bool) : Option (AV × Store) := cond (decide (k = 0)) (cond (!nl) (t2 ([], 20)) (fldT k s n b nl)) (fldT k s n b nl)
theorem encode_ev (k n : Int) (s : List UInt8) (b : Bool) (nm : List UInt8) (ck : Int) (nl : Bool) : (evFn (ctx Tryd.prog (G0 (E2 e)) (m2 e)) noL Tryd.f14 [.agg [.int .i64 k, .str s, .int .i64 n, .bool b], .agg [.str nm, .int .i64 ck, .bool nl]] []).get =
    cond (!colB ck) (t2 ([], 22)) (cond (decide (s.length ≤ LIM)) (cond (!cellR k s n b) (t2 ([], 21)) (cond (!decide (k = 0)) (cond (!decide (k = ck)) (t2 ([], 21)) (nulT k s n b nl)) (nulT k s n b nl))) none) := by kernel_rfl
noncomputable def encC : Con where
  spec := fun args st => match args, st with
    | [.agg [.int .i64 k, .str s, .int .i64 n, .bool b], .agg [.str _, .int .i64 ck, .bool nl]], [] => .need (decide (([92] : List UInt8).length + s.length ≤ LIM) && inR n) (.ret (.tup [.str (encP k s n b ck nl).1, .int .i64 (encP k s n b ck nl).2], []))
    | _, _ => .no
  quiet := true
theorem fldT_eq {k : Int} {s : List UInt8} {n : Int} {b nl : Bool} (h1 : decide (([92] : List UInt8).length + s.length ≤ LIM) = true) (h2 : inR n = true) : fldT k s n b nl = t2 (fieldP k s n b nl, 0) := by
  unfold fldT fieldP
  rw [h1, h2]
  cases decide (k = 1) <;> cases decide (k = 2) <;> cases decide (k = 3) <;> cases nl <;> cases markB s <;> cases b <;> rfl
theorem okEnc (hev : EvOK (E2 e)) : Con.ok Tryd.prog (G0 (E2 e)) 14 encC :=
  loop_spec (okm2 hev) hm Tryd.func14 (by rfl) (by kernel_rfl) fun args st r h => by
    unfold encC at h
    dsimp only at h
    split at h
    · rename_i k s n b nm ck nl
      obtain ⟨h1, h2⟩ := need_get h
      simp only [Bool.and_eq_true] at h1
      refine ⟨noL, noL_ok, ?_⟩
      have hl : decide (s.length ≤ LIM) = true := by have := h1.1; simp only [decide_eq_true_eq, List.length_cons, List.length_nil] at this ⊢; omega
      rw [encode_ev, ← ret_get h2, hl]; unfold encP nulT
      rw [fldT_eq h1.1 h1.2]
      cases colB ck <;> cases cellR k s n b <;> cases decide (k = 0) <;> cases decide (k = ck) <;> cases nl <;> rfl
    · exact (no_get h).elim
noncomputable def m3 (e : Option Value) : List (Nat × Con) := (14, encC) :: m2 e
theorem okm3 (hev : EvOK (E2 e)) : AllOK Tryd.prog (G0 (E2 e)) (m3 e) := ⟨okEnc hev, okm2 hev⟩

/-! ### CellUnlike -/
theorem markB_iff (s : List UInt8) : markB s = true ↔ s = [] ∨ ∃ r, s = 92 :: r := by
  unfold markB preP
  cases s with
  | nil => simp
  | cons c r =>
    by_cases hc : c = 92
    · subst hc
      simp only [Bool.or_eq_true, Bool.and_eq_true, decide_eq_true_eq, List.length_cons, List.length_nil]
      constructor
      · intro _; exact .inr ⟨r, rfl⟩
      · intro _; exact .inr ⟨by omega, by simp⟩
    · simp [hc]
theorem mark_inj {s t : List UInt8} (h : cond (markB s) (92 :: s) s = cond (markB t) (92 :: t) t) : s = t := by
  cases hs : markB s <;> cases ht : markB t <;> rw [hs, ht] at h
  · exact h
  · exfalso
    have h' : s = 92 :: t := h
    have := (markB_iff s).2 (.inr ⟨t, h'⟩)
    rw [hs] at this; cases this
  · exfalso
    have h' : 92 :: s = t := h
    have := (markB_iff t).2 (.inr ⟨s, h'.symm⟩)
    rw [ht] at this; cases this
  · simpa using h
theorem mark_ne {s : List UInt8} : cond (markB s) (92 :: s) s ≠ [] := by
  cases hs : markB s with
  | true => simp
  | false =>
    rintro (h : s = [])
    have := (markB_iff s).2 (.inl h)
    rw [hs] at this; cases this
theorem itoa_ne (n : Int) : Lib.itoa n ≠ [] := by
  intro h
  have := itoa_form n
  rw [h] at this; cases this
/-- What is known of a value that has a field. -/
theorem enc_ok {k : Int} {s : List UInt8} {n : Int} {b : Bool} {ck : Int} {nl : Bool} (h : (encP k s n b ck nl).2 = 0) :
    colB ck = true ∧ cellR k s n b = true ∧ (encP k s n b ck nl).1 = fieldP k s n b nl ∧ ((k = 0 ∧ nl = true) ∨ k = ck) := by
  unfold encP at h ⊢
  cases h1 : colB ck with
  | false => rw [h1] at h; exact absurd (show (22 : Int) = 0 from h) (by decide)
  | true =>
    rw [h1] at h
    cases h2 : cellR k s n b with
    | false => rw [h2] at h; exact absurd (show (21 : Int) = 0 from h) (by decide)
    | true =>
      rw [h2] at h
      by_cases h3 : k = 0
      · rw [decide_eq_true h3] at h ⊢
        cases nl with
        | false => exact absurd (show (20 : Int) = 0 from h) (by decide)
        | true => exact ⟨rfl, rfl, rfl, .inl ⟨h3, rfl⟩⟩
      · rw [decide_eq_false h3] at h ⊢
        by_cases h4 : k = ck
        · rw [decide_eq_true h4]; exact ⟨rfl, rfl, rfl, .inr h4⟩
        · rw [decide_eq_false h4] at h; exact absurd (show (21 : Int) = 0 from h) (by decide)
theorem cell_0 {s : List UInt8} {n : Int} {b : Bool} (h : cellR 0 s n b = true) : s = [] ∧ n = 0 ∧ b = false := by
  unfold cellR at h
  simpa using h
theorem cell_1 {s : List UInt8} {n : Int} {b : Bool} (h : cellR 1 s n b = true) : n = 0 ∧ b = false ∧ validP s = true := by
  unfold cellR at h
  simpa using h
theorem cell_2 {s : List UInt8} {n : Int} {b : Bool} (h : cellR 2 s n b = true) : s = [] ∧ b = false := by
  unfold cellR at h
  simpa using h
theorem cell_3 {s : List UInt8} {n : Int} {b : Bool} (h : cellR 3 s n b = true) : s = [] ∧ n = 0 := by
  unfold cellR at h
  simpa using h
theorem col_cases {ck : Int} (h : colB ck = true) : ck = 1 ∨ ck = 2 ∨ ck = 3 := by
  unfold colB at h
  simp only [Bool.and_eq_true, decide_eq_true_eq] at h
  omega
theorem field_inj {k : Int} {s : List UInt8} {n : Int} {b : Bool} {k' : Int} {s' : List UInt8} {n' : Int} {b' : Bool} {ck : Int} {nl : Bool}
    (h1 : (encP k s n b ck nl).2 = 0) (h2 : (encP k' s' n' b' ck nl).2 = 0) : (encP k s n b ck nl).1 = (encP k' s' n' b' ck nl).1 ↔ (k = k' ∧ s = s' ∧ n = n' ∧ b = b') := by
  obtain ⟨hc, hr, hf, hk⟩ := enc_ok h1
  obtain ⟨-, hr', hf', hk'⟩ := enc_ok h2
  rw [hf, hf']
  clear hf hf' h1 h2
  constructor
  · intro h
    have zero : ∀ {k : Int} {s : List UInt8} {n : Int} {b : Bool}, k = 0 → cellR k s n b = true → fieldP k s n b nl = [] := by
      rintro k s n b rfl h
      obtain ⟨rfl, rfl, rfl⟩ := cell_0 h
      rfl
    have some' : ∀ {s : List UInt8} {n : Int} {b : Bool}, nl = true → cellR ck s n b = true → fieldP ck s n b nl ≠ [] := by
      rintro s n b rfl h
      rcases col_cases hc with rfl | rfl | rfl
      · exact mark_ne
      · exact itoa_ne n
      · cases b <;> exact List.cons_ne_nil _ _
    rcases hk with ⟨rfl, hn⟩ | rfl
    · rcases hk' with ⟨rfl, hn'⟩ | rfl
      · obtain ⟨rfl, rfl, rfl⟩ := cell_0 hr
        obtain ⟨rfl, rfl, rfl⟩ := cell_0 hr'
        exact ⟨rfl, rfl, rfl, rfl⟩
      · rw [zero rfl hr] at h
        exact absurd h.symm (some' hn hr')
    · rcases hk' with ⟨rfl, hn'⟩ | rfl
      · rw [zero rfl hr'] at h
        exact absurd h (some' hn' hr)
      · rcases col_cases hc with rfl | rfl | rfl
        · obtain ⟨rfl, rfl, -⟩ := cell_1 hr
          obtain ⟨rfl, rfl, -⟩ := cell_1 hr'
          refine ⟨rfl, ?_, rfl, rfl⟩
          cases nl with
          | false => exact h
          | true => exact mark_inj h
        · obtain ⟨rfl, rfl⟩ := cell_2 hr
          obtain ⟨rfl, rfl⟩ := cell_2 hr'
          exact ⟨rfl, rfl, itoa_inj h, rfl⟩
        · obtain ⟨rfl, rfl⟩ := cell_3 hr
          obtain ⟨rfl, rfl⟩ := cell_3 hr'
          refine ⟨rfl, rfl, rfl, ?_⟩
          cases b <;> cases b' <;> first | rfl | exact absurd (show falseT = trueT from h) (by decide) | exact absurd (show trueT = falseT from h) (by decide)
  · rintro ⟨rfl, rfl, rfl, rfl⟩; rfl
end Go.Proofs.YtpiphiieflnabaaDoor

namespace Go.Proofs.YtpiphiieflnabaaDoor
open Go Go.Abs
set_option maxRecDepth 100000
variable {e : Option Value}
theorem unlike_ev (k : Int) (s : List UInt8) (n : Int) (b : Bool) (k' : Int) (s' : List UInt8) (n' : Int) (b' : Bool) (nm : List UInt8) (ck : Int) (nl : Bool) :
    (evFn (ctx Tryd.prog (G0 (E2 e)) (m3 e)) noL Tryd.f3 [.agg [.int .i64 k, .str s, .int .i64 n, .bool b], .agg [.int .i64 k', .str s', .int .i64 n', .bool b'], .agg [.str nm, .int .i64 ck, .bool nl]] []).get =
    cond (decide (200 < (s.length : Int))) (bo true) (cond (decide (200 < (s'.length : Int))) (bo true) (cond (decide (([92] : List UInt8).length + s.length ≤ LIM) && inR n) (cond (decide (([92] : List UInt8).length + s'.length ≤ LIM) && inR n')
      (cond (!decide ((encP k s n b ck nl).2 = 0)) (bo true) (cond (!decide ((encP k' s' n' b' ck nl).2 = 0)) (bo true)
        (cond (decide ((encP k s n b ck nl).1 = (encP k' s' n' b' ck nl).1) == (decide (k = k') && (decide (s = s') && (decide (n = n') && ((b == b') && true))))) (bo true) (bo false)))) none) none)) := by kernel_rfl
theorem lenOK {s : List UInt8} (h : ¬ (200 : Int) < (s.length : Int)) : decide (([92] : List UInt8).length + s.length ≤ LIM) = true :=
  decide_eq_true (by simp only [List.length_cons, List.length_nil]; unfold LIM; omega)
theorem unlike_true (k : Int) (s : List UInt8) (n : Int) (b : Bool) (k' : Int) (s' : List UInt8) (n' : Int) (b' : Bool) (nm : List UInt8) (ck : Int) (nl : Bool) (h : inR n = true) (h' : inR n' = true) :
    (evFn (ctx Tryd.prog (G0 (E2 e)) (m3 e)) noL Tryd.f3 [.agg [.int .i64 k, .str s, .int .i64 n, .bool b], .agg [.int .i64 k', .str s', .int .i64 n', .bool b'], .agg [.str nm, .int .i64 ck, .bool nl]] []).get = some (.bool true, []) := by
  rw [unlike_ev]
  by_cases hl : (200 : Int) < (s.length : Int)
  · rw [decide_eq_true hl]; rfl
  · by_cases hl' : (200 : Int) < (s'.length : Int)
    · rw [decide_eq_false hl, decide_eq_true hl']; rfl
    · rw [decide_eq_false hl, decide_eq_false hl', lenOK hl, lenOK hl', h, h']
      by_cases h1 : (encP k s n b ck nl).2 = 0
      · by_cases h2 : (encP k' s' n' b' ck nl).2 = 0
        · have e : (decide ((encP k s n b ck nl).1 = (encP k' s' n' b' ck nl).1) == (decide (k = k') && (decide (s = s') && (decide (n = n') && ((b == b') && true))))) = true := by
            rw [beq_iff_eq, Bool.eq_iff_iff]
            simp only [decide_eq_true_eq, Bool.and_eq_true, beq_iff_eq, and_true]
            exact field_inj h1 h2
          rw [decide_eq_true h1, decide_eq_true h2, e]; rfl
        · rw [decide_eq_true h1, decide_eq_false h2]; rfl
      · rw [decide_eq_false h1]; rfl
end Go.Proofs.YtpiphiieflnabaaDoor

