/- The document's fields and values; cell.Decode; CellEncodes and CellDecodes are true. Conditions: the table of UTF-8 is known; strconv.ErrRange holds an interface value. -/
import Derived.Test.YtpiphiieflnabaaDoorE27
import Derived.Test.YtpiphiieflnabaaDoorD31
namespace Go.Proofs.YtpiphiieflnabaaDoor
open Go Go.Abs
set_option maxRecDepth 100000
variable {e : Option Value}

theorem refCol_ev (nm : List UInt8) (k : Int) (b : Bool) : (evFn (ctx Tryd.prog (G0 (E2 e)) []) noL Tryd.f34 [.agg [.str nm, .int .i64 k, .bool b]] []).get =
    cond b (some (.agg [.int .i64 k, .int .i64 1], [])) (some (.agg [.int .i64 k, .int .i64 0], [])) := by kernel_rfl
noncomputable def refColC : Con where
  spec := fun args st => match args, st with | [.agg [.str _, .int .i64 k, .bool b]], [] => .ret (.agg [.int .i64 k, .int .i64 (b2i b)], []) | _, _ => .no
  quiet := true
theorem okRefCol : Con.ok Tryd.prog (G0 (E2 e)) 34 refColC :=
  loop_spec (l := []) trivial hm Tryd.func34 (by rfl) (by kernel_rfl) fun args st r h => by
    unfold refColC at h
    dsimp only at h
    split at h
    · rename_i nm k b
      refine ⟨noL, noL_ok, ?_⟩
      rw [refCol_ev, ← ret_get h]
      cases b <;> rfl
    · exact (no_get h).elim
theorem rmark_ev (s : List UInt8) : (evFn (ctx Tryd.prog (G0 (E2 e)) []) noL Tryd.f64 [.str s] []).get = cond (decide (s = [])) (bo true) (atL s 0 fun c => bo (decide ((c.toNat : Int) = 92))) := by kernel_rfl
theorem okRMark : Con.ok Tryd.prog (G0 (E2 e)) 64 markC :=
  loop_spec (l := []) trivial hm Tryd.func64 (by rfl) (by kernel_rfl) fun args st r h => by
    unfold markC at h
    dsimp only at h
    split at h
    · rename_i s
      refine ⟨noL, noL_ok, ?_⟩
      rw [rmark_ev, ← ret_get h]
      cases s with
      | nil => rfl
      | cons c r =>
        rw [decide_eq_false (by simp : ¬ c :: r = []), atL_some (show (c :: r)[0]? = some c from rfl)]
        have : decide ((c.toNat : Int) = 92) = markB (c :: r) := by
          rw [Bool.eq_iff_iff, markB_iff, decide_eq_true_eq]
          constructor
          · intro h; exact .inr ⟨r, by rw [UInt8.toNat_inj.1 (show c.toNat = (92 : UInt8).toNat by show c.toNat = 92; omega)]⟩
          · rintro (h | ⟨r', h⟩)
            · cases h
            · cases h; rfl
        rw [this]; rfl
    · exact (no_get h).elim
noncomputable def m4 (e : Option Value) : List (Nat × Con) := (64, markC) :: (34, refColC) :: m3 e
theorem okm4 (hev : EvOK (E2 e)) : AllOK Tryd.prog (G0 (E2 e)) (m4 e) := ⟨okRMark, okRefCol, okm3 hev⟩
def rfT1 (s : List UInt8) (nl : Int) (k : Int) : Option (AV × Store) :=
  cond (decide (k = 1)) (cond (decide (nl = 1)) (cond (markB s) (cond (decide (([92] : List UInt8).length + s.length ≤ LIM)) (some (.str (92 :: s), [])) none) (some (.str s, []))) (some (.str s, []))) (some (.str s, []))
theorem rfield_ev (k n : Int) (s : List UInt8) (b ck nl : Int) : (evFn (ctx Tryd.prog (G0 (E2 e)) (m4 e)) noL Tryd.f51 [.agg [.int .i64 k, .str s, .int .i64 n, .int .i64 b], .agg [.int .i64 ck, .int .i64 nl]] []).get =
    cond (decide (k = 2)) (cond (inR n) (some (.str (Lib.itoa n), [])) none) (cond (decide (k = 3)) (cond (decide (b = 1)) (some (.str trueT, [])) (cond (decide (k = 3)) (some (.str falseT, [])) (rfT1 s nl k))) (cond (decide (k = 3)) (some (.str falseT, [])) (rfT1 s nl k))) := by kernel_rfl
noncomputable def rfieldC : Con where
  spec := fun args st => match args, st with
    | [.agg [.int .i64 k, .str s, .int .i64 n, .int .i64 b], .agg [.int .i64 _, .int .i64 nl]], [] => .need (decide (([92] : List UInt8).length + s.length ≤ LIM) && inR n) (.ret (.str (fieldP k s n (decide (b = 1)) (decide (nl = 1))), []))
    | _, _ => .no
  quiet := true
theorem okRField (hev : EvOK (E2 e)) : Con.ok Tryd.prog (G0 (E2 e)) 51 rfieldC :=
  loop_spec (okm4 hev) hm Tryd.func51 (by rfl) (by kernel_rfl) fun args st r h => by
    unfold rfieldC at h
    dsimp only at h
    split at h
    · rename_i k s n b ck nl
      obtain ⟨h1, h2⟩ := need_get h
      simp only [Bool.and_eq_true] at h1
      refine ⟨noL, noL_ok, ?_⟩
      rw [rfield_ev, ← ret_get h2, h1.2]; unfold rfT1 fieldP; rw [h1.1]
      by_cases k1 : k = 1
      · subst k1
        cases decide (nl = 1) <;> cases markB s <;> rfl
      · rw [decide_eq_false k1]
        cases decide (k = 2) <;> cases decide (k = 3) <;> cases decide (b = 1) <;> rfl
    · exact (no_get h).elim
noncomputable def m5 (e : Option Value) : List (Nat × Con) := (51, rfieldC) :: m4 e
theorem okm5 (hev : EvOK (E2 e)) : AllOK Tryd.prog (G0 (E2 e)) (m5 e) := ⟨okRField hev, okm4 hev⟩
end Go.Proofs.YtpiphiieflnabaaDoor

namespace Go.Proofs.YtpiphiieflnabaaDoor
open Go Go.Abs
set_option maxRecDepth 100000
variable {e : Option Value}

/-! ### Encode -/
def rencR (k : Int) (s : List UInt8) (n b ck nl : Int) : List UInt8 × Int :=
  cond (decide (ck < 1) || decide (3 < ck)) ([], 22) (cond (!rightR k s n b || (!decide (k = 0) && !decide (k = ck))) ([], 21) (cond (decide (k = 0) && decide (nl = 0)) ([], 20) (fieldP k s n (decide (b = 1)) (decide (nl = 1)), 0)))
def refT (k : Int) (s : List UInt8) (n b nl : Int) : Option (AV × Store) := cond (decide (([92] : List UInt8).length + s.length ≤ LIM) && inR n) (t2 (fieldP k s n (decide (b = 1)) (decide (nl = 1)), 0)) none
def rnulT (k : Int) (s : List UInt8) (n b nl : Int) : Option (AV × Store) := cond (decide (k = 0)) (cond (decide (nl = 0)) (t2 ([], 20)) (refT k s n b nl)) (refT k s n b nl)
theorem renc_ev (k n : Int) (s : List UInt8) (b ck nl : Int) : (evFn (ctx Tryd.prog (G0 (E2 e)) (m5 e)) noL Tryd.f33 [.agg [.int .i64 k, .str s, .int .i64 n, .int .i64 b], .agg [.int .i64 ck, .int .i64 nl]] []).get =
    cond (decide (ck < 1)) (t2 ([], 22)) (cond (decide (3 < ck)) (t2 ([], 22)) (cond (decide (s.length ≤ LIM)) (cond (!rightR k s n b) (t2 ([], 21)) (cond (!decide (k = 0)) (cond (!decide (k = ck)) (t2 ([], 21)) (rnulT k s n b nl)) (rnulT k s n b nl))) none)) := by kernel_rfl
noncomputable def rencC : Con where
  spec := fun args st => match args, st with
    | [.agg [.int .i64 k, .str s, .int .i64 n, .int .i64 b], .agg [.int .i64 ck, .int .i64 nl]], [] => .need (decide (([92] : List UInt8).length + s.length ≤ LIM) && inR n) (.ret (.tup [.str (rencR k s n b ck nl).1, .int .i64 (rencR k s n b ck nl).2], []))
    | _, _ => .no
  quiet := true
theorem okREnc (hev : EvOK (E2 e)) : Con.ok Tryd.prog (G0 (E2 e)) 33 rencC :=
  loop_spec (okm5 hev) hm Tryd.func33 (by rfl) (by kernel_rfl) fun args st r h => by
    unfold rencC at h
    dsimp only at h
    split at h
    · rename_i k s n b ck nl
      obtain ⟨h1, h2⟩ := need_get h
      refine ⟨noL, noL_ok, ?_⟩
      have hl : decide (s.length ≤ LIM) = true := by
        simp only [Bool.and_eq_true] at h1
        have := h1.1; simp only [decide_eq_true_eq, List.length_cons, List.length_nil] at this ⊢; omega
      rw [renc_ev, ← ret_get h2, hl]; unfold rencR rnulT refT; rw [h1]
      cases decide (ck < 1) <;> cases decide (3 < ck) <;> cases rightR k s n b <;> cases decide (k = 0) <;> cases decide (k = ck) <;> cases decide (nl = 0) <;> rfl
    · exact (no_get h).elim
theorem b2i1 (b : Bool) : decide (b2i b = 1) = b := by cases b <;> rfl
theorem b2i0 (b : Bool) : decide (b2i b = 0) = !b := by cases b <;> rfl
theorem right_cell (k : Int) (s : List UInt8) (n : Int) (b : Bool) : rightR k s n (b2i b) = cellR k s n b := by
  unfold rightR cellR
  rw [b2i0, valid_whole]
  have hw : decide ((wholeP s : Int) = (s.length : Int)) = decide (wholeP s = s.length) := by rw [Bool.eq_iff_iff]; simp only [decide_eq_true_eq]; omega
  rw [hw]
  have h0 : s = [] → decide (wholeP s = s.length) = true := by rintro rfl; rfl
  by_cases k0 : k = 0
  · subst k0
    by_cases hs : s = []
    · rw [h0 hs]; simp [hs]
    · simp [hs]
  · by_cases k1 : k = 1
    · subst k1; simp
    · by_cases k2 : k = 2
      · subst k2
        by_cases hs : s = []
        · rw [h0 hs]; simp [hs]
        · simp [hs]
      · by_cases k3 : k = 3
        · subst k3
          by_cases hs : s = []
          · rw [h0 hs]; simp [hs]
          · simp [hs]
        · have : k < 0 ∨ 3 < k := by omega
          rw [decide_eq_false k0, decide_eq_false k1, decide_eq_false k2, decide_eq_false k3]
          rcases this with h | h
          · rw [decide_eq_true h]; rfl
          · rw [decide_eq_true h]; simp
theorem renc_enc (k : Int) (s : List UInt8) (n : Int) (b : Bool) (ck : Int) (nl : Bool) : rencR k s n (b2i b) ck (b2i nl) = encP k s n b ck nl := by
  unfold rencR encP
  rw [right_cell, b2i1, b2i1, b2i0]
  have hc : (decide (ck < 1) || decide (3 < ck)) = !colB ck := by
    unfold colB
    rw [Bool.eq_iff_iff]; simp only [Bool.or_eq_true, decide_eq_true_eq, Bool.not_eq_true', Bool.and_eq_false_iff, decide_eq_false_iff_not]; omega
  rw [hc]

/-! ### Decode -/
def nullV : Val := (0, [], 0, false)
def textD (s : List UInt8) (nl : Bool) : Val × Int :=
  cond (!validP s) (nullV, 14) (cond (!nl || !markB s) ((1, s, 0, false), 0) (cond (!markB (cutP s [92])) (nullV, 23) ((1, cutP s [92], 0, false), 0)))
/-- The value of a field; the error's number. -/
def decP (s : List UInt8) (ck : Int) (nl : Bool) : Val × Int :=
  cond (!colB ck) (nullV, 22) (cond (nl && decide (s = [])) (nullV, 0) (cond (decide (ck = 1)) (textD s nl) (cond (decide (ck = 2)) (cond (!decide ((parseP s).2 = 0)) (nullV, (parseP s).2) ((2, [], (parseP s).1, false), 0))
    (cond (decide (s = trueT)) ((3, [], 0, true), 0) (cond (decide (s = falseT)) ((3, [], 0, false), 0) (nullV, 19))))))
def c3 (p : Val × Int) : Option (AV × Store) := some (.tup [valAV p.1, .int .i64 p.2], [])
def r3 (p : Val × Int) : Option (AV × Store) := some (.tup [refAV p.1, .int .i64 p.2], [])
theorem ctext_ev (s : List UInt8) (nm : List UInt8) (ck : Int) (nl : Bool) : (evFn (ctx Tryd.prog (G0 (E2 e)) (m5 e)) noL Tryd.f53 [.str s, .agg [.str nm, .int .i64 ck, .bool nl]] []).get =
    cond (decide (s.length ≤ LIM)) (cond (!validP s) (c3 (nullV, 14)) (cond (!nl) (c3 ((1, s, 0, false), 0)) (cond (!markB s) (c3 ((1, s, 0, false), 0)) (cond (!markB (cutP s [92])) (c3 (nullV, 23)) (c3 ((1, cutP s [92], 0, false), 0)))))) none := by kernel_rfl
noncomputable def textDC : Con where
  spec := fun args st => match args, st with
    | [.str s, .agg [.str _, .int .i64 _, .bool nl]], [] => .need (decide (s.length ≤ LIM)) (.ret (.tup [valAV (textD s nl).1, .int .i64 (textD s nl).2], []))
    | _, _ => .no
  quiet := true
theorem okCText (hev : EvOK (E2 e)) : Con.ok Tryd.prog (G0 (E2 e)) 53 textDC :=
  loop_spec (okm5 hev) hm Tryd.func53 (by rfl) (by kernel_rfl) fun args st r h => by
    unfold textDC at h
    dsimp only at h
    split at h
    · rename_i s nm ck nl
      obtain ⟨h1, h2⟩ := need_get h
      refine ⟨noL, noL_ok, ?_⟩
      rw [ctext_ev, ← ret_get h2, h1]; unfold textD
      cases validP s <;> cases nl <;> cases markB s <;> cases markB (cutP s [92]) <;> rfl
    · exact (no_get h).elim
def rT23 (s : List UInt8) (nl : Int) : Option (AV × Store) :=
  cond (decide (0 < (s.length : Int))) (cond (decide ((1 : Int) ≤ (s.length : Int))) (cond (decide (([92] : List UInt8).length + (s.drop 1).length ≤ LIM) && inR 0) (cond (decide (fieldP 1 (s.drop 1) 0 (decide ((0 : Int) = 1)) (decide (nl = 1)) = s))
    (cond (decide ((1 : Int) ≤ (s.length : Int))) (r3 ((1, s.drop 1, 0, false), 0)) none) (r3 (nullV, 23))) none) none) (r3 (nullV, 23))
def rT1 (s : List UInt8) (nl : Int) : Option (AV × Store) :=
  cond (decide (s.length ≤ LIM)) (cond (decide ((wholeP s : Int) < (s.length : Int))) (r3 (nullV, 14)) (cond (decide (([92] : List UInt8).length + s.length ≤ LIM) && inR 0) (cond (decide (fieldP 1 s 0 (decide ((0 : Int) = 1)) (decide (nl = 1)) = s)) (r3 ((1, s, 0, false), 0)) (rT23 s nl)) none)) none
def rTk (s : List UInt8) (ck nl : Int) : Option (AV × Store) :=
  cond (decide (ck = 1)) (rT1 s nl) (cond (decide (ck = 2)) (cond (decide (s.length ≤ LIM)) (cond (!decide ((parseP s).2 = 0)) (r3 (nullV, (parseP s).2)) (r3 ((2, [], (parseP s).1, false), 0))) none)
    (cond (decide (s = trueT)) (r3 ((3, [], 0, true), 0)) (cond (decide (s = falseT)) (r3 ((3, [], 0, false), 0)) (r3 (nullV, 19)))))
theorem rdec_ev (s : List UInt8) (ck nl : Int) : (evFn (ctx Tryd.prog (G0 (E2 e)) (m5 e)) noL Tryd.f37 [.str s, .agg [.int .i64 ck, .int .i64 nl]] []).get =
    cond (decide (ck < 1)) (r3 (nullV, 22)) (cond (decide (3 < ck)) (r3 (nullV, 22)) (cond (decide (nl = 1)) (cond (decide (s = [])) (r3 (nullV, 0)) (rTk s ck nl)) (rTk s ck nl))) := by kernel_rfl
noncomputable def rdecC : Con where
  spec := fun args st => match args, st with
    | [.str s, .agg [.int .i64 ck, .int .i64 nl]], [] => .need (decide (([92] : List UInt8).length + s.length ≤ LIM)) (.ret (.tup [refAV (decP s ck (decide (nl = 1))).1, .int .i64 (decP s ck (decide (nl = 1))).2], []))
    | _, _ => .no
  quiet := true
theorem cut92 (r : List UInt8) : cutP (92 :: r) [92] = r := by
  unfold cutP preP
  have h1 : decide ((([92] : List UInt8).length : Int) ≤ ((92 :: r).length : Int)) = true := decide_eq_true (by simp only [List.length_cons, List.length_nil]; omega)
  have h2 : decide ((92 :: r).take [(92 : UInt8)].length = [92]) = true := by simp
  rw [h1, h2]; rfl
theorem rT1_eq {s : List UInt8} {nl : Int} (h : decide (([92] : List UInt8).length + s.length ≤ LIM) = true) (hn : ¬ (nl = 1 ∧ s = [])) : rT1 s nl = r3 (textD s (decide (nl = 1))) := by
  have hl : decide (s.length ≤ LIM) = true := by simp only [decide_eq_true_eq, List.length_cons, List.length_nil] at h ⊢; omega
  have hv : decide ((wholeP s : Int) < (s.length : Int)) = !validP s := by
    rw [valid_whole, Bool.eq_iff_iff]
    have := wholeP_le s
    simp only [decide_eq_true_eq, Bool.not_eq_true', decide_eq_false_iff_not]; omega
  unfold rT1 textD
  rw [hl, hv, h, show inR 0 = true from rfl]
  cases hvv : validP s with
  | false => rfl
  | true =>
    have hf : ∀ t : List UInt8, fieldP 1 t 0 (decide ((0 : Int) = 1)) (decide (nl = 1)) = cond (decide (nl = 1) && markB t) (92 :: t) t := fun t => rfl
    rw [hf]
    by_cases h1 : nl = 1
    · rw [decide_eq_true h1]
      cases hm' : markB s with
      | false =>
        simp only [Bool.true_and, cond_false, cond_true, Bool.not_true, Bool.not_false, Bool.or_true, Bool.and_self, decide_true]
      | true =>
        obtain ⟨r, rfl⟩ : ∃ r, s = 92 :: r := by
          rcases (markB_iff s).1 hm' with h | h
          · exact absurd ⟨h1, h⟩ hn
          · exact h
        have hne : decide (92 :: 92 :: r = 92 :: r) = false := decide_eq_false (fun k => by have := congrArg List.length k; simp at this)
        simp only [cond_true, Bool.not_true, cond_false, Bool.or_self, Bool.and_self, hne]
        unfold rT23
        have hd : decide (([92] : List UInt8).length + ((92 :: r).drop 1).length ≤ LIM) = true := by simp only [decide_eq_true_eq, List.length_cons, List.length_nil, List.drop_succ_cons, List.drop_zero] at h ⊢; omega
        rw [hd, hf, decide_eq_true h1, decide_eq_true (by simp only [List.length_cons]; omega : (0 : Int) < ((92 :: r : List UInt8).length : Int)), decide_eq_true (by simp only [List.length_cons]; omega : (1 : Int) ≤ ((92 :: r : List UInt8).length : Int)), cut92, show inR 0 = true from rfl]
        simp only [List.drop_succ_cons, List.drop_zero, Bool.true_and, Bool.and_self, cond_true]
        cases hmr : markB r with
        | true => simp only [cond_true, decide_true, Bool.not_true, cond_false]
        | false =>
          have : decide (r = 92 :: r) = false := decide_eq_false (fun k => by have := congrArg List.length k; simp at this)
          simp only [cond_false, this, Bool.not_false, cond_true]
    · rw [decide_eq_false h1]
      simp only [Bool.false_and, cond_false, cond_true, Bool.not_true, Bool.not_false, Bool.true_or, Bool.and_self, decide_true]
theorem okRDec (hev : EvOK (E2 e)) : Con.ok Tryd.prog (G0 (E2 e)) 37 rdecC :=
  loop_spec (okm5 hev) hm Tryd.func37 (by rfl) (by kernel_rfl) fun args st r h => by
    unfold rdecC at h
    dsimp only at h
    split at h
    · rename_i s ck nl
      obtain ⟨h1, h2⟩ := need_get h
      refine ⟨noL, noL_ok, ?_⟩
      have hl : decide (s.length ≤ LIM) = true := by simp only [decide_eq_true_eq, List.length_cons, List.length_nil] at h1 ⊢; omega
      have hc : (decide (ck < 1) || decide (3 < ck)) = !colB ck := by
        unfold colB
        rw [Bool.eq_iff_iff]; simp only [Bool.or_eq_true, decide_eq_true_eq, Bool.not_eq_true', Bool.and_eq_false_iff, decide_eq_false_iff_not]; omega
      have hk : ¬ (nl = 1 ∧ s = []) → rTk s ck nl = r3 (cond (decide (ck = 1)) (textD s (decide (nl = 1))) (cond (decide (ck = 2)) (cond (!decide ((parseP s).2 = 0)) (nullV, (parseP s).2) ((2, [], (parseP s).1, false), 0))
          (cond (decide (s = trueT)) ((3, [], 0, true), 0) (cond (decide (s = falseT)) ((3, [], 0, false), 0) (nullV, 19))))) := by
        intro hn
        unfold rTk
        rw [rT1_eq h1 hn, hl]
        cases decide (ck = 1) <;> cases decide (ck = 2) <;> cases decide ((parseP s).2 = 0) <;> cases decide (s = trueT) <;> cases decide (s = falseT) <;> rfl
      rw [rdec_ev, ← ret_get h2]
      show _ = r3 (decP s ck (decide (nl = 1)))
      unfold decP
      rw [← hc]
      cases decide (ck < 1) with
      | true => rfl
      | false =>
        cases decide (3 < ck) with
        | true => rfl
        | false =>
          by_cases n1 : nl = 1
          · by_cases hs : s = []
            · rw [decide_eq_true n1, decide_eq_true hs]; rfl
            · rw [hk (fun k => hs k.2), decide_eq_true n1, decide_eq_false hs]; rfl
          · rw [hk (fun k => n1 k.1), decide_eq_false n1]; rfl
    · exact (no_get h).elim
noncomputable def m6 (e : Option Value) : List (Nat × Con) := (37, rdecC) :: (53, textDC) :: (33, rencC) :: m5 e
theorem okm6 (hev : EvOK (E2 e)) : AllOK Tryd.prog (G0 (E2 e)) (m6 e) := ⟨okRDec hev, okCText hev, okREnc hev, okm5 hev⟩
end Go.Proofs.YtpiphiieflnabaaDoor

namespace Go.Proofs.YtpiphiieflnabaaDoor
open Go Go.Abs
set_option maxRecDepth 100000
variable {e : Option Value}

def cTk (e : Option Value) (s : List UInt8) (ck : Int) (nl : Bool) : Option (AV × Store) :=
  cond (decide (ck = 1)) (cond (decide (s.length ≤ LIM)) (c3 (textD s nl)) none) (cond (decide (ck = 2)) (cond (e.isSome && decide (s.length ≤ LIM)) (cond (!decide ((parseP s).2 = 0)) (c3 (nullV, (parseP s).2)) (c3 ((2, [], (parseP s).1, false), 0))) none)
    (cond (decide (s = trueT)) (c3 ((3, [], 0, decide (s = trueT)), 0)) (cond (decide (s = falseT)) (c3 ((3, [], 0, decide (s = trueT)), 0)) (c3 (nullV, 19)))))
theorem dec_ev (s : List UInt8) (nm : List UInt8) (ck : Int) (nl : Bool) : (evFn (ctx Tryd.prog (G0 (E2 e)) (m6 e)) noL Tryd.f36 [.str s, .agg [.str nm, .int .i64 ck, .bool nl]] []).get =
    cond (!colB ck) (c3 (nullV, 22)) (cond nl (cond (decide (s = [])) (c3 (nullV, 0)) (cTk e s ck nl)) (cTk e s ck nl)) := by kernel_rfl
noncomputable def decC (e : Option Value) : Con where
  spec := fun args st => match args, st with
    | [.str s, .agg [.str _, .int .i64 ck, .bool nl]], [] => .need (e.isSome && decide (s.length ≤ LIM)) (.ret (.tup [valAV (decP s ck nl).1, .int .i64 (decP s ck nl).2], []))
    | _, _ => .no
  quiet := true
theorem cTk_eq {s : List UInt8} {ck : Int} {nl : Bool} (h1 : e.isSome = true) (h2 : decide (s.length ≤ LIM) = true) : cTk e s ck nl = c3 (cond (decide (ck = 1)) (textD s nl) (cond (decide (ck = 2)) (cond (!decide ((parseP s).2 = 0)) (nullV, (parseP s).2) ((2, [], (parseP s).1, false), 0))
    (cond (decide (s = trueT)) ((3, [], 0, true), 0) (cond (decide (s = falseT)) ((3, [], 0, false), 0) (nullV, 19))))) := by
  unfold cTk
  rw [h1, h2]
  cases decide (ck = 1) <;> cases decide (ck = 2) <;> cases decide ((parseP s).2 = 0) <;> cases decide (s = trueT) <;> cases decide (s = falseT) <;> rfl
theorem okDec (hev : EvOK (E2 e)) : Con.ok Tryd.prog (G0 (E2 e)) 36 (decC e) :=
  loop_spec (okm6 hev) hm Tryd.func36 (by rfl) (by kernel_rfl) fun args st r h => by
    unfold decC at h
    dsimp only at h
    split at h
    · rename_i s nm ck nl
      obtain ⟨h1, h2⟩ := need_get h
      simp only [Bool.and_eq_true] at h1
      refine ⟨noL, noL_ok, ?_⟩
      rw [dec_ev, ← ret_get h2, cTk_eq h1.1 h1.2]
      show _ = c3 (decP s ck nl)
      unfold decP
      cases colB ck <;> cases nl <;> cases decide (s = []) <;> rfl
    · exact (no_get h).elim
noncomputable def m7 (e : Option Value) : List (Nat × Con) := (36, decC e) :: m6 e
theorem okm7 (hev : EvOK (E2 e)) : AllOK Tryd.prog (G0 (E2 e)) (m7 e) := ⟨okDec hev, okm6 hev⟩
end Go.Proofs.YtpiphiieflnabaaDoor

namespace Go.Proofs.YtpiphiieflnabaaDoor
open Go Go.Abs
set_option maxRecDepth 100000
variable {v : Value}

theorem valid92 (s : List UInt8) : validP (92 :: s) = validP s := by
  unfold validP
  rw [valid_ok, valid_ok]
  exact to_state (a := 92) (t := 0) (by rw [utf0]; rfl) s
theorem dec_enc {k : Int} {s : List UInt8} {n : Int} {b : Bool} {ck : Int} {nl : Bool} (hn : inR n = true) (h : (encP k s n b ck nl).2 = 0) : decP (encP k s n b ck nl).1 ck nl = ((k, s, n, b), 0) := by
  obtain ⟨hc, hr, hf, hk⟩ := enc_ok h
  rw [hf]
  unfold decP
  rw [hc]
  simp only [Bool.not_true, cond_false]
  rcases hk with ⟨rfl, rfl⟩ | rfl
  · obtain ⟨rfl, rfl, rfl⟩ := cell_0 hr
    rfl
  · rcases col_cases hc with rfl | rfl | rfl
    · obtain ⟨rfl, rfl, hv⟩ := cell_1 hr
      have hfe : fieldP 1 s 0 false nl = cond (nl && markB s) (92 :: s) s := rfl
      rw [hfe, decide_eq_true (rfl : (1 : Int) = 1), cond_true]
      unfold textD
      cases nl with
      | false => simp only [Bool.false_and, cond_false, hv, Bool.not_true, Bool.not_false, Bool.true_or, cond_true]
      | true =>
        have hne : decide (cond (markB s) (92 :: s) s = []) = false := decide_eq_false mark_ne
        simp only [Bool.true_and, hne, cond_false, Bool.not_true, Bool.false_or]
        cases hm' : markB s with
        | true =>
          have h2 : markB (92 :: s) = true := (markB_iff _).2 (.inr ⟨s, rfl⟩)
          simp only [cond_true, valid92, hv, Bool.not_true, cond_false, h2, cut92, hm']
        | false => simp only [cond_false, hv, Bool.not_true, hm', Bool.not_false, cond_true]
    · obtain ⟨rfl, rfl⟩ := cell_2 hr
      have hfe : fieldP 2 [] n false nl = Lib.itoa n := rfl
      rw [hfe, decide_eq_false (itoa_ne n), parse_itoa hn, Bool.and_false]; rfl
    · obtain ⟨rfl, rfl⟩ := cell_3 hr
      cases b <;> cases nl <;> rfl
theorem enc_of {k : Int} {s : List UInt8} {n : Int} {b : Bool} {ck : Int} {nl : Bool} (hc : colB ck = true) (hr : cellR k s n b = true) (hk : (k = 0 ∧ nl = true) ∨ k = ck) : encP k s n b ck nl = (fieldP k s n b nl, 0) := by
  unfold encP
  rw [hc, hr]
  rcases hk with ⟨rfl, rfl⟩ | rfl
  · rfl
  · have : k ≠ 0 := by rcases col_cases hc with rfl | rfl | rfl <;> decide
    rw [decide_eq_false this, decide_eq_true (rfl : k = k)]; rfl
/-- What is known of the value of a field. -/
theorem enc_dec {s : List UInt8} {ck : Int} {nl : Bool} (h : (decP s ck nl).2 = 0) :
    encP (decP s ck nl).1.1 (decP s ck nl).1.2.1 (decP s ck nl).1.2.2.1 (decP s ck nl).1.2.2.2 ck nl = (s, 0) ∧ cellR (decP s ck nl).1.1 (decP s ck nl).1.2.1 (decP s ck nl).1.2.2.1 (decP s ck nl).1.2.2.2 = true ∧
      inR (decP s ck nl).1.2.2.1 = true ∧ (decP s ck nl).1.2.1.length ≤ s.length := by
  have key : ∀ {k : Int} {t : List UInt8} {n : Int} {b : Bool}, decP s ck nl = ((k, t, n, b), 0) → colB ck = true → cellR k t n b = true → ((k = 0 ∧ nl = true) ∨ k = ck) → fieldP k t n b nl = s → inR n = true → t.length ≤ s.length →
      encP (decP s ck nl).1.1 (decP s ck nl).1.2.1 (decP s ck nl).1.2.2.1 (decP s ck nl).1.2.2.2 ck nl = (s, 0) ∧ cellR (decP s ck nl).1.1 (decP s ck nl).1.2.1 (decP s ck nl).1.2.2.1 (decP s ck nl).1.2.2.2 = true ∧
      inR (decP s ck nl).1.2.2.1 = true ∧ (decP s ck nl).1.2.1.length ≤ s.length := by
    intro k t n b e h1 h2 h3 h4 h5 h6
    rw [e]
    exact ⟨by rw [enc_of h1 h2 h3, h4], h2, h5, h6⟩
  cases hc : colB ck with
  | false =>
    have e : decP s ck nl = (nullV, 22) := by unfold decP; rw [hc]; rfl
    rw [e] at h; exact absurd (show (22 : Int) = 0 from h) (by decide)
  | true =>
    cases h0 : nl && decide (s = []) with
    | true =>
      simp only [Bool.and_eq_true, decide_eq_true_eq] at h0
      obtain ⟨rfl, rfl⟩ := h0
      exact key (k := 0) (t := []) (n := 0) (b := false) (by unfold decP; rw [hc]; rfl) hc rfl (.inl ⟨rfl, rfl⟩) rfl rfl (Nat.le_refl _)
    | false =>
      have e : decP s ck nl = cond (decide (ck = 1)) (textD s nl) (cond (decide (ck = 2)) (cond (!decide ((parseP s).2 = 0)) (nullV, (parseP s).2) ((2, [], (parseP s).1, false), 0))
          (cond (decide (s = trueT)) ((3, [], 0, true), 0) (cond (decide (s = falseT)) ((3, [], 0, false), 0) (nullV, 19)))) := by unfold decP; rw [hc, h0]; rfl
      rcases col_cases hc with rfl | rfl | rfl
      · have e1 : decP s 1 nl = textD s nl := e
        cases hv : validP s with
        | false =>
          have e2 : textD s nl = (nullV, 14) := by unfold textD; rw [hv]; rfl
          rw [e1, e2] at h; exact absurd (show (14 : Int) = 0 from h) (by decide)
        | true =>
          cases hm' : nl && markB s with
          | false =>
            have e2 : textD s nl = ((1, s, 0, false), 0) := by
              unfold textD; rw [hv]
              cases nl <;> cases hms : markB s <;> rw [hms] at hm' <;> first | rfl | cases hm'
            refine key (e1.trans e2) hc ?_ (.inr rfl) ?_ rfl (Nat.le_refl _)
            · unfold cellR; simp [hv]
            · show cond (nl && markB s) (92 :: s) s = s
              rw [hm']; rfl
          | true =>
            simp only [Bool.and_eq_true] at hm'
            obtain ⟨rfl, hms⟩ := hm'
            obtain ⟨r, rfl⟩ : ∃ r, s = 92 :: r := by
              rcases (markB_iff s).1 hms with h | h
              · subst h; exact absurd h0 (by decide)
              · exact h
            cases hmr : markB r with
            | false =>
              have e2 : textD (92 :: r) true = (nullV, 23) := by unfold textD; rw [hv, hms, cut92, hmr]; rfl
              rw [e1, e2] at h; exact absurd (show (23 : Int) = 0 from h) (by decide)
            | true =>
              have e2 : textD (92 :: r) true = ((1, r, 0, false), 0) := by unfold textD; rw [hv, hms, cut92, hmr]; rfl
              refine key (e1.trans e2) hc ?_ (.inr rfl) ?_ rfl (by simp)
              · rw [valid92] at hv
                unfold cellR; simp [hv]
              · show cond (true && markB r) (92 :: r) r = 92 :: r
                rw [hmr]; rfl
      · have e1 : decP s 2 nl = cond (!decide ((parseP s).2 = 0)) (nullV, (parseP s).2) ((2, [], (parseP s).1, false), 0) := e
        by_cases hp : (parseP s).2 = 0
        · rw [decide_eq_true hp] at e1
          have hf : form s = true ∧ inR (numV s) = true ∧ (parseP s).1 = numV s := by
            unfold parseP at hp ⊢
            cases hf : form s with
            | false => rw [hf] at hp; exact absurd (show (17 : Int) = 0 from hp) (by decide)
            | true =>
              cases hr : inR (numV s) with
              | false => rw [hf, hr] at hp; exact absurd (show (18 : Int) = 0 from hp) (by decide)
              | true => exact ⟨rfl, rfl, rfl⟩
          refine key e1 hc ?_ (.inr rfl) ?_ ?_ (by simp)
          · unfold cellR; simp
          · show Lib.itoa (parseP s).1 = s
            rw [hf.2.2]; exact itoa_of hf.1
          · rw [hf.2.2]; exact hf.2.1
        · rw [decide_eq_false hp] at e1
          rw [e1] at h; exact absurd (show (parseP s).2 = 0 from h) hp
      · have e1 : decP s 3 nl = cond (decide (s = trueT)) ((3, [], 0, true), 0) (cond (decide (s = falseT)) ((3, [], 0, false), 0) (nullV, 19)) := e
        by_cases ht : s = trueT
        · subst ht
          exact key (k := 3) (t := []) (n := 0) (b := true) e1 hc rfl (.inr rfl) rfl rfl (by simp)
        · rw [decide_eq_false ht] at e1
          by_cases hf : s = falseT
          · subst hf
            exact key (k := 3) (t := []) (n := 0) (b := false) e1 hc rfl (.inr rfl) rfl rfl (by simp)
          · rw [decide_eq_false hf] at e1
            rw [e1] at h; exact absurd (show (19 : Int) = 0 from h) (by decide)

/-! ### The laws -/
theorem encodes_ev (k n : Int) (s : List UInt8) (b : Bool) (nm : List UInt8) (ck : Int) (nl : Bool) :
    (evFn (ctx Tryd.prog (G0 (E2 (some v))) (m7 (some v))) noL Tryd.f11 [.agg [.int .i64 k, .str s, .int .i64 n, .bool b], .agg [.str nm, .int .i64 ck, .bool nl]] []).get =
    cond (decide (200 < (s.length : Int))) (bo true) (cond (decide (([92] : List UInt8).length + s.length ≤ LIM) && inR n) (cond (decide (([92] : List UInt8).length + s.length ≤ LIM) && inR n)
      (cond (!decide ((encP k s n b ck nl).1 = (rencR k s n (b2i b) ck (b2i nl)).1)) (bo false) (cond (!decide ((encP k s n b ck nl).2 = (rencR k s n (b2i b) ck (b2i nl)).2)) (bo false)
        (cond (decide (s.length ≤ LIM)) (cond (decide (s.length ≤ LIM)) (cond (!(cellR k s n b == rightR k s n (b2i b))) (bo false) (cond (!decide ((encP k s n b ck nl).2 = 0)) (bo true)
          (cond (decide ((encP k s n b ck nl).1.length ≤ LIM)) (cond (decide ((decP (encP k s n b ck nl).1 ck nl).1.1 = k) && (decide ((decP (encP k s n b ck nl).1 ck nl).1.2.1 = s) && (decide ((decP (encP k s n b ck nl).1 ck nl).1.2.2.1 = n) && (((decP (encP k s n b ck nl).1 ck nl).1.2.2.2 == b) && true))))
            (cond (decide ((decP (encP k s n b ck nl).1 ck nl).2 = 0)) (bo true) (bo false)) (bo false)) none))) none) none))) none) none) := by kernel_rfl
theorem field_len {k : Int} {s : List UInt8} {n : Int} {b nl : Bool} (h : ¬ (200 : Int) < (s.length : Int)) (hn : inR n = true) : decide ((fieldP k s n b nl).length ≤ LIM) = true := by
  have h1 := itoa_lim hn
  simp only [decide_eq_true_eq] at h1 ⊢
  have h2 : s.length + 1 ≤ LIM := by unfold LIM; omega
  have h3 : trueT.length ≤ LIM ∧ falseT.length ≤ LIM := by unfold LIM; decide
  unfold fieldP
  cases decide (k = 1) <;> cases decide (k = 2) <;> cases decide (k = 3) <;> cases nl && markB s <;> cases b <;> first | exact h1 | exact h3.1 | exact h3.2 | (show (92 :: s).length ≤ LIM; simpa using h2) | (show s.length ≤ LIM; omega)
theorem encodes_true (k : Int) (s : List UInt8) (n : Int) (b : Bool) (nm : List UInt8) (ck : Int) (nl : Bool) (hn : inR n = true) :
    (evFn (ctx Tryd.prog (G0 (E2 (some v))) (m7 (some v))) noL Tryd.f11 [.agg [.int .i64 k, .str s, .int .i64 n, .bool b], .agg [.str nm, .int .i64 ck, .bool nl]] []).get = some (.bool true, []) := by
  rw [encodes_ev]
  by_cases hl : (200 : Int) < (s.length : Int)
  · rw [decide_eq_true hl]; rfl
  · rw [decide_eq_false hl, lenOK hl, hn, renc_enc, right_cell, decide_eq_true (show s.length ≤ LIM by unfold LIM; omega)]
    simp only [decide_true, Bool.not_true, cond_false, Bool.and_self, cond_true, beq_self_eq_true]
    by_cases h : (encP k s n b ck nl).2 = 0
    · rw [dec_enc hn h, decide_eq_true h]
      have hlen : decide ((encP k s n b ck nl).1.length ≤ LIM) = true := by rw [(enc_ok h).2.2.1]; exact field_len hl hn
      rw [hlen]
      simp only [decide_true, Bool.not_true, cond_false, Bool.and_self, cond_true, beq_self_eq_true]; rfl
    · rw [decide_eq_false h]; rfl
theorem decodes_ev (s : List UInt8) (nm : List UInt8) (ck : Int) (nl : Bool) : (evFn (ctx Tryd.prog (G0 (E2 (some v))) (m7 (some v))) noL Tryd.f12 [.str s, .agg [.str nm, .int .i64 ck, .bool nl]] []).get =
    cond (decide (200 < (s.length : Int))) (bo true) (cond (decide (s.length ≤ LIM)) (cond (decide (([92] : List UInt8).length + s.length ≤ LIM))
      (cond (!(decide ((decP s ck nl).1.1 = (decP s ck (decide (b2i nl = 1))).1.1) && (decide ((decP s ck nl).1.2.1 = (decP s ck (decide (b2i nl = 1))).1.2.1) && (decide ((decP s ck nl).1.2.2.1 = (decP s ck (decide (b2i nl = 1))).1.2.2.1) && (decide (b2i (decP s ck nl).1.2.2.2 = b2i (decP s ck (decide (b2i nl = 1))).1.2.2.2) && true))))) (bo false)
        (cond (!decide ((decP s ck nl).2 = (decP s ck (decide (b2i nl = 1))).2)) (bo false) (cond (!decide ((decP s ck nl).2 = 0)) (bo true) (cond (decide (([92] : List UInt8).length + (decP s ck nl).1.2.1.length ≤ LIM) && inR (decP s ck nl).1.2.2.1)
          (cond (decide ((encP (decP s ck nl).1.1 (decP s ck nl).1.2.1 (decP s ck nl).1.2.2.1 (decP s ck nl).1.2.2.2 ck nl).1 = s)) (cond (decide ((encP (decP s ck nl).1.1 (decP s ck nl).1.2.1 (decP s ck nl).1.2.2.1 (decP s ck nl).1.2.2.2 ck nl).2 = 0))
            (cond (decide ((decP s ck nl).1.2.1.length ≤ LIM)) (cond (rightR (decP s ck nl).1.1 (decP s ck nl).1.2.1 (decP s ck nl).1.2.2.1 (b2i (decP s ck nl).1.2.2.2)) (bo true) (bo false)) none) (bo false)) (bo false)) none)))) none) none) := by kernel_rfl
theorem decodes_true (s : List UInt8) (nm : List UInt8) (ck : Int) (nl : Bool) : (evFn (ctx Tryd.prog (G0 (E2 (some v))) (m7 (some v))) noL Tryd.f12 [.str s, .agg [.str nm, .int .i64 ck, .bool nl]] []).get = some (.bool true, []) := by
  rw [decodes_ev]
  by_cases hl : (200 : Int) < (s.length : Int)
  · rw [decide_eq_true hl]; rfl
  · rw [decide_eq_false hl, lenOK hl, b2i1, decide_eq_true (show s.length ≤ LIM by unfold LIM; omega)]
    simp only [decide_true, Bool.not_true, cond_false, Bool.and_self, cond_true]
    by_cases h : (decP s ck nl).2 = 0
    · obtain ⟨h1, h2, h3, h4⟩ := enc_dec h
      rw [decide_eq_true h, h1, right_cell, h2, h3, decide_eq_true (show ([92] : List UInt8).length + (decP s ck nl).1.2.1.length ≤ LIM by simp only [List.length_cons, List.length_nil]; unfold LIM; omega), decide_eq_true (show (decP s ck nl).1.2.1.length ≤ LIM by unfold LIM; omega)]
      simp only [decide_true, Bool.not_true, cond_false, Bool.and_self, cond_true]; rfl
    · rw [decide_eq_false h]; rfl
end Go.Proofs.YtpiphiieflnabaaDoor

