/- UTF-8 (utf.Step, Run, Bad, Valid): what they do. Conditions: the table of UTF-8 is known. -/
import Derived.Test.YtpiphiieflnabaaDoorD18
namespace Go.Proofs.YtpiphiieflnabaaDoor
open Go Go.Abs
set_option maxRecDepth 100000
variable {e : Option Value}
noncomputable abbrev E2 (e : Option Value) : Env := ⟨e, some utfT⟩

/-! ### utf.Step -/
noncomputable def cU : Code := Tryd.f89.body.getD .skip
noncomputable def bodyU : Code := (loopAt cU 0).getD .skip
theorem hcU : Tryd.f89.body = some cU := by kernel_rfl
theorem hbU : loopAt cU 0 = some bodyU := by kernel_rfl
noncomputable abbrev XU (e : Option Value) : Ctx := ctx Tryd.prog (G0 (E2 e)) []
noncomputable def SU (b : Int) (xs : List spanK.α) (n i : Int) : St := stOf Tryd.f89.ntmps [1, 10, 11, 12] [.int .u8 b, .seq spanK xs, .int .i64 n, .int .i64 i] []
noncomputable def OU (x y : AV) : St := stOf Tryd.f89.ntmps [4, 5] [x, y] []
theorem roundU (b : Int) (xs : List spanK.α) (n i : Int) (T : St → Tr (Ex × St)) : (evRound (XU e) noL [] bodyU 1 [1, 10, 11, 12] [4, 5] (SU b xs n i) T).get =
    cond (decide (i < n)) (cond (decide (0 ≤ i)) (atL xs i.toNat fun s => cond (decide (s.1 ≤ b)) (cond (decide (b ≤ s.2.1)) (some (.ret, OU (.int .i64 s.2.2) (.bool true))) (T (SU b xs n (IntKind.i64.wrap (i + 1)))).get)
      (T (SU b xs n (IntKind.i64.wrap (i + 1)))).get) none) (some (.exit 0, OU .top .top)) := by kernel_rfl

/-- What the spans of a state make of a byte. -/
def spanGo (b : Int) : List (Int × Int × Int) → Option Int
  | [] => none
  | s :: r => cond (decide (s.1 ≤ b) && decide (b ≤ s.2.1)) (some s.2.2) (spanGo b r)
noncomputable def resU : Option Int → Ex × St
  | some n => (.ret, OU (.int .i64 n) (.bool true))
  | none => (.exit 0, OU .top .top)
theorem loopU (b : Int) (xs : List (Int × Int × Int)) (hl : xs.length ≤ LIM) : LoopSem (XU e) [] bodyU (SU b xs xs.length 0) (resU (spanGo b xs)) := by
  have := loop_meas (X := (XU e)) (ctx_ok (l := []) trivial) hm (L := noL) (n0 := []) (body := bodyU) (off := 1) (live := [1, 10, 11, 12]) (out := [4, 5]) noL_ok (fun i : Nat => SU b xs xs.length i) (fun i => resU (spanGo b (xs.drop i))) (fun i => xs.length - i) (fun i => i ≤ xs.length) ?_ 0 (by omega)
  · simpa using this
  intro i hi
  unfold LIM at hl
  by_cases he : i < xs.length
  · have hx : xs[i]? = some xs[i] := List.getElem?_eq_getElem he
    have hw : IntKind.i64.wrap ((i : Int) + 1) = ((i + 1 : Nat) : Int) := by rw [wrap64 (by omega) (by omega)]; simp
    have hr : ∀ T, (evRound (XU e) noL [] bodyU 1 [1, 10, 11, 12] [4, 5] (SU b xs xs.length i) T).get = cond (decide ((xs[i]).1 ≤ b)) (cond (decide (b ≤ (xs[i]).2.1)) (some (.ret, OU (.int .i64 (xs[i]).2.2) (.bool true))) (T (SU b xs xs.length ((i + 1 : Nat) : Int))).get) (T (SU b xs xs.length ((i + 1 : Nat) : Int))).get := by
      intro T
      rw [roundU, decide_eq_true (by omega : (i : Int) < xs.length), decide_eq_true (by omega : (0 : Int) ≤ i), atL_some (show (xs : List spanK.α)[(i : Int).toNat]? = some _ from hx), hw]
      rfl
    rw [List.drop_eq_getElem_cons he]
    cases h1 : decide ((xs[i]).1 ≤ b) <;> rw [h1] at hr
    · exact .inr ⟨i + 1, by omega, by omega, by simp [spanGo, h1], fun T => by rw [hr]; rfl⟩
    · cases h2 : decide (b ≤ (xs[i]).2.1) <;> rw [h2] at hr
      · exact .inr ⟨i + 1, by omega, by omega, by simp [spanGo, h1, h2], fun T => by rw [hr]; rfl⟩
      · exact .inl fun T => by rw [hr]; simp [spanGo, h1, h2, resU]
  · have : i = xs.length := by omega
    subst this
    refine .inl fun T => ?_
    rw [roundU, decide_eq_false (by omega), List.drop_of_length_le (Nat.le_refl _)]
    rfl
noncomputable def specU (vals : List AV) (st : Store) : Tr (Ex × St) :=
  match vals, st with
  | [.int .u8 b, .seq (.pair (.int .u8) (.pair (.int .u8) (.int .i64))) xs, .int .i64 n, .int .i64 i], [] => .need (decide (i = 0)) (.need (decide (n = xs.length) && decide (xs.length ≤ LIM)) (.br (spanGo b xs).isSome (.ret (.ret, OU (.int .i64 ((spanGo b xs).getD 0)) (.bool true))) (.ret (.exit 0, OU .top .top))))
  | _, _ => .no
theorem specU_ok : LoopOK (XU e) [] bodyU Tryd.f89.ntmps [1, 10, 11, 12] specU := by
  intro vals st r h
  unfold specU at h
  split at h
  · rename_i b xs n i
    obtain ⟨h1, hA⟩ := need_get h
    obtain ⟨h2, hB⟩ := need_get hA
    simp only [Bool.and_eq_true, decide_eq_true_eq] at h1 h2
    have := loopU (e := e) b xs h2.2
    rw [h1, h2.1]
    cases hs : spanGo b xs with
    | none => rw [hs] at hB this; have e := ret_get (show (Tr.ret (Ex.exit 0, OU .top .top)).get = some r from hB); rw [← e]; exact this
    | some k => rw [hs] at hB this; have e := ret_get (show (Tr.ret (Ex.ret, OU (.int .i64 k) (.bool true))).get = some r from hB); rw [← e]; exact this
  · exact (no_get h).elim
noncomputable def LU : Nat → St → Tr (Ex × St) := loops [(0, loopL [] Tryd.f89.ntmps [1, 10, 11, 12] specU)]
theorem utf_ev (s b : Int) : (evFn (XU e) LU Tryd.f89 [.int .i64 s, .int .u8 b] []).get =
    cond (decide (0 ≤ s)) (atL spans s.toNat fun xs => cond (decide ((xs.length : Int) = xs.length) && decide (xs.length ≤ LIM)) (cond (spanGo b xs).isSome (some (.tup [.int .i64 ((spanGo b xs).getD 0), .bool true], [])) (some (.tup [.int .i64 0, .bool false], []))) none) none := by kernel_rfl
/-- The state behind a byte. -/
def utfP (s b : Int) : Option Int := spanGo b (spans.getD s.toNat [])
noncomputable def utfC : Con where
  spec := fun args st => match args, st with | [.int .i64 s, .int .u8 b], [] => .need (decide (0 ≤ s) && decide (s < 8)) (.ret (.tup [.int .i64 ((utfP s b).getD 0), .bool (utfP s b).isSome], [])) | _, _ => .no
  quiet := true
theorem spans_short : ∀ xs ∈ spans, xs.length ≤ 9 := by decide
theorem okUtf : Con.ok Tryd.prog (G0 (E2 e)) 89 utfC :=
  loop_spec (l := []) trivial hm Tryd.func89 hcU (by kernel_rfl) fun args st r h => by
    unfold utfC at h
    dsimp only at h
    split at h
    · rename_i s b
      obtain ⟨h1, h2⟩ := need_get h
      simp only [Bool.and_eq_true, decide_eq_true_eq] at h1
      refine ⟨LU, loops_ok ⟨loop_entry (n := 0) hbU specU_ok, trivial⟩, ?_⟩
      have hlt : s.toNat < spans.length := by show s.toNat < 8; omega
      have hx : spans[s.toNat]? = some spans[s.toNat] := List.getElem?_eq_getElem hlt
      have hl := spans_short _ (List.getElem_mem hlt)
      rw [utf_ev, decide_eq_true h1.1, atL_some hx, ← ret_get h2, decide_eq_true (rfl : ((spans[s.toNat]).length : Int) = _), decide_eq_true (show (spans[s.toNat]).length ≤ LIM by unfold LIM; omega)]
      unfold utfP
      rw [List.getD_eq_getElem?_getD, hx]
      simp only [Option.getD_some]
      cases spanGo b spans[s.toNat] <;> rfl
    · exact (no_get h).elim
/-- Where a state goes, a state is. -/
theorem utfP_lt {s b n : Int} (h : utfP s b = some n) : 0 ≤ n ∧ n < 8 := by
  have key : ∀ xs : List (Int × Int × Int), (∀ x ∈ xs, 0 ≤ x.2.2 ∧ x.2.2 < 8) → ∀ n, spanGo b xs = some n → 0 ≤ n ∧ n < 8 := by
    intro xs
    induction xs with
    | nil => intro _ n h; cases h
    | cons x xs ih =>
      intro hx n h
      simp only [spanGo] at h
      cases hc : decide (x.1 ≤ b) && decide (b ≤ x.2.1) <;> rw [hc] at h
      · exact ih (fun y hy => hx y (List.mem_cons_of_mem _ hy)) n h
      · cases h; exact hx x (by simp)
  have all : ∀ xs ∈ spans, ∀ x ∈ xs, (0 : Int) ≤ x.2.2 ∧ x.2.2 < 8 := by decide
  unfold utfP at h
  by_cases hs : s.toNat < spans.length
  · rw [List.getD_eq_getElem?_getD, List.getElem?_eq_getElem hs] at h
    exact key _ (all _ (List.getElem_mem hs)) n h
  · rw [List.getD_eq_getElem?_getD, List.getElem?_eq_none (by omega)] at h
    cases h

/-! ### utf.Run -/
/-- The state behind as many bytes as go on, how many these are, whether they are all. -/
def runL : Int → List UInt8 → Int × Nat × Bool
  | st, [] => (st, 0, true)
  | st, c :: r =>
    match utfP st (bI c) with
    | none => (st, 0, false)
    | some t => ((runL t r).1, (runL t r).2.1 + 1, (runL t r).2.2)
noncomputable def cR : Code := Tryd.f78.body.getD .skip
noncomputable def bodyR : Code := (loopAt cR 0).getD .skip
theorem hcR : Tryd.f78.body = some cR := by kernel_rfl
theorem hbR : loopAt cR 0 = some bodyR := by kernel_rfl
noncomputable def u1 : List (Nat × Con) := [(89, utfC)]
theorem oku1 : AllOK Tryd.prog (G0 (E2 e)) u1 := ⟨okUtf, trivial⟩
noncomputable abbrev XR (e : Option Value) : Ctx := ctx Tryd.prog (G0 (E2 e)) u1
noncomputable def SR (st : Int) (s : List UInt8) (n i : Int) : St := stOf Tryd.f78.ntmps [0, 1, 10, 11] [.int .i64 st, .str s, .int .i64 n, .int .i64 i] []
noncomputable def OR (st : Int) (s : List UInt8) (x y : AV) : St := stOf Tryd.f78.ntmps [0, 1, 4, 5] [.int .i64 st, .str s, x, y] []
theorem roundR (st : Int) (s : List UInt8) (n i : Int) (T : St → Tr (Ex × St)) : (evRound (XR e) noL [] bodyR 1 [0, 1, 10, 11] [0, 1, 4, 5] (SR st s n i) T).get =
    cond (decide (i < n)) (cond (decide (0 ≤ i)) (atL s i.toNat fun c => cond (decide (0 ≤ st) && decide (st < 8)) (cond (!(utfP st (c.toNat : Int)).isSome) (some (.ret, OR st s (.int .i64 st) (.int .i64 i)))
      (T (SR ((utfP st (c.toNat : Int)).getD 0) s n (IntKind.i64.wrap (i + 1)))).get) none) none) (some (.exit 0, OR st s .top .top)) := by kernel_rfl
noncomputable def resR (s : List UInt8) (i : Nat) (q : Int × Nat × Bool) : Ex × St := cond q.2.2 (.exit 0, OR q.1 s .top .top) (.ret, OR q.1 s (.int .i64 q.1) (.int .i64 ((i + q.2.1 : Nat) : Int)))
theorem loopRu (s : List UInt8) (st : Int) (hst : 0 ≤ st ∧ st < 8) (hl : s.length ≤ LIM) : LoopSem (XR e) [] bodyR (SR st s s.length 0) (resR s 0 (runL st s)) := by
  have := loop_meas (X := XR e) (ctx_ok oku1) hm (L := noL) (n0 := []) (body := bodyR) (off := 1) (live := [0, 1, 10, 11]) (out := [0, 1, 4, 5]) noL_ok (fun q : Nat × Int => SR q.2 s s.length q.1) (fun q => resR s q.1 (runL q.2 (s.drop q.1))) (fun q => s.length - q.1) (fun q => q.1 ≤ s.length ∧ 0 ≤ q.2 ∧ q.2 < 8) ?_ (0, st) ⟨by simp, hst⟩
  · simpa using this
  rintro ⟨i, t⟩ ⟨hi, h0, h8⟩
  dsimp only at hi h0 h8 ⊢
  unfold LIM at hl
  by_cases he : i < s.length
  · have hx : s[i]? = some s[i] := List.getElem?_eq_getElem he
    have hw : IntKind.i64.wrap ((i : Int) + 1) = ((i + 1 : Nat) : Int) := by rw [w64 (by omega) (by omega)]; simp
    have hr : ∀ T, (evRound (XR e) noL [] bodyR 1 [0, 1, 10, 11] [0, 1, 4, 5] (SR t s s.length i) T).get = cond (!(utfP t (bI s[i])).isSome) (some (.ret, OR t s (.int .i64 t) (.int .i64 i))) (T (SR ((utfP t (bI s[i])).getD 0) s s.length ((i + 1 : Nat) : Int))).get := by
      intro T
      rw [roundR, decide_eq_true (by omega : (i : Int) < s.length), decide_eq_true (by omega : (0 : Int) ≤ i), atL_some (show s[(i : Int).toNat]? = some _ from hx), hw, decide_eq_true h0, decide_eq_true h8]
      rfl
    rw [List.drop_eq_getElem_cons he]
    cases hu : utfP t (bI s[i]) with
    | none =>
      rw [hu] at hr
      refine .inl fun T => ?_
      rw [hr]
      have : runL t (s[i] :: s.drop (i + 1)) = (t, 0, false) := by simp only [runL, hu]
      rw [this]; rfl
    | some t' =>
      rw [hu] at hr
      have : runL t (s[i] :: s.drop (i + 1)) = ((runL t' (s.drop (i + 1))).1, (runL t' (s.drop (i + 1))).2.1 + 1, (runL t' (s.drop (i + 1))).2.2) := by simp only [runL, hu]
      have hb := utfP_lt hu
      refine .inr ⟨(i + 1, t'), ⟨by dsimp only; omega, hb⟩, by dsimp only; omega, ?_, fun T => by rw [hr]; rfl⟩
      rw [this]
      unfold resR
      dsimp only
      rw [show i + ((runL t' (s.drop (i + 1))).2.1 + 1) = i + 1 + (runL t' (s.drop (i + 1))).2.1 by omega]
  · have : i = s.length := by omega
    subst this
    refine .inl fun T => ?_
    rw [roundR, decide_eq_false (by omega), List.drop_of_length_le (Nat.le_refl _)]
    rfl
noncomputable def specR (vals : List AV) (st : Store) : Tr (Ex × St) :=
  match vals, st with
  | [.int .i64 t, .str s, .int .i64 n, .int .i64 i], [] => .need (decide (i = 0) && (decide (n = s.length) && (decide (0 ≤ t) && (decide (t < 8) && decide (s.length ≤ LIM))))) (.br (runL t s).2.2 (.ret (.exit 0, OR (runL t s).1 s .top .top)) (.ret (.ret, OR (runL t s).1 s (.int .i64 (runL t s).1) (.int .i64 ((runL t s).2.1 : Int)))))
  | _, _ => .no
theorem specR_ok : LoopOK (XR e) [] bodyR Tryd.f78.ntmps [0, 1, 10, 11] specR := by
  intro vals st r h
  unfold specR at h
  split at h
  · rename_i t s n i
    obtain ⟨h1, hA⟩ := need_get h
    simp only [Bool.and_eq_true, decide_eq_true_eq] at h1
    have := loopRu (e := e) s t ⟨h1.2.2.1, h1.2.2.2.1⟩ h1.2.2.2.2
    rw [h1.1, h1.2.1]
    cases hs : (runL t s).2.2 with
    | true => rw [hs] at hA; unfold resR at this; rw [hs] at this; have e := ret_get (show (Tr.ret (Ex.exit 0, OR (runL t s).1 s .top .top)).get = some r from hA); rw [← e]; exact this
    | false => rw [hs] at hA; unfold resR at this; rw [hs, Nat.zero_add] at this; have e := ret_get (show (Tr.ret (Ex.ret, OR (runL t s).1 s (.int .i64 (runL t s).1) (.int .i64 ((runL t s).2.1 : Int)))).get = some r from hA); rw [← e]; exact this
  · exact (no_get h).elim
noncomputable def LR : Nat → St → Tr (Ex × St) := loops [(0, loopL [] Tryd.f78.ntmps [0, 1, 10, 11] specR)]
theorem run_ev (t : Int) (s : List UInt8) : (evFn (XR e) LR Tryd.f78 [.int .i64 t, .str s] []).get =
    cond (decide ((0 : Int) = 0) && (decide ((s.length : Int) = (s.length : Int)) && (decide (0 ≤ t) && (decide (t < 8) && decide (s.length ≤ LIM))))) (cond (runL t s).2.2 (i2 ((runL t s).1, (s.length : Int))) (i2 ((runL t s).1, ((runL t s).2.1 : Int)))) none := by kernel_rfl
theorem runL_le : ∀ (s : List UInt8) (t : Int), (runL t s).2.1 ≤ s.length ∧ ((runL t s).2.2 = true ↔ (runL t s).2.1 = s.length)
  | [], t => by simp [runL]
  | c :: r, t => by
    unfold runL
    cases utfP t (bI c) with
    | none => simp
    | some t' => have := runL_le r t'; dsimp only [List.length_cons]; exact ⟨by omega, this.2.trans (by omega)⟩
noncomputable def runUC : Con where
  spec := fun args st => match args, st with | [.int .i64 t, .str s], [] => .need (decide (0 ≤ t) && (decide (t < 8) && decide (s.length ≤ LIM))) (.ret (.tup [.int .i64 (runL t s).1, .int .i64 ((runL t s).2.1 : Int)], [])) | _, _ => .no
  quiet := true
theorem okRun : Con.ok Tryd.prog (G0 (E2 e)) 78 runUC :=
  loop_spec oku1 hm Tryd.func78 hcR (by kernel_rfl) fun args st r h => by
    unfold runUC at h
    dsimp only at h
    split at h
    · rename_i t s
      obtain ⟨h1, h2⟩ := need_get h
      simp only [Bool.and_eq_true] at h1
      refine ⟨LR, loops_ok ⟨loop_entry (n := 0) hbR specR_ok, trivial⟩, ?_⟩
      rw [run_ev, ← ret_get h2, h1.1, h1.2.1, h1.2.2, decide_eq_true (rfl : (s.length : Int) = s.length)]
      have := (runL_le s t).2
      cases hq : (runL t s).2.2 with
      | true => rw [this.1 hq]; rfl
      | false => rfl
    · exact (no_get h).elim
noncomputable def u2 : List (Nat × Con) := (78, runUC) :: u1
theorem oku2 : AllOK Tryd.prog (G0 (E2 e)) u2 := ⟨okRun, oku1⟩

/-! ### utf.Valid -/
def badP (s : List UInt8) : Int × Int := cond (decide (((runL 0 s).2.1 : Int) < (s.length : Int))) (3, ((runL 0 s).2.1 : Int)) (cond (!decide ((runL 0 s).1 = 0)) (12, ((runL 0 s).2.1 : Int)) (0, 0))
noncomputable def badC : Con where
  spec := fun args st => match args, st with | [.str s], [] => .need (decide (s.length ≤ LIM)) (.ret (.agg [.int .i64 (badP s).1, .int .i64 (badP s).2], [])) | _, _ => .no
  quiet := true
def a2 (p : Int × Int) : Option (AV × Store) := some (.agg [.int .i64 p.1, .int .i64 p.2], [])
theorem bad_ev (s : List UInt8) : (evFn (ctx Tryd.prog (G0 (E2 e)) u2) noL Tryd.f65 [.str s] []).get =
    cond (decide ((0 : Int) ≤ 0) && (decide ((0 : Int) < 8) && decide (s.length ≤ LIM))) (cond (decide (((runL 0 s).2.1 : Int) < (s.length : Int))) (a2 (3, ((runL 0 s).2.1 : Int))) (cond (!decide ((runL 0 s).1 = 0)) (a2 (12, ((runL 0 s).2.1 : Int))) (a2 (0, 0)))) none := by kernel_rfl
theorem okBad : Con.ok Tryd.prog (G0 (E2 e)) 65 badC :=
  loop_spec oku2 hm Tryd.func65 (by rfl) (by kernel_rfl) fun args st r h => by
    unfold badC at h
    dsimp only at h
    split at h
    · rename_i s
      obtain ⟨h1, h2⟩ := need_get h
      refine ⟨noL, noL_ok, ?_⟩
      rw [bad_ev, ← ret_get h2, h1]; unfold badP
      cases decide (((runL 0 s).2.1 : Int) < (s.length : Int)) <;> cases decide ((runL 0 s).1 = 0) <;> rfl
    · exact (no_get h).elim
noncomputable def u3 : List (Nat × Con) := (65, badC) :: u2
theorem oku3 : AllOK Tryd.prog (G0 (E2 e)) u3 := ⟨okBad, oku2⟩
/-- Is a text well formed, byte by byte? -/
def validP (s : List UInt8) : Bool := (runL 0 s).2.2 && decide ((runL 0 s).1 = 0)
noncomputable def validC : Con where
  spec := fun args st => match args, st with | [.str s], [] => .need (decide (s.length ≤ LIM)) (.ret (.bool (validP s), [])) | _, _ => .no
  quiet := true
theorem valid_ev (s : List UInt8) : (evFn (ctx Tryd.prog (G0 (E2 e)) u3) noL Tryd.f52 [.str s] []).get = cond (decide (s.length ≤ LIM)) (bo (decide ((badP s).1 = 0))) none := by kernel_rfl
theorem okValid : Con.ok Tryd.prog (G0 (E2 e)) 52 validC :=
  loop_spec oku3 hm Tryd.func52 (by rfl) (by kernel_rfl) fun args st r h => by
    unfold validC at h
    dsimp only at h
    split at h
    · rename_i s
      obtain ⟨h1, h2⟩ := need_get h
      refine ⟨noL, noL_ok, ?_⟩
      rw [valid_ev, ← ret_get h2, h1]; unfold validP badP
      have hle := runL_le s 0
      cases hq : (runL 0 s).2.2 with
      | true => have := hle.2.1 hq; rw [decide_eq_false (by omega : ¬ ((runL 0 s).2.1 : Int) < (s.length : Int))]; cases decide ((runL 0 s).1 = 0) <;> rfl
      | false =>
        have : (runL 0 s).2.1 ≠ s.length := fun h => by have := hle.2.2 h; rw [hq] at this; cases this
        rw [decide_eq_true (by omega : ((runL 0 s).2.1 : Int) < (s.length : Int))]; rfl
    · exact (no_get h).elim
noncomputable def u4 : List (Nat × Con) := (52, validC) :: u3
theorem oku4 : AllOK Tryd.prog (G0 (E2 e)) u4 := ⟨okValid, oku3⟩
end Go.Proofs.YtpiphiieflnabaaDoor
