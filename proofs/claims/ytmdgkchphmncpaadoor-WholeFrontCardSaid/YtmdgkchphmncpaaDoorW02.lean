/- utf.Step and bom.Strip: what they do. Conditions: none. -/
import Derived.Test.YtmdgkchphmncpaaDoorW01
namespace Go.Proofs.YtmdgkchphmncpaaDoor
open Go Go.Abs
set_option maxRecDepth 100000

/-! ### utf.Step -/
noncomputable def cU : Code := Tryd.f31.body.getD .skip
noncomputable def bodyU : Code := (loopAt cU 0).getD .skip
theorem hcU : Tryd.f31.body = some cU := by kernel_rfl
theorem hbU : loopAt cU 0 = some bodyU := by kernel_rfl
noncomputable abbrev XU : Ctx := ctx Tryd.prog G0 []
noncomputable def SU (b : Int) (xs : List spanK.α) (n i : Int) : St := stOf Tryd.f31.ntmps [1, 10, 11, 12] [.int .u8 b, .seq spanK xs, .int .i64 n, .int .i64 i] []
noncomputable def OU (x y : AV) : St := stOf Tryd.f31.ntmps [4, 5] [x, y] []
theorem roundU (b : Int) (xs : List spanK.α) (n i : Int) (T : St → Tr (Ex × St)) : (evRound XU noL [] bodyU 1 [1, 10, 11, 12] [4, 5] (SU b xs n i) T).get =
    cond (decide (i < n)) (cond (decide (0 ≤ i)) (atL xs i.toNat fun s => cond (decide (s.1 ≤ b)) (cond (decide (b ≤ s.2.1)) (some (.ret, OU (.int .i64 s.2.2) (.bool true))) (T (SU b xs n (IntKind.i64.wrap (i + 1)))).get)
      (T (SU b xs n (IntKind.i64.wrap (i + 1)))).get) none) (some (.exit 0, OU .top .top)) := by kernel_rfl

/-- What the spans of a state make of a byte. -/
def spanGo (b : Int) : List (Int × Int × Int) → Option Int
  | [] => none
  | s :: r => cond (decide (s.1 ≤ b) && decide (b ≤ s.2.1)) (some s.2.2) (spanGo b r)
noncomputable def resU : Option Int → Ex × St
  | some n => (.ret, OU (.int .i64 n) (.bool true))
  | none => (.exit 0, OU .top .top)
theorem loopU (b : Int) (xs : List (Int × Int × Int)) (hl : xs.length ≤ LIM) : LoopSem XU [] bodyU (SU b xs xs.length 0) (resU (spanGo b xs)) := by
  have := loop_meas (X := XU) (ctx_ok (l := []) trivial) hm (L := noL) (n0 := []) (body := bodyU) (off := 1) (live := [1, 10, 11, 12]) (out := [4, 5]) noL_ok (fun i : Nat => SU b xs xs.length i) (fun i => resU (spanGo b (xs.drop i))) (fun i => xs.length - i) (fun i => i ≤ xs.length) ?_ 0 (by omega)
  · simpa using this
  intro i hi
  unfold LIM at hl
  by_cases he : i < xs.length
  · have hx : xs[i]? = some xs[i] := List.getElem?_eq_getElem he
    have hw : IntKind.i64.wrap ((i : Int) + 1) = ((i + 1 : Nat) : Int) := by rw [wrap64 (by omega) (by omega)]; simp
    have hr : ∀ T, (evRound XU noL [] bodyU 1 [1, 10, 11, 12] [4, 5] (SU b xs xs.length i) T).get = cond (decide ((xs[i]).1 ≤ b)) (cond (decide (b ≤ (xs[i]).2.1)) (some (.ret, OU (.int .i64 (xs[i]).2.2) (.bool true))) (T (SU b xs xs.length ((i + 1 : Nat) : Int))).get) (T (SU b xs xs.length ((i + 1 : Nat) : Int))).get := by
      intro T
      rw [roundU, decide_eq_true (by omega : (i : Int) < xs.length), decide_eq_true (by omega : (0 : Int) ≤ i), atL_some (show (xs : List spanK.α)[(i : Int).toNat]? = some _ from hx), hw]
      rfl
    rw [List.drop_eq_getElem_cons he]
    cases h1 : decide ((xs[i]).1 ≤ b) <;> rw [h1] at hr
    · exact .inr ⟨i + 1, by omega, by omega, by simp [spanGo, h1], fun T => by rw [hr]; rfl⟩
    · cases h2 : decide (b ≤ (xs[i]).2.1) <;> rw [h2] at hr
      · exact .inr ⟨i + 1, by omega, by omega, by simp [spanGo, h1, h2], fun T => by rw [hr]; rfl⟩
      · exact .inl fun T => by rw [hr]; simp [spanGo, h1, h2, resU]
  · have : i = xs.length := by omega
    subst this
    refine .inl fun T => ?_
    rw [roundU, decide_eq_false (by omega), List.drop_of_length_le (Nat.le_refl _)]
    rfl
noncomputable def specU (vals : List AV) (st : Store) : Tr (Ex × St) :=
  match vals, st with
  | [.int .u8 b, .seq (.pair (.int .u8) (.pair (.int .u8) (.int .i64))) xs, .int .i64 n, .int .i64 i], [] => .need (decide (i = 0)) (.need (decide (n = xs.length) && decide (xs.length ≤ LIM)) (.br (spanGo b xs).isSome (.ret (.ret, OU (.int .i64 ((spanGo b xs).getD 0)) (.bool true))) (.ret (.exit 0, OU .top .top))))
  | _, _ => .no
theorem specU_ok : LoopOK XU [] bodyU Tryd.f31.ntmps [1, 10, 11, 12] specU := by
  intro vals st r h
  unfold specU at h
  split at h
  · rename_i b xs n i
    obtain ⟨h1, hA⟩ := need_get h
    obtain ⟨h2, hB⟩ := need_get hA
    simp only [Bool.and_eq_true, decide_eq_true_eq] at h1 h2
    have := loopU b xs h2.2
    rw [h1, h2.1]
    cases hs : spanGo b xs with
    | none => rw [hs] at hB this; have e := ret_get (show (Tr.ret (Ex.exit 0, OU .top .top)).get = some r from hB); rw [← e]; exact this
    | some k => rw [hs] at hB this; have e := ret_get (show (Tr.ret (Ex.ret, OU (.int .i64 k) (.bool true))).get = some r from hB); rw [← e]; exact this
  · exact (no_get h).elim
noncomputable def LU : Nat → St → Tr (Ex × St) := loops [(0, loopL [] Tryd.f31.ntmps [1, 10, 11, 12] specU)]
theorem utf_ev (s b : Int) : (evFn XU LU Tryd.f31 [.int .i64 s, .int .u8 b] []).get =
    cond (decide (0 ≤ s)) (atL spans s.toNat fun xs => cond (decide ((xs.length : Int) = xs.length) && decide (xs.length ≤ LIM)) (cond (spanGo b xs).isSome (some (.tup [.int .i64 ((spanGo b xs).getD 0), .bool true], [])) (some (.tup [.int .i64 0, .bool false], []))) none) none := by kernel_rfl
/-- The state behind a byte. -/
def utfP (s b : Int) : Option Int := spanGo b (spans.getD s.toNat [])
noncomputable def utfC : Con where
  spec := fun args st => match args, st with | [.int .i64 s, .int .u8 b], [] => .need (decide (0 ≤ s) && decide (s < 8)) (.ret (.tup [.int .i64 ((utfP s b).getD 0), .bool (utfP s b).isSome], [])) | _, _ => .no
  quiet := true
theorem spans_short : ∀ xs ∈ spans, xs.length ≤ 9 := by decide
theorem okUtf : Con.ok Tryd.prog G0 31 utfC :=
  loop_spec (l := []) trivial hm Tryd.func31 hcU (by kernel_rfl) fun args st r h => by
    unfold utfC at h
    dsimp only at h
    split at h
    · rename_i s b
      obtain ⟨h1, h2⟩ := need_get h
      simp only [Bool.and_eq_true, decide_eq_true_eq] at h1
      refine ⟨LU, loops_ok ⟨loop_entry (n := 0) hbU specU_ok, trivial⟩, ?_⟩
      have hlt : s.toNat < spans.length := by show s.toNat < 8; omega
      have hx : spans[s.toNat]? = some spans[s.toNat] := List.getElem?_eq_getElem hlt
      have hl := spans_short _ (List.getElem_mem hlt)
      rw [utf_ev, decide_eq_true h1.1, atL_some hx, ← ret_get h2, decide_eq_true (rfl : ((spans[s.toNat]).length : Int) = _), decide_eq_true (show (spans[s.toNat]).length ≤ LIM by unfold LIM; omega)]
      unfold utfP
      rw [List.getD_eq_getElem?_getD, hx]
      simp only [Option.getD_some]
      cases spanGo b spans[s.toNat] <;> rfl
    · exact (no_get h).elim
/-- Where a state goes, a state is. -/
theorem utfP_lt {s b n : Int} (h : utfP s b = some n) : 0 ≤ n ∧ n < 8 := by
  have key : ∀ xs : List (Int × Int × Int), (∀ x ∈ xs, 0 ≤ x.2.2 ∧ x.2.2 < 8) → ∀ n, spanGo b xs = some n → 0 ≤ n ∧ n < 8 := by
    intro xs
    induction xs with
    | nil => intro _ n h; cases h
    | cons x xs ih =>
      intro hx n h
      simp only [spanGo] at h
      cases hc : decide (x.1 ≤ b) && decide (b ≤ x.2.1) <;> rw [hc] at h
      · exact ih (fun y hy => hx y (List.mem_cons_of_mem _ hy)) n h
      · cases h; exact hx x (by simp)
  have all : ∀ xs ∈ spans, ∀ x ∈ xs, (0 : Int) ≤ x.2.2 ∧ x.2.2 < 8 := by decide
  unfold utfP at h
  by_cases hs : s.toNat < spans.length
  · rw [List.getD_eq_getElem?_getD, List.getElem?_eq_getElem hs] at h
    exact key _ (all _ (List.getElem_mem hs)) n h
  · rw [List.getD_eq_getElem?_getD, List.getElem?_eq_none (by omega)] at h
    cases h

/-! ### bom.Strip -/
noncomputable def b1 : List (Nat × Con) := [(62, runC (ctx Tryd.prog G0 []) 0 Tryd.f62 true)]
noncomputable def b2 : List (Nat × Con) := (56, runC (ctx Tryd.prog G0 b1) 0 Tryd.f56 true) :: b1
noncomputable def b3 : List (Nat × Con) := (44, runC (ctx Tryd.prog G0 b2) 0 Tryd.f44 true) :: b2
theorem okb3 : AllOK Tryd.prog G0 b3 := by
  refine add_run ?_ hm 0 true Tryd.func44 (by rfl) (by kernel_rfl)
  refine add_run ?_ hm 0 true Tryd.func56 (by rfl) (by kernel_rfl)
  exact add_run (P := Tryd.prog) (G := G0) (l := []) trivial hm 0 true Tryd.func62 (by rfl) (by kernel_rfl)
def markB : List UInt8 := [239, 187, 191]
def cutV (s : List UInt8) (b : Bool) : Option (AV × Store) := some (.tup [.str s, .bool b], [])
theorem strip_ev (s : List UInt8) : (evFn (ctx Tryd.prog G0 b3) noL Tryd.f30 [.str s] []).get =
    cond (decide ((3 : Int) ≤ s.length)) (cond (decide ((3 : Int) ≤ s.length)) (cond (!decide (s.take 3 = markB)) (cutV s false) (cond (decide ((3 : Int) ≤ s.length)) (cutV (s.drop 3) true) none)) none) (cutV s false) := by kernel_rfl
def marked (s : List UInt8) : Bool := decide (3 ≤ s.length) && decide (s.take 3 = markB)
noncomputable def stripC : Con where
  spec := fun args st => match args, st with | [.str s], [] => .ret (.tup [.str (cond (marked s) (s.drop 3) s), .bool (marked s)], []) | _, _ => .no
  quiet := true
theorem okStrip : Con.ok Tryd.prog G0 30 stripC :=
  loop_spec okb3 hm Tryd.func30 (by rfl) (by kernel_rfl) fun args st r h => by
    unfold stripC at h
    dsimp only at h
    split at h
    · rename_i s
      refine ⟨noL, noL_ok, ?_⟩
      rw [strip_ev, ← ret_get h]
      unfold marked
      by_cases hl : 3 ≤ s.length
      · rw [decide_eq_true (show (3 : Int) ≤ s.length by omega), decide_eq_true hl]
        cases decide (s.take 3 = markB) <;> rfl
      · rw [decide_eq_false (show ¬ (3 : Int) ≤ s.length by omega), decide_eq_false hl]
        rfl
    · exact (no_get h).elim
end Go.Proofs.YtmdgkchphmncpaaDoor
