/- The document's UTF-8 (Size, Whole): what they do, gone on. Conditions: none. -/
import Derived.Test.YtpiphiieflnabaaDoorD02
namespace Go.Proofs.YtpiphiieflnabaaDoor
open Go Go.Abs
set_option maxRecDepth 100000
variable {ev : Env}

def cpAt : Nat → List UInt8 → Int
  | 1, a :: _ => W64 (bI a)
  | 2, a :: b :: _ => cp2 a b
  | 3, a :: b :: c :: _ => cp3 a b c
  | 4, a :: b :: c :: d :: _ => cp4 a b c d
  | _, _ => 0
def sizeAt : Nat → Nat → List UInt8 → Nat
  | 0, _, _ => 0
  | k + 1, n, s => if n ≤ s.length then cond (okP (cpAt n s) n s) n (sizeAt k (n + 1) s) else 0
/-- How many bytes the sequence has that a text begins with. -/
def sizeP (s : List UInt8) : Nat := sizeAt 4 1 s
noncomputable def resS : Nat → Ex × St
  | 0 => (.exit 0, OS .top)
  | k + 1 => (.ret, OS (.int .i64 ((k + 1 : Nat) : Int)))
theorem stepS (s : List UInt8) (i : Nat) (h1 : 1 ≤ i) (h4 : i ≤ 4) (T : St → Tr (Ex × St)) : (evRound (XS ev) noL [] bodyS 1 [0, 3] [2] (SS1 s i) T).get =
    if i ≤ s.length then cond (okP (cpAt i s) i s) (some (.ret, OS (.int .i64 (i : Int)))) (T (SS1 s ((i + 1 : Nat) : Int))).get else some (.exit 0, OS .top) := by
  by_cases hl : i ≤ s.length
  · rw [if_pos hl]
    have hi : i = 1 ∨ i = 2 ∨ i = 3 ∨ i = 4 := by omega
    rcases hi with rfl | rfl | rfl | rfl
    · rw [show ((1 : Nat) : Int) = 1 from rfl, round1, decide_eq_true (by omega : (1 : Int) ≤ (s.length : Int))]
      match s, hl with
      | a :: r, hl => simp only [cond_true, atL_some (show (a :: r)[0]? = some a from rfl)]; rw [tst_eq _ _ _ _ _ hl]; rfl
    · rw [show ((2 : Nat) : Int) = 2 from rfl, round2, decide_eq_true (by omega : (2 : Int) ≤ (s.length : Int))]
      match s, hl with
      | a :: b :: r, hl => simp only [cond_true, atL_some (show (a :: b :: r)[0]? = some a from rfl), atL_some (show (a :: b :: r)[1]? = some b from rfl)]; rw [tst_eq _ _ _ _ _ hl]; rfl
    · rw [show ((3 : Nat) : Int) = 3 from rfl, round3, decide_eq_true (by omega : (3 : Int) ≤ (s.length : Int))]
      match s, hl with
      | a :: b :: c :: r, hl => simp only [cond_true, atL_some (show (a :: b :: c :: r)[0]? = some a from rfl), atL_some (show (a :: b :: c :: r)[1]? = some b from rfl), atL_some (show (a :: b :: c :: r)[2]? = some c from rfl)]; rw [tst_eq _ _ _ _ _ hl]; rfl
    · rw [show ((4 : Nat) : Int) = 4 from rfl, round4, decide_eq_true (by omega : (4 : Int) ≤ (s.length : Int))]
      match s, hl with
      | a :: b :: c :: d :: r, hl => simp only [cond_true, atL_some (show (a :: b :: c :: d :: r)[0]? = some a from rfl), atL_some (show (a :: b :: c :: d :: r)[1]? = some b from rfl), atL_some (show (a :: b :: c :: d :: r)[2]? = some c from rfl), atL_some (show (a :: b :: c :: d :: r)[3]? = some d from rfl)]; rw [tst_eq _ _ _ _ _ hl]; rfl
  · rw [if_neg hl]
    have hi : i = 1 ∨ i = 2 ∨ i = 3 ∨ i = 4 := by omega
    rcases hi with rfl | rfl | rfl | rfl
    · rw [show ((1 : Nat) : Int) = 1 from rfl, round1, decide_eq_false (by omega : ¬ (1 : Int) ≤ (s.length : Int))]; rfl
    · rw [show ((2 : Nat) : Int) = 2 from rfl, round2, decide_eq_false (by omega : ¬ (2 : Int) ≤ (s.length : Int))]; rfl
    · rw [show ((3 : Nat) : Int) = 3 from rfl, round3, decide_eq_false (by omega : ¬ (3 : Int) ≤ (s.length : Int))]; rfl
    · rw [show ((4 : Nat) : Int) = 4 from rfl, round4, decide_eq_false (by omega : ¬ (4 : Int) ≤ (s.length : Int))]; rfl
theorem loopS (s : List UInt8) : LoopSem (XS ev) [] bodyS (SS1 s 1) (resS (sizeP s)) := by
  have := loop_meas (X := XS ev) (ctx_ok okp1) hm (L := noL) (n0 := []) (body := bodyS) (off := 1) (live := [0, 3]) (out := [2]) noL_ok (fun i : Nat => SS1 s i) (fun i => resS (sizeAt (5 - i) i s)) (fun i => 5 - i) (fun i => 1 ≤ i ∧ i ≤ 5) ?_ 1 (by omega)
  · exact this
  rintro i ⟨h1, h5⟩
  by_cases h4 : i ≤ 4
  · obtain ⟨k, hk⟩ : ∃ k, 5 - i = k + 1 := ⟨4 - i, by omega⟩
    by_cases hl : i ≤ s.length
    · cases ho : okP (cpAt i s) i s with
      | true =>
        refine .inl fun T => ?_
        rw [stepS s i h1 h4, if_pos hl, ho, hk]
        obtain ⟨m, rfl⟩ : ∃ m, i = m + 1 := ⟨i - 1, by omega⟩
        simp [sizeAt, hl, ho, resS]
      | false =>
        refine .inr ⟨i + 1, by omega, by omega, ?_, fun T => ?_⟩
        · rw [hk, show 5 - (i + 1) = k by omega]; simp [sizeAt, hl, ho]
        · rw [stepS s i h1 h4, if_pos hl, ho]; rfl
    · refine .inl fun T => ?_
      rw [stepS s i h1 h4, if_neg hl, hk]; simp [sizeAt, hl, resS]
  · obtain rfl : i = 5 := by omega
    exact .inl fun T => round5 s T
noncomputable def specS (vals : List AV) (st : Store) : Tr (Ex × St) :=
  match vals, st with
  | [.str s, .int .i64 n], [] => .need (decide (n = 1)) (.br (decide (sizeP s = 0)) (.ret (.exit 0, OS .top)) (.ret (.ret, OS (.int .i64 (sizeP s : Int)))))
  | _, _ => .no
theorem specS_ok : LoopOK (XS ev) [] bodyS Tryd.f55.ntmps [0, 3] specS := by
  intro vals st r h
  unfold specS at h
  split at h
  · rename_i s n
    obtain ⟨h1, hA⟩ := need_get h
    simp only [decide_eq_true_eq] at h1
    subst h1
    have := loopS (ev := ev) s
    cases hs : sizeP s with
    | zero => rw [hs] at hA this; have e := ret_get (show (Tr.ret (Ex.exit 0, OS .top)).get = some r from hA); rw [← e]; exact this
    | succ k => rw [hs] at hA this; have e := ret_get (show (Tr.ret (Ex.ret, OS (.int .i64 ((k + 1 : Nat) : Int)))).get = some r from hA); rw [← e]; exact this
  · exact (no_get h).elim
noncomputable def LS : Nat → St → Tr (Ex × St) := loops [(0, loopL [] Tryd.f55.ntmps [0, 3] specS)]
theorem size_ev (s : List UInt8) : (evFn (XS ev) LS Tryd.f55 [.str s] []).get =
    cond (decide (sizeP s = 0)) (some (.int .i64 0, [])) (some (.int .i64 (sizeP s : Int), [])) := by kernel_rfl
noncomputable def sizeC : Con where
  spec := fun args st => match args, st with | [.str s], [] => .ret (.int .i64 (sizeP s : Int), []) | _, _ => .no
  quiet := true
theorem okSize : Con.ok Tryd.prog (G0 ev) 55 sizeC :=
  loop_spec okp1 hm Tryd.func55 hcS (by kernel_rfl) fun args st r h => by
    unfold sizeC at h
    dsimp only at h
    split at h
    · rename_i s
      refine ⟨LS, loops_ok ⟨loop_entry (n := 0) hbS specS_ok, trivial⟩, ?_⟩
      rw [size_ev, ← ret_get h]
      cases sizeP s <;> rfl
    · exact (no_get h).elim
noncomputable def p2 : List (Nat × Con) := (55, sizeC) :: p1
theorem okp2 : AllOK Tryd.prog (G0 ev) p2 := ⟨okSize, okp1⟩

/-! ### Whole -/
theorem sizeAt_le : ∀ (k n : Nat) (s : List UInt8), sizeAt k n s ≤ s.length
  | 0, _, _ => Nat.zero_le _
  | k + 1, n, s => by
    unfold sizeAt
    split
    · cases okP (cpAt n s) n s with
      | true => assumption
      | false => exact sizeAt_le k (n + 1) s
    · omega
theorem sizeP_le (s : List UInt8) : sizeP s ≤ s.length := sizeAt_le _ _ _
def wholeF : Nat → List UInt8 → Nat
  | 0, _ => 0
  | k + 1, s => if sizeP s = 0 then 0 else sizeP s + wholeF k (s.drop (sizeP s))
/-- How many bytes the longest well-formed beginning has. -/
def wholeP (s : List UInt8) : Nat := wholeF s.length s
theorem wholeF_big : ∀ (k k' : Nat) (s : List UInt8), s.length ≤ k → s.length ≤ k' → wholeF k s = wholeF k' s
  | 0, k', s, h, _ => by
    have : s = [] := List.eq_nil_of_length_eq_zero (by omega)
    subst this
    cases k' with
    | zero => rfl
    | succ k' => have := sizeP_le []; simp [wholeF, show sizeP [] = 0 from by simpa using this]
  | k + 1, 0, s, _, h => by
    have : s = [] := List.eq_nil_of_length_eq_zero (by omega)
    subst this
    have := sizeP_le []; simp [wholeF, show sizeP [] = 0 from by simpa using this]
  | k + 1, k' + 1, s, h, h' => by
    unfold wholeF
    split
    · rfl
    · rw [wholeF_big k k' _ (by rw [List.length_drop]; omega) (by rw [List.length_drop]; omega)]
theorem wholeP_eq (s : List UInt8) : wholeP s = if sizeP s = 0 then 0 else sizeP s + wholeP (s.drop (sizeP s)) := by
  have h0 := sizeP_le s
  show wholeF s.length s = _
  rw [wholeF_big s.length (s.length + 1) s (Nat.le_refl _) (by omega)]
  show (if sizeP s = 0 then 0 else sizeP s + wholeF s.length (s.drop (sizeP s))) = _
  split
  · rfl
  · rw [wholeF_big s.length (s.drop (sizeP s)).length _ (by rw [List.length_drop]; omega) (Nat.le_refl _)]; rfl
theorem wholeF_le : ∀ (k : Nat) (s : List UInt8), wholeF k s ≤ s.length
  | 0, _ => Nat.zero_le _
  | k + 1, s => by
    unfold wholeF
    have := sizeP_le s
    split
    · omega
    · have := wholeF_le k (s.drop (sizeP s)); rw [List.length_drop] at this; omega
theorem wholeP_le (s : List UInt8) : wholeP s ≤ s.length := wholeF_le _ _

noncomputable def cW : Code := Tryd.f40.body.getD .skip
noncomputable def bodyW : Code := (loopAt cW 0).getD .skip
theorem hcW : Tryd.f40.body = some cW := by kernel_rfl
theorem hbW : loopAt cW 0 = some bodyW := by kernel_rfl
noncomputable abbrev XW (ev : Env) : Ctx := ctx Tryd.prog (G0 ev) p2
noncomputable def SW1 (s : List UInt8) (n : Int) : St := stOf Tryd.f40.ntmps [0, 3] [.str s, .int .i64 n] []
noncomputable def OW (x : AV) : St := stOf Tryd.f40.ntmps [3] [x] []
theorem roundW (s : List UInt8) (n : Int) (T : St → Tr (Ex × St)) : (evRound (XW ev) noL [] bodyW 1 [0, 3] [3] (SW1 s n) T).get =
    cond (decide (n < (s.length : Int))) (cond (decide (0 ≤ n) && decide (n ≤ (s.length : Int))) (cond (decide (0 < (sizeP (s.drop n.toNat) : Int)))
      (cond (decide (0 ≤ n) && decide (n ≤ (s.length : Int))) (T (SW1 s (IntKind.i64.wrap (n + (sizeP (s.drop n.toNat) : Int))))).get none) (some (.exit 0, OW (.int .i64 n)))) none) (some (.exit 0, OW (.int .i64 n))) := by kernel_rfl
theorem loopW (s : List UInt8) (hl : s.length ≤ LIM) : LoopSem (XW ev) [] bodyW (SW1 s 0) (.exit 0, OW (.int .i64 (wholeP s : Int))) := by
  have := loop_meas (X := XW ev) (ctx_ok okp2) hm (L := noL) (n0 := []) (body := bodyW) (off := 1) (live := [0, 3]) (out := [3]) noL_ok (fun i : Nat => SW1 s i) (fun i => (.exit 0, OW (.int .i64 ((i + wholeP (s.drop i) : Nat) : Int)))) (fun i => s.length - i) (fun i => i ≤ s.length) ?_ 0 (by omega)
  · simpa using this
  intro i hi
  unfold LIM at hl
  have hle := sizeP_le (s.drop i)
  rw [List.length_drop] at hle
  have hr : ∀ T, (evRound (XW ev) noL [] bodyW 1 [0, 3] [3] (SW1 s i) T).get = if sizeP (s.drop i) = 0 then some (.exit 0, OW (.int .i64 (i : Int))) else (T (SW1 s ((i + sizeP (s.drop i) : Nat) : Int))).get := by
    intro T
    rw [roundW, show ((i : Int)).toNat = i by omega]
    by_cases he : i < s.length
    · rw [decide_eq_true (by omega : (i : Int) < s.length), show (decide (0 ≤ (i : Int)) && decide ((i : Int) ≤ (s.length : Int))) = true by simp only [Bool.and_eq_true, decide_eq_true_eq]; omega]
      by_cases h0 : sizeP (s.drop i) = 0
      · rw [decide_eq_false (by omega : ¬ (0 : Int) < (sizeP (s.drop i) : Int)), if_pos h0]; rfl
      · rw [decide_eq_true (by omega : (0 : Int) < (sizeP (s.drop i) : Int)), if_neg h0, wrap64 (by omega) (by omega)]; rfl
    · rw [decide_eq_false (by omega : ¬ (i : Int) < s.length), if_pos (by omega)]; rfl
  by_cases h0 : sizeP (s.drop i) = 0
  · refine .inl fun T => ?_
    rw [hr, if_pos h0, wholeP_eq, if_pos h0]; rfl
  · refine .inr ⟨i + sizeP (s.drop i), by omega, by omega, ?_, fun T => by rw [hr, if_neg h0]⟩
    conv => lhs; rw [wholeP_eq (s.drop i), if_neg h0, List.drop_drop]
    rw [show i + (sizeP (s.drop i) + wholeP (s.drop (i + sizeP (s.drop i)))) = i + sizeP (s.drop i) + wholeP (s.drop (i + sizeP (s.drop i))) by omega]
noncomputable def specW (vals : List AV) (st : Store) : Tr (Ex × St) :=
  match vals, st with
  | [.str s, .int .i64 n], [] => .need (decide (n = 0)) (.need (decide (s.length ≤ LIM)) (.ret (.exit 0, OW (.int .i64 (wholeP s : Int)))))
  | _, _ => .no
theorem specW_ok : LoopOK (XW ev) [] bodyW Tryd.f40.ntmps [0, 3] specW := by
  intro vals st r h
  unfold specW at h
  split at h
  · rename_i s n
    obtain ⟨h1, hA⟩ := need_get h
    obtain ⟨h2, hB⟩ := need_get hA
    simp only [decide_eq_true_eq] at h1 h2
    subst h1
    rw [← ret_get hB]; exact loopW s h2
  · exact (no_get h).elim
noncomputable def LW : Nat → St → Tr (Ex × St) := loops [(0, loopL [] Tryd.f40.ntmps [0, 3] specW)]
theorem whole_ev (s : List UInt8) : (evFn (XW ev) LW Tryd.f40 [.str s] []).get =
    cond (decide (s.length ≤ LIM)) (some (.int .i64 (wholeP s : Int), [])) none := by kernel_rfl
noncomputable def wholeC : Con where
  spec := fun args st => match args, st with | [.str s], [] => .need (decide (s.length ≤ LIM)) (.ret (.int .i64 (wholeP s : Int), [])) | _, _ => .no
  quiet := true
theorem okWhole : Con.ok Tryd.prog (G0 ev) 40 wholeC :=
  loop_spec okp2 hm Tryd.func40 hcW (by kernel_rfl) fun args st r h => by
    unfold wholeC at h
    dsimp only at h
    split at h
    · rename_i s
      obtain ⟨h1, h2⟩ := need_get h
      refine ⟨LW, loops_ok ⟨loop_entry (n := 0) hbW specW_ok, trivial⟩, ?_⟩
      rw [whole_ev, h1, ← ret_get h2]; rfl
    · exact (no_get h).elim
noncomputable def p3 : List (Nat × Con) := (40, wholeC) :: p2
theorem okp3 : AllOK Tryd.prog (G0 ev) p3 := ⟨okWhole, okp2⟩
end Go.Proofs.YtpiphiieflnabaaDoor
