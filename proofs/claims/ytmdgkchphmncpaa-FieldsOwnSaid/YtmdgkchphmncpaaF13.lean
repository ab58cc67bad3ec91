/- FieldsOwn: the loops. (under way) -/
import Derived.Test.YtmdgkchphmncpaaF12
namespace Go.Proofs.Ytmdgkchphmncpaa
open Go Go.Abs
set_option maxRecDepth 100000

noncomputable def l9 : List (Nat × Con) := (8, refLimC) :: (10, rtakeC) :: (11, refEvC) :: (12, sameC) :: l7
theorem ok9 : AllOK Try.prog G0 l9 := ⟨okRefLim, okRtake, okRefEv, okSame, ok7⟩
noncomputable abbrev X3 : Ctx := ctx Try.prog G0 l9
noncomputable def c3 : Code := Try.f3.body.getD .skip
noncomputable def body3 : Code := (loopAt c3 0).getD .skip
noncomputable def body3a : Code := (loopAt c3 1).getD .skip
noncomputable def body3b : Code := (loopAt c3 2).getD .skip
theorem hc3 : Try.f3.body = some c3 := by kernel_rfl
theorem hb3 : loopAt c3 0 = some body3 := by kernel_rfl
theorem hb3a : loopAt body3 0 = some body3a := by kernel_rfl
theorem hb3b : loopAt body3 1 = some body3b := by kernel_rfl

/-- Two makers. -/
def twoSt (m : Mk) (x : Rk) (more : Store) : Store := m.cells 1 2 :: .row (.int .u8) m.fl :: .row .str m.rc :: x.cells 4 :: .row .str x.rc :: more
def rest3 (xs : List evK.α) (n i : Int) : List AV := [.ptr 0 0, .ptr 3 0, .seq evK xs, .int .i64 n, .int .i64 i]
noncomputable def S3 (m : Mk) (x : Rk) (xs : List evK.α) (n i : Int) : St := stOf Try.f3.ntmps [4, 6, 50, 51, 52] (rest3 xs n i) (twoSt m x [])
noncomputable def S3a (m : Mk) (x : Rk) (xs : List evK.α) (n i : Int) (r : List (List UInt8)) (k j : Int) : St := stOf Try.f3.ntmps [4, 6, 50, 51, 52, 9, 75, 76] (rest3 xs n i ++ [.whole 5, .int .i64 k, .int .i64 j]) (twoSt m x [.row .str r])
noncomputable def S3b (m : Mk) (x : Rk) (xs : List evK.α) (n i : Int) (r : List (List UInt8)) (k j : Int) : St := stOf Try.f3.ntmps [4, 6, 50, 51, 52, 15, 89, 90] (rest3 xs n i ++ [.whole 5, .int .i64 k, .int .i64 j]) (twoSt m x [.row .str r])
def spoilt : List UInt8 := [115, 112, 111, 105, 108, 116]
theorem round3a (m : Mk) (x : Rk) (xs : List evK.α) (n i : Int) (r : List (List UInt8)) (k j : Int) (T : St → Tr (Ex × St)) :
    (evRound X3 noL [] body3a 2 [4, 6, 50, 51, 52, 9, 75, 76] [4, 6, 50, 51, 52] (S3a m x xs n i r k j) T).get =
    cond (decide (j < k)) (cond (decide (0 ≤ j) && decide (j < r.length)) (atL r j.toNat fun _ => (T (S3a m x xs n i (r.set j.toNat spoilt) k (IntKind.i64.wrap (j + 1)))).get) none) (some (.exit 2, S3 m x xs n i)) := by kernel_rfl
theorem round3b (m : Mk) (x : Rk) (xs : List evK.α) (n i : Int) (r : List (List UInt8)) (k j : Int) (T : St → Tr (Ex × St)) :
    (evRound X3 noL [] body3b 3 [4, 6, 50, 51, 52, 15, 89, 90] [4, 6, 50, 51, 52] (S3b m x xs n i r k j) T).get =
    cond (decide (j < k)) (cond (decide (0 ≤ j) && decide (j < r.length)) (atL r j.toNat fun _ => (T (S3b m x xs n i (r.set j.toNat spoilt) k (IntKind.i64.wrap (j + 1)))).get) none) (some (.exit 4, S3 m x xs n i)) := by kernel_rfl

theorem loop3a (m : Mk) (x : Rk) (xs : List evK.α) (n i : Int) (r : List (List UInt8)) (hr : r.length ≤ LIM) : LoopSem X3 [] body3a (S3a m x xs n i r r.length 0) (.exit 2, S3 m x xs n i) := by
  have := loop_meas (X := X3) (ctx_ok ok9) hm (L := noL) (n0 := []) (body := body3a) (off := 2) (live := [4, 6, 50, 51, 52, 9, 75, 76]) (out := [4, 6, 50, 51, 52]) noL_ok
    (fun p : Nat × List (List UInt8) => S3a m x xs n i p.2 r.length p.1) (fun _ => (.exit 2, S3 m x xs n i)) (fun p => r.length - p.1) (fun p => p.2.length = r.length ∧ p.1 ≤ r.length) ?_ (0, r) ⟨rfl, by simp⟩
  · exact this
  rintro ⟨j, q⟩ ⟨h1, h2⟩
  dsimp only at h1 h2
  unfold LIM at hr
  by_cases hj : j < r.length
  · refine .inr ⟨(j + 1, q.set j spoilt), ⟨by simpa using h1, by dsimp only; omega⟩, by dsimp only; omega, rfl, fun T => ?_⟩
    rw [round3a, decide_eq_true (by omega : (j : Int) < r.length), decide_eq_true (by omega : (0 : Int) ≤ j), decide_eq_true (by omega : (j : Int) < q.length), atL_some (show q[(j : Int).toNat]? = some _ from List.getElem?_eq_getElem (by omega : j < q.length)), wrap64 (by omega) (by omega)]
    rfl
  · exact .inl fun T => by rw [round3a, decide_eq_false (by omega)]; rfl
theorem loop3b (m : Mk) (x : Rk) (xs : List evK.α) (n i : Int) (r : List (List UInt8)) (hr : r.length ≤ LIM) : LoopSem X3 [] body3b (S3b m x xs n i r r.length 0) (.exit 4, S3 m x xs n i) := by
  have := loop_meas (X := X3) (ctx_ok ok9) hm (L := noL) (n0 := []) (body := body3b) (off := 3) (live := [4, 6, 50, 51, 52, 15, 89, 90]) (out := [4, 6, 50, 51, 52]) noL_ok
    (fun p : Nat × List (List UInt8) => S3b m x xs n i p.2 r.length p.1) (fun _ => (.exit 4, S3 m x xs n i)) (fun p => r.length - p.1) (fun p => p.2.length = r.length ∧ p.1 ≤ r.length) ?_ (0, r) ⟨rfl, by simp⟩
  · exact this
  rintro ⟨j, q⟩ ⟨h1, h2⟩
  dsimp only at h1 h2
  unfold LIM at hr
  by_cases hj : j < r.length
  · refine .inr ⟨(j + 1, q.set j spoilt), ⟨by simpa using h1, by dsimp only; omega⟩, by dsimp only; omega, rfl, fun T => ?_⟩
    rw [round3b, decide_eq_true (by omega : (j : Int) < r.length), decide_eq_true (by omega : (0 : Int) ≤ j), decide_eq_true (by omega : (j : Int) < q.length), atL_some (show q[(j : Int).toNat]? = some _ from List.getElem?_eq_getElem (by omega : j < q.length)), wrap64 (by omega) (by omega)]
    rfl
  · exact .inl fun T => by rw [round3b, decide_eq_false (by omega)]; rfl

def getTwo : Store → Option (Mk × Rk × List (List UInt8))
  | [a, b, c, .cells [.int .i64 a', .int .i64 b', .int .i64 c', .int .i64 u, .str fd, .whole 4, .int .i64 bg, .int .i64 ct, .int .i64 fs, .int .i64 wr], .row .str rc, .row .str r] => (getMk [a, b, c]).map (·, ⟨a', b', c', u, fd, rc, bg, ct, fs, wr⟩, r)
  | _ => none
theorem getTwo_ok {st : Store} {m : Mk} {x : Rk} {r : List (List UInt8)} (h : getTwo st = some (m, x, r)) : st = twoSt m x [.row .str r] := by
  unfold getTwo at h
  split at h
  · obtain ⟨m', h1, h2⟩ := Option.map_eq_some_iff.1 h
    cases h2
    have := getMk_ok h1
    unfold Mk.inSt at this; unfold twoSt
    simp only [List.cons.injEq, and_true] at this
    rw [this.1, this.2.1, this.2.2]; rfl
  · cases h
noncomputable def spec3i (id : Nat) (vals : List AV) (st : Store) : Tr (Ex × St) :=
  match vals, getTwo st with
  | [.ptr 0 0, .ptr 3 0, .seq evK xs, .int .i64 n, .int .i64 i, .whole 5, .int .i64 k, .int .i64 j], some (m, x, r) => .need (decide (j = 0)) (.need (decide (k = r.length) && decide (r.length ≤ LIM)) (.ret (.exit id, S3 m x xs n i)))
  | _, _ => .no
theorem spec3a_ok : LoopOK X3 [] body3a Try.f3.ntmps [4, 6, 50, 51, 52, 9, 75, 76] (spec3i 2) := by
  intro vals st r h
  unfold spec3i at h
  split at h
  · rename_i xs n i k j m x r' hm'
    obtain ⟨h1, hA⟩ := need_get h
    obtain ⟨h2, hB⟩ := need_get hA
    have e := ret_get hB
    have es := getTwo_ok hm'
    simp only [Bool.and_eq_true, decide_eq_true_eq] at h1 h2
    rw [← e, es, h1, h2.1]
    exact loop3a m x xs n i r' h2.2
  · exact (no_get h).elim
theorem spec3b_ok : LoopOK X3 [] body3b Try.f3.ntmps [4, 6, 50, 51, 52, 15, 89, 90] (spec3i 4) := by
  intro vals st r h
  unfold spec3i at h
  split at h
  · rename_i xs n i k j m x r' hm'
    obtain ⟨h1, hA⟩ := need_get h
    obtain ⟨h2, hB⟩ := need_get hA
    have e := ret_get hB
    have es := getTwo_ok hm'
    simp only [Bool.and_eq_true, decide_eq_true_eq] at h1 h2
    rw [← e, es, h1, h2.1]
    exact loop3b m x xs n i r' h2.2
  · exact (no_get h).elim
noncomputable def L3i : Nat → St → Tr (Ex × St) := loops [(1, loopL [] Try.f3.ntmps [4, 6, 50, 51, 52, 9, 75, 76] (spec3i 2)), (2, loopL [] Try.f3.ntmps [4, 6, 50, 51, 52, 15, 89, 90] (spec3i 4))]
theorem L3i_ok : LoopsAt X3 L3i [] body3 1 := loops_ok ⟨loop_entry (n := 0) hb3a spec3a_ok, loop_entry (n := 1) hb3b spec3b_ok, trivial⟩

noncomputable def O3 (m : Mk) (x : Rk) (r : AV) : St := stOf Try.f3.ntmps [4, 6, 2] [.ptr 0 0, .ptr 3 0, r] (twoSt m x [])
def rtakeE (e : evK.α) (x : Rk) : Rk × List (List UInt8) × Int := q0 (oneI e.1) (oneI e.2.1) (oneI e.2.2.1) (oneI e.2.2.2.1) (oneI e.2.2.2.2.1) (IntKind.i64.wrap e.2.2.2.2.2) x
theorem round3 (m : Mk) (x : Rk) (xs : List evK.α) (n i : Int) (T : St → Tr (Ex × St)) : (evRound X3 L3i [] body3 1 [4, 6, 50, 51, 52] [4, 6, 2] (S3 m x xs n i) T).get =
    cond (decide (i < n)) (cond (decide (0 ≤ i)) (atL xs i.toNat fun e => cond (room m) (cond (roomR x) (cond (decide ((takeE e m).2.1.length ≤ LIM))
      (cond (!decide ((takeE e m).2.1 = (rtakeE e x).2.1)) (some (.ret, O3 (takeE e m).1 (rtakeE e x).1 (.bool false)))
        (cond (decide (((takeE e m).2.1.length : Int) = (takeE e m).2.1.length) && decide ((takeE e m).2.1.length ≤ LIM)) (cond (decide ((takeE e m).1.rc.length ≤ LIM))
          (cond (decide (((takeE e m).1.rc.length : Int) = (takeE e m).1.rc.length) && decide ((takeE e m).1.rc.length ≤ LIM)) (T (S3 (takeE e m).1 (rtakeE e x).1 xs n (IntKind.i64.wrap (i + 1)))).get none) none) none)) none) none) none) none) (some (.exit 0, O3 m x .top)) := by kernel_rfl
end Go.Proofs.Ytmdgkchphmncpaa
