/- NumSums: what the law computes, and that it is true. Conditions: strconv.ErrRange holds an interface value. -/
import Derived.Test.YtpiphiieflnabaaDoorD18
namespace Go.Proofs.YtpiphiieflnabaaDoor
open Go Go.Abs
set_option maxRecDepth 100000
variable {v : Value} {u : Option (List AV)}

noncomputable def cN : Code := Tryd.f6.body.getD .skip
noncomputable def bodyN : Code := (loopAt cN 0).getD .skip
theorem hcN : Tryd.f6.body = some cN := by kernel_rfl
theorem hbN : loopAt cN 0 = some bodyN := by kernel_rfl
noncomputable abbrev XN (v : Value) (u : Option (List AV)) : Ctx := ctx Tryd.prog (G0 (E1 v u)) (n5 (E1 v u))
noncomputable def SN (l : List iK.α) (n e : Int) (acc : List iK.α) (z i : Int) : St := stOf Tryd.f6.ntmps [0, 3, 4, 7, 34, 35] [.seq iK l, .int .i64 n, .int .i64 e, .whole 0, .int .i64 z, .int .i64 i] [.row iK acc]
noncomputable def ON (n e : Int) (acc : List iK.α) : St := stOf Tryd.f6.ntmps [3, 4, 7] [.int .i64 n, .int .i64 e, .whole 0] [.row iK acc]
theorem roundN (l : List Int) (n e : Int) (acc : List Int) (z i : Int) (T : St → Tr (Ex × St)) : (evRound (XN v u) noL [] bodyN 1 [0, 3, 4, 7, 34, 35] [3, 4, 7] (SN l n e acc z i) T).get =
    cond (decide (i < z)) (cond (decide (0 ≤ W64 (W64 ((l.length : Int) - 1) - i))) (atL l (W64 (W64 ((l.length : Int) - 1) - i)).toNat fun x => cond (decide (acc.length + ([x] : List Int).length ≤ LIM)) (T (SN l n e (acc ++ [x]) z (W64 (i + 1)))).get none) none) (some (.exit 0, ON n e acc)) := by kernel_rfl
theorem loopN (hev : EvOK (E1 v u)) (l : List Int) (n e : Int) (hl : l.length ≤ 1000) : LoopSem (XN v u) [] bodyN (SN l n e [] l.length 0) (.exit 0, ON n e (List.reverse l)) := by
  have := loop_meas (X := XN v u) (ctx_ok (okn5 hev)) hm (L := noL) (n0 := []) (body := bodyN) (off := 1) (live := [0, 3, 4, 7, 34, 35]) (out := [3, 4, 7]) noL_ok (fun i : Nat => SN l n e ((List.reverse l).take i) l.length i) (fun _ => (.exit 0, ON n e (List.reverse l))) (fun i => l.length - i) (fun i => i ≤ l.length) ?_ 0 (by omega)
  · simpa using this
  intro i hi
  by_cases he : i < l.length
  · have hx : l[l.length - 1 - i]? = some (l[l.length - 1 - i]'(by omega)) := List.getElem?_eq_getElem (by omega)
    have hw : W64 ((i : Int) + 1) = ((i + 1 : Nat) : Int) := by rw [show W64 ((i : Int) + 1) = (i : Int) + 1 from w64 (by omega) (by omega)]; simp
    have hj : W64 (W64 ((l.length : Int) - 1) - i) = ((l.length - 1 - i : Nat) : Int) := by
      rw [show W64 ((l.length : Int) - 1) = (l.length : Int) - 1 from w64 (by omega) (by omega)]
      exact (w64 (by omega) (by omega)).trans (by omega)
    have ht : (List.reverse l).take (i + 1) = (List.reverse l).take i ++ [l[l.length - 1 - i]'(by omega)] := by
      rw [List.take_add_one, List.getElem?_reverse he, hx]; rfl
    refine .inr ⟨i + 1, by omega, by omega, rfl, fun T => ?_⟩
    rw [roundN, decide_eq_true (by omega : (i : Int) < l.length), hj, decide_eq_true (by omega : (0 : Int) ≤ ((l.length - 1 - i : Nat) : Int)), atL_some (show (l : List iK.α)[(((l.length - 1 - i : Nat) : Int)).toNat]? = some _ from hx), hw, ht,
      decide_eq_true (show ((List.reverse l).take i).length + [l[l.length - 1 - i]'(by omega)].length ≤ LIM by simp only [List.length_take, List.length_cons, List.length_nil]; unfold LIM; omega)]
    rfl
  · have : i = l.length := by omega
    subst this
    refine .inl fun T => ?_
    rw [roundN, decide_eq_false (by omega), List.take_of_length_le (by simp)]
    rfl
noncomputable def specN (vals : List AV) (st : Store) : Tr (Ex × St) :=
  match vals, st with
  | [.seq (.int .i64) l, .int .i64 n, .int .i64 e, .whole 0, .int .i64 z, .int .i64 i], [.row (.int .i64) acc] => .need (decide (i = 0) && (decide (z = (List.length (α := Int) l : Int)) && (decide (List.length (α := Int) l ≤ 1000) && decide (List.length (α := Int) acc = 0)))) (.ret (.exit 0, ON n e (List.reverse (α := Int) l)))
  | _, _ => .no
theorem specN_ok (hev : EvOK (E1 v u)) : LoopOK (XN v u) [] bodyN Tryd.f6.ntmps [0, 3, 4, 7, 34, 35] specN := by
  intro vals st r h
  unfold specN at h
  split at h
  · rename_i l n e z i acc
    obtain ⟨h1, hA⟩ := need_get h
    simp only [Bool.and_eq_true, decide_eq_true_eq] at h1
    obtain ⟨h1, h2, h3, h4⟩ := h1
    obtain rfl : acc = [] := List.eq_nil_of_length_eq_zero h4
    rw [h1, h2, ← ret_get hA]
    exact loopN hev l n e h3
  · exact (no_get h).elim
noncomputable def LN : Nat → St → Tr (Ex × St) := loops [(0, loopL [] Tryd.f6.ntmps [0, 3, 4, 7, 34, 35] specN)]
theorem sums_ev (l : List Int) : (evFn (XN v u) LN Tryd.f6 [.seq iK l] []).get =
    cond (decide (200 < (l.length : Int))) (bo true) (cond (l.all inR && decide (l.length ≤ 1000)) (cond (l.all inR && decide (l.length ≤ 1000)) (cond (!decide ((sumP l).1 = (sumP l).1)) (bo false) (cond (!decide ((sumP l).2 = (sumP l).2)) (bo false)
      (cond (decide ((0 : Int) = 0) && (decide ((l.length : Int) = (l.length : Int)) && (decide (l.length ≤ 1000) && decide (([] : List Int).length = 0))))
        (cond ((List.reverse l).all inR && decide ((List.reverse l).length ≤ 1000)) (cond (decide ((sumP (List.reverse l)).1 = (sumP l).1)) (cond (decide ((sumP (List.reverse l)).2 = (sumP l).2)) (bo true) (bo false)) (bo false)) none) none))) none) none) := by kernel_rfl
theorem sum_snoc : ∀ (l : List Int) (x : Int), (l ++ [x]).sum = l.sum + x
  | [], x => by simp
  | y :: l, x => by rw [List.cons_append, List.sum_cons, List.sum_cons, sum_snoc l x]; omega
theorem sum_rev : ∀ (l : List Int), (List.reverse l).sum = l.sum
  | [] => rfl
  | y :: l => by rw [List.reverse_cons, sum_snoc, sum_rev l, List.sum_cons]; omega
theorem sums_true (l : List Int) (h : l.all inR = true) : (evFn (XN v u) LN Tryd.f6 [.seq iK l] []).get = some (.bool true, []) := by
  rw [sums_ev]
  by_cases hl : (200 : Int) < (l.length : Int)
  · rw [decide_eq_true hl]; rfl
  · have e1 : sumP (List.reverse l) = sumP l := by unfold sumP; rw [sum_rev]
    rw [decide_eq_false hl, h, decide_eq_true (by omega : l.length ≤ 1000), List.all_reverse, h, List.length_reverse, decide_eq_true (by omega : l.length ≤ 1000), e1,
      decide_eq_true (rfl : (l.length : Int) = l.length), decide_eq_true (rfl : (sumP l).1 = (sumP l).1), decide_eq_true (rfl : (sumP l).2 = (sumP l).2)]
    rfl
theorem sums_loops (hev : EvOK (E1 v u)) : LoopsAt (XN v u) LN [] cN 0 := loops_ok ⟨loop_entry (n := 0) hbN (specN_ok hev), trivial⟩
end Go.Proofs.YtpiphiieflnabaaDoor
