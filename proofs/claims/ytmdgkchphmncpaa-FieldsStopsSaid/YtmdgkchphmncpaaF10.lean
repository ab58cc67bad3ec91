/- FieldsStops: the loops, and the law's answer. (under way) -/
import Derived.Test.YtmdgkchphmncpaaF09
namespace Go.Proofs.Ytmdgkchphmncpaa
open Go Go.Abs
set_option maxRecDepth 100000

/-! ### What Take does to lengths -/
theorem grow_gath (e1 e2 e3 e4 : Bool) (eb : Int) (m : Mk) : (gath e1 e2 e3 e4 eb m).2.fl.length ≤ m.fl.length + 1 ∧ (gath e1 e2 e3 e4 eb m).2.rc.length ≤ m.rc.length + 2 := by
  have h1 : (gs1 e1 m).2.fl = m.fl ∧ (gs1 e1 m).2.rc = m.rc := by unfold gs1 beginM; cases e1 <;> exact ⟨rfl, rfl⟩
  have h2 : ∀ p : Int × Mk, (gs2 e2 eb p).2.fl.length ≤ p.2.fl.length + 1 ∧ (gs2 e2 eb p).2.rc = p.2.rc := by
    intro p; unfold gs2 addM
    cases decide (p.1 = 0) <;> cases e2 <;> cases decide (p.2.a ≤ (p.2.fl.length : Int)) <;> simp
  have h3 : ∀ p : Int × Mk, (gs3 e3 p).2.fl.length ≤ p.2.fl.length ∧ (gs3 e3 p).2.rc.length ≤ p.2.rc.length + 1 := by
    intro p; unfold gs3 putM
    cases decide (p.1 = 0) <;> cases e3 <;> simp
  have h4 : ∀ p : Int × Mk, (gs4 e4 p).2.fl.length ≤ p.2.fl.length ∧ (gs4 e4 p).2.rc.length ≤ p.2.rc.length + 1 := by
    intro p; unfold gs4 putM
    cases decide (p.1 = 0) <;> cases e4 <;> simp
  unfold gath
  have k2 := h2 (gs1 e1 m)
  have k3 := h3 (gs2 e2 eb (gs1 e1 m))
  have k4 := h4 (gs3 e3 (gs2 e2 eb (gs1 e1 m)))
  rw [h1.1, h1.2] at k2
  rw [k2.2] at k3
  omega
theorem grow_take (e : evK.α) (m : Mk) : (takeE e m).1.fl.length ≤ m.fl.length + 1 ∧ (takeE e m).1.rc.length ≤ m.rc.length + 2 := by
  have ht : ∀ e5 (m : Mk), (takeT e5 m).1.fl = m.fl ∧ (takeT e5 m).1.rc.length ≤ m.rc.length := by
    intro e5 m; unfold takeT
    cases decide (m.sp = 0) <;> cases e5 <;> simp
  unfold takeE takeP
  have := grow_gath e.1 e.2.1 e.2.2.1 e.2.2.2.1 e.2.2.2.2.2 m
  generalize gath e.1 e.2.1 e.2.2.1 e.2.2.2.1 e.2.2.2.2.2 m = g at this
  cases decide (m.sp = 0)
  · have h := ht e.2.2.2.2.1 m
    simp only [cond_false]; rw [h.1]; omega
  · have h := ht e.2.2.2.2.1 { g.2 with sp := g.1 }
    simp only [cond_true]; rw [h.1]; dsimp only at h ⊢; omega
/-- Behind an error. -/
theorem take_stuck (e : evK.α) (m : Mk) (h : m.sp ≠ 0) : takeE e m = (m, [], false, m.sp) := by
  unfold takeE takeP takeT
  simp [h]
theorem room_of {i : Nat} {m : Mk} (h1 : m.fl.length ≤ i) (h2 : m.rc.length ≤ 2 * i) (hi : i ≤ 100000) : room m = true := by
  simp only [room, Bool.and_eq_true, decide_eq_true_eq]; unfold LIM; omega

noncomputable def l8 : List (Nat × Con) := (12, sameC) :: l7
theorem ok8 : AllOK Try.prog G0 l8 := ⟨okSame, ok7⟩

/-! ### The loops -/
noncomputable def c5 : Code := Try.f5.body.getD .skip
noncomputable def body5 : Code := (loopAt c5 0).getD .skip
noncomputable def body5b : Code := (loopAt c5 1).getD .skip
theorem hc5 : Try.f5.body = some c5 := by kernel_rfl
theorem hb5 : loopAt c5 0 = some body5 := by kernel_rfl
theorem hb5b : loopAt c5 1 = some body5b := by kernel_rfl
noncomputable def S5 (more xs : List evK.α) (n i : Int) (m : Mk) : St := stOf Try.f5.ntmps [7, 2, 45, 46, 47] [.ptr 0 0, .seq evK more, .seq evK xs, .int .i64 n, .int .i64 i] m.inSt
noncomputable def O5 (more : List evK.α) (m : Mk) : St := stOf Try.f5.ntmps [7, 2] [.ptr 0 0, .seq evK more] m.inSt
theorem round5 (more xs : List evK.α) (n i : Int) (m : Mk) (T : St → Tr (Ex × St)) : (evRound (ctx Try.prog G0 l8) noL [] body5 1 [7, 2, 45, 46, 47] [7, 2] (S5 more xs n i m) T).get =
    cond (decide (i < n)) (cond (decide (0 ≤ i)) (atL xs i.toNat fun e => cond (room m) (T (S5 more xs n (IntKind.i64.wrap (i + 1)) (takeE e m).1)).get none) none) (some (.exit 0, O5 more m)) := by kernel_rfl

def Mk.inS (m : Mk) (was : List (List UInt8)) : Store := [m.cells 1 2, .row (.int .u8) m.fl, .row .str m.rc, .row .str was]
noncomputable def S5b (more : List evK.α) (n i f : Int) (fld : List UInt8) (ct bg : Int) (m : Mk) (was : List (List UInt8)) : St :=
  stOf Try.f5.ntmps [7, 70, 71, 72, 15, 11, 12, 13, 14] [.ptr 0 0, .seq evK more, .int .i64 n, .int .i64 i, .int .i64 f, .whole 3, .str fld, .int .i64 ct, .int .i64 bg] (m.inS was)
noncomputable def O5b (fld : List UInt8) (ct bg : Int) (m : Mk) (was : List (List UInt8)) (r : AV) : St :=
  stOf Try.f5.ntmps [7, 11, 12, 13, 14, 6] [.ptr 0 0, .whole 3, .str fld, .int .i64 ct, .int .i64 bg, r] (m.inS was)
theorem round5b (more : List evK.α) (n i f : Int) (fld : List UInt8) (ct bg : Int) (m : Mk) (was : List (List UInt8)) (T : St → Tr (Ex × St)) :
    (evRound (ctx Try.prog G0 l8) noL [] body5b 2 [7, 70, 71, 72, 15, 11, 12, 13, 14] [7, 11, 12, 13, 14, 6] (S5b more n i f fld ct bg m was) T).get =
    cond (decide (i < n)) (cond (decide (0 ≤ i)) (atL more i.toNat fun e => cond (room m)
      (cond (!decide (((takeE e m).2.1.length : Int) = 0)) (some (.ret, O5b fld ct bg (takeE e m).1 was (.bool false)))
        (cond (takeE e m).2.2.1 (some (.ret, O5b fld ct bg (takeE e m).1 was (.bool false)))
          (cond (!decide ((takeE e m).2.2.2 = f)) (some (.ret, O5b fld ct bg (takeE e m).1 was (.bool false)))
            (T (S5b more n (IntKind.i64.wrap (i + 1)) f fld ct bg (takeE e m).1 was)).get))) none) none) (some (.exit 2, O5b fld ct bg m was .top)) := by kernel_rfl

theorem loop5 (more xs : List evK.α) (m0 : Mk) (hx : xs.length ≤ 150) (h0 : m0.fl = []) (h1 : m0.rc = []) :
    room (afterM m0 xs) = true ∧ LoopSem (ctx Try.prog G0 l8) [] body5 (S5 more xs xs.length 0 m0) (.exit 0, O5 more (afterM m0 xs)) := by
  have := range_loop (X := ctx Try.prog G0 l8) (ctx_ok ok8) hm (L := noL) (n0 := []) (body := body5) (off := 1) (live := [7, 2, 45, 46, 47]) (out := [7, 2]) noL_ok xs (fun i m => S5 more xs xs.length i m) (fun m e => (takeE e m).1) (fun m => (.exit 0, O5 more m))
    (fun i m => i ≤ 150 ∧ m.fl.length ≤ i ∧ m.rc.length ≤ 2 * i) (fun i m e ⟨h1, h2, h3⟩ he => by
      have hi : i < xs.length := (List.getElem?_eq_some_iff.1 he).1
      obtain ⟨k1, k2⟩ := grow_take e m
      refine ⟨⟨by omega, by omega, by omega⟩, fun T => ?_⟩
      rw [round5, decide_eq_true (by omega : (i : Int) < xs.length), decide_eq_true (by omega : (0 : Int) ≤ i), atL_some (show xs[(i : Int).toNat]? = some e from he), room_of h2 h3 (by omega), wrap64 (by omega) (by omega)]
      rfl) (fun m _ T => by rw [round5, decide_eq_false (by omega)]; rfl) xs.length 0 m0 (by omega) ⟨by omega, by simp [h0], by simp [h1]⟩
  exact ⟨room_of (i := 150) (Nat.le_trans this.1.2.1 hx) (Nat.le_trans this.1.2.2 (by omega)) (by omega), this.2⟩

theorem loop5b (more : List evK.α) (fld : List UInt8) (ct bg : Int) (m : Mk) (was : List (List UInt8)) (hx : more.length ≤ 150) (hs : m.sp ≠ 0) (hr : room m = true) :
    LoopSem (ctx Try.prog G0 l8) [] body5b (S5b more more.length 0 m.sp fld ct bg m was) (.exit 2, O5b fld ct bg m was .top) := by
  have := range_loop (M := Unit) (X := ctx Try.prog G0 l8) (ctx_ok ok8) hm (L := noL) (n0 := []) (body := body5b) (off := 2) (live := [7, 70, 71, 72, 15, 11, 12, 13, 14]) (out := [7, 11, 12, 13, 14, 6]) noL_ok more (fun i _ => S5b more more.length i m.sp fld ct bg m was) (fun _ _ => ()) (fun _ => (.exit 2, O5b fld ct bg m was .top))
    (fun i _ => i ≤ 150) (fun i u e h1 he => by
      have hi : i < more.length := (List.getElem?_eq_some_iff.1 he).1
      refine ⟨by omega, fun T => ?_⟩
      rw [round5b, decide_eq_true (by omega : (i : Int) < more.length), decide_eq_true (by omega : (0 : Int) ≤ i), atL_some (show more[(i : Int).toNat]? = some e from he), hr, wrap64 (by omega) (by omega), take_stuck e m hs]
      simp) (fun _ _ T => by rw [round5b, decide_eq_false (by omega)]; rfl) more.length 0 () (by omega) (by omega)
  exact this.2

def getMkS : Store → Option (Mk × List (List UInt8))
  | [a, b, c, .row .str was] => (getMk [a, b, c]).map (·, was)
  | _ => none
theorem getMkS_ok {st : Store} {m : Mk} {was : List (List UInt8)} (h : getMkS st = some (m, was)) : st = m.inS was := by
  unfold getMkS at h
  split at h
  · obtain ⟨m', h1, h2⟩ := Option.map_eq_some_iff.1 h
    cases h2
    have := getMk_ok h1
    unfold Mk.inSt at this; unfold Mk.inS
    simp only [List.cons.injEq, and_true] at this
    rw [this.1, this.2.1, this.2.2]
  · cases h

noncomputable def spec5 (vals : List AV) (st : Store) : Tr (Ex × St) :=
  match vals, getMk st with
  | [.ptr 0 0, .seq evK more, .seq evK xs, .int .i64 n, .int .i64 i], some m => .need (m.fl.isEmpty && m.rc.isEmpty && decide (i = 0)) (.need (decide (xs.length ≤ 150) && decide (n = xs.length)) (.ret (.exit 0, O5 more (afterM m xs))))
  | _, _ => .no
theorem spec5_ok : LoopOK (ctx Try.prog G0 l8) [] body5 Try.f5.ntmps [7, 2, 45, 46, 47] spec5 := by
  intro vals st r h
  unfold spec5 at h
  split at h
  · rename_i more xs n i m hm'
    obtain ⟨h1, hA⟩ := need_get h
    obtain ⟨h2, hB⟩ := need_get hA
    have e := ret_get hB
    have es := getMk_ok hm'
    simp only [Bool.and_eq_true, decide_eq_true_eq, List.isEmpty_iff] at h1 h2
    rw [← e, es, h1.2, h2.2]
    exact (loop5 more xs m h2.1 h1.1.1 h1.1.2).2
  · exact (no_get h).elim
noncomputable def spec5b (vals : List AV) (st : Store) : Tr (Ex × St) :=
  match vals, getMkS st with
  | [.ptr 0 0, .seq evK more, .int .i64 n, .int .i64 i, .int .i64 f, .whole 3, .str fld, .int .i64 ct, .int .i64 bg], some (m, was) => .need (decide (i = 0)) (.need (decide (more.length ≤ 150) && decide (n = more.length) && room m && decide (f = m.sp) && !decide (m.sp = 0)) (.ret (.exit 2, O5b fld ct bg m was .top)))
  | _, _ => .no
theorem spec5b_ok : LoopOK (ctx Try.prog G0 l8) [] body5b Try.f5.ntmps [7, 70, 71, 72, 15, 11, 12, 13, 14] spec5b := by
  intro vals st r h
  unfold spec5b at h
  split at h
  · rename_i more n i f fld ct bg m was hm'
    obtain ⟨h1, hA⟩ := need_get h
    obtain ⟨h2, hB⟩ := need_get hA
    have e := ret_get hB
    have es := getMkS_ok hm'
    simp only [Bool.and_eq_true, decide_eq_true_eq, Bool.not_eq_true', decide_eq_false_iff_not] at h1 h2
    rw [← e, es, h1, h2.1.1.1.2, h2.1.2]
    exact loop5b more fld ct bg m was h2.1.1.1.1 h2.2 h2.1.1.2
  · exact (no_get h).elim
noncomputable def L5 : Nat → St → Tr (Ex × St) := loops [(0, loopL [] Try.f5.ntmps [7, 2, 45, 46, 47] spec5), (1, loopL [] Try.f5.ntmps [7, 70, 71, 72, 15, 11, 12, 13, 14] spec5b)]
end Go.Proofs.Ytmdgkchphmncpaa
