/- FieldsOwn: records that were handed out are their own: the law returns true whatever the events, and what it was handed reads as it did. Conditions: none. -/
import Derived.Test.YtmdgkchphmncpaaRows
import Derived.WalkKit
import Derived.ProofKit
import Derived.OpenShut
import Derived.Test.YtmdgkchphmncpaaF14
namespace Go.Proofs.Ytmdgkchphmncpaa
open Go Go.Abs
set_option maxRecDepth 100000

def x0 : Rk := ⟨1000, 1000, 1000, 0, [], [], 0, 0, 0, 0⟩
def step3 (p : Mk × Rk) (e : evK.α) : Mk × Rk := ((takeE e p.1).1, (rtakeE e p.2).1)
def after3 (xs : List evK.α) : Mk × Rk := xs.foldl step3 (start4, x0)
def okE (e : evK.α) : Bool := decide (0 ≤ e.2.2.2.2.2) && decide (e.2.2.2.2.2 ≤ 255)
theorem twin0 : Twin 0 start4 x0 := ⟨⟨rfl, rfl, rfl, rfl, by simp [start4, newM], by simp [start4, newM], by simp [start4, newM], by simp [start4, newM]⟩, rfl, rfl, rfl, rfl, rfl, rfl, rfl, rfl, rfl, rfl⟩

theorem loop3 (xs : List evK.α) (hx : xs.length ≤ 150) (ha : xs.all okE = true) : (after3 xs).2.rc = (after3 xs).1.rc ∧ (after3 xs).1.rc.length ≤ LIM ∧
    LoopSem X3 [] body3 (S3 start4 x0 xs xs.length 0) (.exit 0, O3 (after3 xs).1 (after3 xs).2 .top) := by
  have := range_loop (M := Mk × Rk) (X := X3) (ctx_ok ok9) hm (L := L3i) (n0 := []) (body := body3) (off := 1) (live := [4, 6, 50, 51, 52]) (out := [4, 6, 2]) L3i_ok xs (fun i p => S3 p.1 p.2 xs xs.length i) step3 (fun p => (.exit 0, O3 p.1 p.2 .top))
    (fun i p => i ≤ 150 ∧ Twin i p.1 p.2) (fun i p e ⟨h1, h2⟩ he => by
      obtain ⟨m, x⟩ := p
      have h2 : Twin i m x := h2
      have hi : i < xs.length := (List.getElem?_eq_some_iff.1 he).1
      have hok := List.all_eq_true.1 ha e (List.mem_of_getElem? he)
      simp only [okE, Bool.and_eq_true, decide_eq_true_eq] at hok
      obtain ⟨k1, k2, k3⟩ := twin_take h2 (by omega) e hok.1 hok.2
      refine ⟨⟨by omega, k3⟩, fun T => ?_⟩
      dsimp only
      have hr : room m = true := room_of h2.w.fl h2.w.rc (by omega)
      have hR : roomR x = true := by
        have h5 := h2.w.fl; have h6 := h2.w.rc
        simp only [roomR, Bool.and_eq_true, decide_eq_true_eq]
        rw [h2.fd, h2.rc]; unfold LIM; simp only [toStr, List.length_map]; omega
      have hl : (takeE e m).2.1.length ≤ LIM := by unfold LIM; omega
      have hl2 : (takeE e m).1.rc.length ≤ LIM := by have := k3.w.rc; unfold LIM; omega
      rw [round3, decide_eq_true (by omega : (i : Int) < xs.length), decide_eq_true (by omega : (0 : Int) ≤ i), atL_some (show xs[(i : Int).toNat]? = some e from he), hr, hR, decide_eq_true hl, decide_eq_true k1, decide_eq_true hl2, wrap64 (by omega) (by omega)]
      simp [step3]) (fun p _ T => by rw [round3, decide_eq_false (by omega)]; rfl) xs.length 0 (start4, x0) (by omega) ⟨by omega, twin0⟩
  refine ⟨this.1.2.rc, ?_, this.2⟩
  have := this.1.2.w.rc
  refine Nat.le_trans this ?_
  unfold LIM; omega

theorem getTwo_nil {st : Store} {m : Mk} {x : Rk} {r : List (List UInt8)} (h : getTwo (st ++ [.row .str []]) = some (m, x, r)) : st = twoSt m x [] := by
  have e := getTwo_ok h
  have e2 : twoSt m x [.row .str r] = twoSt m x [] ++ [.row .str r] := rfl
  rw [e2] at e
  exact (List.append_inj' e rfl).1
def isStartR (x : Rk) : Bool := decide (x.a = 1000) && decide (x.b = 1000) && decide (x.c = 1000) && decide (x.u = 0) && x.fd.isEmpty && x.rc.isEmpty && decide (x.bg = 0) && decide (x.ct = 0) && decide (x.fs = 0) && decide (x.wr = 0)
theorem isStart_eq {m : Mk} (h : isStart m = true) : m = start4 := by
  simp only [isStart, Bool.and_eq_true, decide_eq_true_eq, Bool.not_eq_true', List.isEmpty_iff] at h
  obtain ⟨⟨⟨⟨⟨⟨⟨⟨⟨ha, hb⟩, hc⟩, hu⟩, hfl⟩, hrc⟩, hbg⟩, hct⟩, hwd⟩, hsp⟩ := h
  cases m; simp only at ha hb hc hu hfl hrc hbg hct hwd hsp; subst ha hb hc hu hfl hrc hbg hct hwd hsp; rfl
theorem isStartR_eq {m : Rk} (h : isStartR m = true) : m = x0 := by
  simp only [isStartR, Bool.and_eq_true, decide_eq_true_eq, List.isEmpty_iff] at h
  obtain ⟨⟨⟨⟨⟨⟨⟨⟨⟨ha, hb⟩, hc⟩, hu⟩, hfl⟩, hrc⟩, hbg⟩, hct⟩, hwd⟩, hsp⟩ := h
  cases m; simp only at ha hb hc hu hfl hrc hbg hct hwd hsp; subst ha hb hc hu hfl hrc hbg hct hwd hsp; rfl
noncomputable def spec3 (vals : List AV) (st : Store) : Tr (Ex × St) :=
  match vals, getTwo (st ++ [.row .str []]) with
  | [.ptr 0 0, .ptr 3 0, .seq evK xs, .int .i64 n, .int .i64 i], some (m, x, _) => .need (isStart m && isStartR x && decide (i = 0)) (.need (decide (xs.length ≤ 150) && decide (n = xs.length) && xs.all okE) (.ret (.exit 0, O3 (after3 xs).1 (after3 xs).2 .top)))
  | _, _ => .no
theorem spec3_ok : LoopOK X3 [] body3 Try.f3.ntmps [4, 6, 50, 51, 52] spec3 := by
  intro vals st r h
  unfold spec3 at h
  split at h
  · rename_i xs n i m x _ hm'
    obtain ⟨h1, hA⟩ := need_get h
    obtain ⟨h2, hB⟩ := need_get hA
    have e := ret_get hB
    have es := getTwo_nil hm'
    simp only [Bool.and_eq_true, decide_eq_true_eq] at h1 h2
    rw [← e, es, h1.2, h2.1.2, isStart_eq h1.1.1, isStartR_eq h1.1.2]
    exact (loop3 xs h2.1.1 h2.2).2.2
  · exact (no_get h).elim
noncomputable def L3 : Nat → St → Tr (Ex × St) := loops [(0, loopL [] Try.f3.ntmps [4, 6, 50, 51, 52] spec3)]
theorem L3_ok : LoopsAt X3 L3 [] c3 0 := loops_ok ⟨loop_entry (n := 0) hb3 spec3_ok, trivial⟩
def bo (b : Bool) : Option (AV × Store) := some (.bool b, [])
theorem own_ev (xs : List evK.α) : (evFn X3 L3 Try.f3 [.seq evK xs] []).get =
    cond (decide (150 < (xs.length : Int))) (bo true) (cond (decide (xs.length ≤ 150) && decide ((xs.length : Int) = xs.length) && xs.all okE)
      (cond (decide ((after3 xs).1.rc.length ≤ LIM)) (cond (decide ((after3 xs).1.rc.length ≤ LIM)) (cond (decide ((after3 xs).1.rc = (after3 xs).2.rc)) (bo true) (bo false)) none) none) none) := by kernel_rfl
theorem own_true (xs : List evK.α) (ha : xs.all okE = true) : (evFn X3 L3 Try.f3 [.seq evK xs] []).get = some (.bool true, []) := by
  rw [own_ev]
  by_cases h : xs.length ≤ 150
  · obtain ⟨h1, h2, _⟩ := loop3 xs h ha
    rw [decide_eq_false (by omega), decide_eq_true h, ha, decide_eq_true h2, decide_eq_true h1.symm]
    simp [bo]
  · rw [decide_eq_true (by omega)]; rfl
end Go.Proofs.Ytmdgkchphmncpaa
namespace Go.Proofs.Ytmdgkchphmncpaa.fieldsOwn
open Go.ChangeShapes Go.WideShapes Go.ChangeAt Go.RowKit Go.Abs
set_option maxRecDepth 100000

theorem own : ownKnob Try.prog.godebug = none := by kernel_rfl
theorem laid : laidOutB Try.prog = true := by kernel_rfl
theorem maps : mapsRowed Try.prog = true := by kernel_rfl
theorem elems : elemsB Try.prog = true := by kernel_rfl
theorem u22 : Try.prog.underlying 22 = some (.slice 38) := by kernel_rfl
theorem inR_ok {xs : List evK.α} (h : EK.inR (.seq evK) xs) : xs.all okE = true := by
  refine List.all_eq_true.2 fun e he => ?_
  have := (h e he).2.2.2.2.2
  simp only [EK.inR, Lit.wf, IntKind.min, IntKind.max, IntKind.signed, IntKind.bits] at this
  simp only [okE]
  simpa using this

theorem contract (H : Type) (enc : TypeId × Value → H) (W : World) (base : Nat) (args : Array Value) (ds gs : List (DataW H)) (before : List MemPlace)
    (hval : ∀ (j : Nat) t v, Try.f3.params[j]? = some t → args[j]? = some v → Value.okWide Try.prog W .any base t v)
    (hW : DataW.Whole enc Try.prog Try.f3.params.toList Rows.fieldsOwnSpec.vars false W args.toList ds gs before) :
    Calls Try.prog 3 args W fun e W' => ∃ v, e = .returned v ∧ Rows.fieldsOwnSpec.post enc Try.prog Try.f3 false true false false W args v W' := by
  have hW' := hW
  obtain ⟨p, q, hA0, hV, rfl, hfz, hnd⟩ := hW
  have hA : DataW.TrodAll enc Try.prog W 0 (fun _ => true) true Try.f3.params.toList args.toList ds p := hA0
  rw [Try.params3] at hA hval
  obtain ⟨v0, vs0, d0, ds0, p0, q0, hargs, rfl, rfl, h0, r0⟩ := trodAll_cons hA
  obtain ⟨rfl, rfl, rfl⟩ := trodAll_nil r0
  obtain rfl : args = #[v0] := by cases args; simp_all
  obtain ⟨rfl, rfl⟩ := trodVars_none hV
  clear hA0
  obtain ⟨y, hy, hin, -⟩ := open_one (N := noN) (k := .seq evK) (ss_none (N := noN)) (n := 4) (t := 22) (by kernel_rfl) (fun fs h => by rw [u22] at h; cases h) (hval 0 22 v0 rfl rfl) h0
  have hr : Rel W (SS noF noN []) noN (.seq evK y) v0 := hy _ rfl
  refine (law_calls (ctx_ok ok9) hm Try.func3 hc3 L3_ok (own_true y (inR_ok hin)) #[v0] (fun g cs h => by cases h) ⟨rfl, fun j a v ha hv => ?_⟩).mono fun e W' ⟨he, ev⟩ => ⟨_, he, ?_⟩
  · cases j with
    | zero => cases ha; cases hv; exact hr
    | succ j => simp at ha
  · exact law_post (kids_rows laid maps) elems (by rw [Try.params3]; decide +kernel) rfl (by kernel_rfl) rfl hW' rfl ev

theorem lifted (os : Os) (started : os.Started) (H : Type) (enc : TypeId × Value → H) :
    ReturnsInHanded {} Try.checked os 3 .any (Rows.fieldsOwnSpec.pre6 enc Try.prog Try.f3 Rows.fieldsOwnRow.domain false) (Rows.fieldsOwnSpec.post enc Try.prog Try.f3 false true false false) := by
  refine returnsInHanded_of_change (C := Try.checked) own started (by kernel_rfl) Try.func3
    (ChangeSpec.witness6 (enc := enc) (C := Try.checked) false ⟨#[], #[.slice none 0 0], []⟩ 8 (by kernel_rfl) (by kernel_rfl) (by kernel_rfl) (by kernel_rfl)) ?_
  intro W base args ds gs before hval hW hcnd _
  exact contract H enc W base args ds gs before hval hW

theorem over : Rows.fieldsOwnRow.holds Try.pinned (OpenSpec.ofChange Rows.fieldsOwnSpec) :=
  OpenClaim.holds_of_wide 3 Try.f3 rfl rfl rfl rfl rfl rfl rfl ⟨rfl, rfl, rfl, rfl, rfl⟩ rfl rfl rfl rfl rfl (by kernel_rfl) Try.func3 (by kernel_rfl)
    (of_decide_eq_true (by kernel_rfl)) (by unfold Func.isWrapper; first | (rw [if_pos (by decide +kernel)]; kernel_rfl) | (rw [if_neg (by decide +kernel)]; exact ⟨rfl, rfl⟩))
    (fun os started H enc _ => lifted os started H enc)

/-- The statement. -/
theorem proved : Rows.FieldsOwnSaid :=
  over
#print axioms proved
end Go.Proofs.Ytmdgkchphmncpaa.fieldsOwn
