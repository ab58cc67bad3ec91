/- whole.walk and whole.Parse: what they do. Conditions: texts of at most 100000 bytes. -/
import Derived.Test.YtmdgkchphmncpaaDoorW03
namespace Go.Proofs.YtmdgkchphmncpaaDoor
open Go Go.Abs
set_option maxRecDepth 100000

/-! ### What Take does to lengths -/
theorem grow_gath (e1 e2 e3 e4 : Bool) (eb : Int) (m : Mk) : (gath e1 e2 e3 e4 eb m).2.fl.length ≤ m.fl.length + 1 ∧ (gath e1 e2 e3 e4 eb m).2.rc.length ≤ m.rc.length + 2 := by
  have h1 : (gs1 e1 m).2.fl = m.fl ∧ (gs1 e1 m).2.rc = m.rc := by unfold gs1 beginM; cases e1 <;> exact ⟨rfl, rfl⟩
  have h2 : ∀ p : Int × Mk, (gs2 e2 eb p).2.fl.length ≤ p.2.fl.length + 1 ∧ (gs2 e2 eb p).2.rc = p.2.rc := by
    intro p; unfold gs2 addM
    cases decide (p.1 = 0) <;> cases e2 <;> cases decide (p.2.a ≤ (p.2.fl.length : Int)) <;> simp
  have h3 : ∀ p : Int × Mk, (gs3 e3 p).2.fl.length ≤ p.2.fl.length ∧ (gs3 e3 p).2.rc.length ≤ p.2.rc.length + 1 := by
    intro p; unfold gs3 putM
    cases decide (p.1 = 0) <;> cases e3 <;> simp
  have h4 : ∀ p : Int × Mk, (gs4 e4 p).2.fl.length ≤ p.2.fl.length ∧ (gs4 e4 p).2.rc.length ≤ p.2.rc.length + 1 := by
    intro p; unfold gs4 putM
    cases decide (p.1 = 0) <;> cases e4 <;> simp
  unfold gath
  have k2 := h2 (gs1 e1 m)
  have k3 := h3 (gs2 e2 eb (gs1 e1 m))
  have k4 := h4 (gs3 e3 (gs2 e2 eb (gs1 e1 m)))
  rw [h1.1, h1.2] at k2
  rw [k2.2] at k3
  omega
theorem grow_take (e : Evt) (m : Mk) : (takeE e m).1.fl.length ≤ m.fl.length + 1 ∧ (takeE e m).1.rc.length ≤ m.rc.length + 2 := by
  have ht : ∀ e5 (m : Mk), (takeT e5 m).1.fl = m.fl ∧ (takeT e5 m).1.rc.length ≤ m.rc.length := by
    intro e5 m; unfold takeT
    cases decide (m.sp = 0) <;> cases e5 <;> simp
  unfold takeE takeP
  have := grow_gath e.1 e.2.1 e.2.2.1 e.2.2.2.1 e.2.2.2.2.2 m
  generalize gath e.1 e.2.1 e.2.2.1 e.2.2.2.1 e.2.2.2.2.2 m = g at this
  cases decide (m.sp = 0)
  · have h := ht e.2.2.2.2.1 m
    simp only [cond_false]; rw [h.1]; omega
  · have h := ht e.2.2.2.2.1 { g.2 with sp := g.1 }
    simp only [cond_true]; rw [h.1]; dsimp only at h ⊢; omega
theorem room_of {i : Nat} {m : Mk} (h1 : m.fl.length ≤ i) (h2 : m.rc.length ≤ 2 * i) (hi : i ≤ 100001) : room m = true := by
  simp only [room, Bool.and_eq_true, decide_eq_true_eq]; unfold LIM; omega

/-! ### A walk, in plain words -/
/-- A byte: the fault's kind (0: none), and what the walk has then. -/
def wNext (d : D3) (first i : Int) (w : Wk) (b : Int) : Int × Wk :=
  match utfP w.u b with
  | none => (3, w)
  | some u' =>
    cond (decide (i < first)) (0, { w with u := u' })
      (cond (!decide ((scanD d w.s b).2.2 = 0)) ((scanD d w.s b).2.2, ⟨u', (scanD d w.s b).2.1, w.m, w.out⟩)
        (cond (!decide ((takeE (scanD d w.s b).1 w.m).2.2.2 = 0)) ((takeE (scanD d w.s b).1 w.m).2.2.2, ⟨u', (scanD d w.s b).2.1, (takeE (scanD d w.s b).1 w.m).1, w.out⟩)
          (0, ⟨u', (scanD d w.s b).2.1, (takeE (scanD d w.s b).1 w.m).1, cond (takeE (scanD d w.s b).1 w.m).2.2.1 (w.out ++ [(takeE (scanD d w.s b).1 w.m).2.1]) w.out⟩)))
/-- Bytes from a place on: the first fault's kind and place, and what the walk has then. -/
def wRun (d : D3) (first : Int) : Int → List UInt8 → Wk → Int × Int × Wk
  | i, [], w => (0, i, w)
  | i, b :: r, w => cond (decide ((wNext d first i w b.toNat).1 = 0)) (wRun d first (i + 1) r (wNext d first i w b.toNat).2) ((wNext d first i w b.toNat).1, i, (wNext d first i w b.toNat).2)

theorem wRun_cons (d : D3) (first i : Int) (b : UInt8) (r : List UInt8) (w : Wk) : wRun d first i (b :: r) w = cond (decide ((wNext d first i w b.toNat).1 = 0)) (wRun d first (i + 1) r (wNext d first i w b.toNat).2) ((wNext d first i w b.toNat).1, i, (wNext d first i w b.toNat).2) := rfl

structure WOK (i : Nat) (w : Wk) : Prop where
  u0 : 0 ≤ w.u
  u8 : w.u < 8
  fl : w.m.fl.length ≤ i
  rc : w.m.rc.length ≤ 2 * i
  out : w.out.length ≤ i
theorem wok_next {i : Nat} {w : Wk} (h : WOK i w) (d : D3) (first j b : Int) : WOK (i + 1) (wNext d first j w b).2 := by
  obtain ⟨h1, h2, h3, h4, h5⟩ := h
  have hg := grow_take (scanD d w.s b).1 w.m
  unfold wNext
  cases hu : utfP w.u b with
  | none =>
    show WOK (i + 1) w
    exact ⟨h1, h2, by omega, by omega, by omega⟩
  | some u' =>
    obtain ⟨k1, k2⟩ := utfP_lt hu
    dsimp only
    cases decide (j < first)
    · cases decide ((scanD d w.s b).2.2 = 0)
      · exact ⟨k1, k2, by simp only [Bool.not_false, cond_false, cond_true]; omega, by simp only [Bool.not_false, cond_false, cond_true]; omega, by simp only [Bool.not_false, cond_false, cond_true]; omega⟩
      · cases decide ((takeE (scanD d w.s b).1 w.m).2.2.2 = 0)
        · exact ⟨k1, k2, by simp only [Bool.not_false, Bool.not_true, cond_false, cond_true]; omega, by simp only [Bool.not_false, Bool.not_true, cond_false, cond_true]; omega, by simp only [Bool.not_false, Bool.not_true, cond_false, cond_true]; omega⟩
        · cases (takeE (scanD d w.s b).1 w.m).2.2.1
          · exact ⟨k1, k2, by simp only [Bool.not_true, cond_false]; omega, by simp only [Bool.not_true, cond_false]; omega, by simp only [Bool.not_true, cond_false]; omega⟩
          · exact ⟨k1, k2, by simp only [Bool.not_true, cond_false]; omega, by simp only [Bool.not_true, cond_false]; omega, by simp only [Bool.not_true, cond_false, cond_true, List.length_append, List.length_cons, List.length_nil]; omega⟩
    · exact ⟨k1, k2, by simp only [cond_true]; omega, by simp only [cond_true]; omega, by simp only [cond_true]; omega⟩
theorem wok_run (d : D3) (first : Int) : ∀ (r : List UInt8) (i : Nat) (j : Int) (w : Wk), WOK i w → WOK (i + r.length) (wRun d first j r w).2.2
  | [], i, j, w, h => h
  | b :: r, i, j, w, h => by
    have hn := wok_next h d first j b.toNat
    unfold wRun
    cases decide ((wNext d first j w b.toNat).1 = 0)
    · refine ⟨hn.u0, hn.u8, ?_, ?_, ?_⟩
      · have := hn.fl; simp only [cond_false, List.length_cons]; omega
      · have := hn.rc; simp only [cond_false, List.length_cons]; omega
      · have := hn.out; simp only [cond_false, List.length_cons]; omega
    · have := wok_run d first r (i + 1) (j + 1) _ hn
      simp only [cond_true, List.length_cons]
      rw [show i + (r.length + 1) = i + 1 + r.length by omega]; exact this

noncomputable def resW (t : List UInt8) (p : Int × Int × Wk) : Ex × St := cond (decide (p.1 = 0)) (.exit 0, OW t p.2.2 0 0 .top) (.ret, OW t p.2.2 p.1 p.2.1 (.bool true))
theorem loopW (d : D3) (t : List UInt8) (first : Int) (w : Wk) (hl : t.length ≤ 100000) (h0 : WOK 0 w) : LoopSem XW [true, false] bodyW (SW d t first t.length 0 w) (resW t (wRun d first 0 t w)) := by
  have := loop_meas (X := XW) (ctx_ok okw2) hm (L := noL) (n0 := [true, false]) (body := bodyW) (off := 1) (live := [2, 3, 4, 11, 15, 16, 17, 51, 52, 8]) (out := [2, 3, 8, 9, 11, 16, 17]) noL_ok
    (fun p : Nat × Wk => SW d t first t.length p.1 p.2) (fun p => resW t (wRun d first p.1 (t.drop p.1) p.2)) (fun p => t.length - p.1) (fun p => p.1 ≤ t.length ∧ WOK p.1 p.2) ?_ (0, w) ⟨by simp, h0⟩
  · simpa using this
  rintro ⟨i, w⟩ ⟨hi, hw⟩
  dsimp only at hi hw
  by_cases he : i < t.length
  · have hx : t[i]? = some t[i] := List.getElem?_eq_getElem he
    have hwr : IntKind.i64.wrap ((i : Int) + 1) = ((i + 1 : Nat) : Int) := by rw [wrap64 (by omega) (by omega)]; simp
    have hr := fun T => roundW d t first t.length i w T
    rw [decide_eq_true (by omega : (i : Int) < t.length), decide_eq_true (by omega : (0 : Int) ≤ i), decide_eq_true hw.u0, decide_eq_true hw.u8, hwr] at hr
    simp only [atL_some (show t[(i : Int).toNat]? = some _ from hx), cond_true, Bool.true_and, Bool.and_true] at hr
    have hroom : room w.m = true := room_of hw.fl hw.rc (by omega)
    have hout : decide (w.out.length + 1 ≤ LIM) = true := decide_eq_true (by have := hw.out; unfold LIM; omega)
    have hn := wok_next hw d first i (t[i]).toNat
    rw [List.drop_eq_getElem_cons he, wRun_cons]
    cases hu : utfP w.u (t[i]).toNat with
    | none =>
      refine .inl fun T => ?_
      rw [hr, hu]
      have e : wNext d first i w (t[i]).toNat = (3, w) := by unfold wNext; rw [hu]
      rw [e]; rfl
    | some u' =>
      rw [hu] at hr
      simp only [Option.isSome_some, Option.getD_some, Bool.not_true, cond_false] at hr
      cases hf : decide ((i : Int) < first) with
      | true =>
        rw [hf] at hr
        have e : wNext d first i w (t[i]).toNat = (0, { w with u := u' }) := by unfold wNext; rw [hu]; dsimp only; rw [hf]; rfl
        rw [e] at hn ⊢
        exact .inr ⟨(i + 1, { w with u := u' }), ⟨by dsimp only; omega, hn⟩, by dsimp only; omega, rfl, fun T => by rw [hr]; rfl⟩
      | false =>
        rw [hf] at hr
        unfold wByte at hr
        rw [hroom, hout, hwr] at hr
        cases hs : decide ((scanD d w.s (t[i]).toNat).2.2 = 0) with
        | false =>
          rw [hs] at hr
          have e : wNext d first i w (t[i]).toNat = ((scanD d w.s (t[i]).toNat).2.2, ⟨u', (scanD d w.s (t[i]).toNat).2.1, w.m, w.out⟩) := by unfold wNext; rw [hu]; dsimp only; rw [hf, hs]; rfl
          refine .inl fun T => ?_
          rw [hr, e]
          unfold resW; dsimp only; rw [hs]; simp only [cond_false, Bool.not_false, cond_true]; rw [hs]; rfl
        | true =>
          rw [hs] at hr
          cases hk : decide ((takeE (scanD d w.s (t[i]).toNat).1 w.m).2.2.2 = 0) with
          | false =>
            rw [hk] at hr
            have e : wNext d first i w (t[i]).toNat = ((takeE (scanD d w.s (t[i]).toNat).1 w.m).2.2.2, ⟨u', (scanD d w.s (t[i]).toNat).2.1, (takeE (scanD d w.s (t[i]).toNat).1 w.m).1, w.out⟩) := by unfold wNext; rw [hu]; dsimp only; rw [hf, hs, hk]; rfl
            refine .inl fun T => ?_
            rw [hr, e]
            unfold resW; dsimp only; rw [hk]; simp only [cond_false, Bool.not_false, cond_true]; rw [hk]; rfl
          | true =>
            rw [hk] at hr
            have e : wNext d first i w (t[i]).toNat = (0, ⟨u', (scanD d w.s (t[i]).toNat).2.1, (takeE (scanD d w.s (t[i]).toNat).1 w.m).1, cond (takeE (scanD d w.s (t[i]).toNat).1 w.m).2.2.1 (w.out ++ [(takeE (scanD d w.s (t[i]).toNat).1 w.m).2.1]) w.out⟩) := by unfold wNext; rw [hu]; dsimp only; rw [hf, hs, hk]; rfl
            rw [e] at hn ⊢
            refine .inr ⟨(i + 1, _), ⟨by dsimp only; omega, hn⟩, by dsimp only; omega, rfl, fun T => ?_⟩
            rw [hr]
            cases (takeE (scanD d w.s (t[i]).toNat).1 w.m).2.2.1 <;> rfl
  · have : i = t.length := by omega
    subst this
    refine .inl fun T => ?_
    rw [roundW, decide_eq_false (by omega), List.drop_of_length_le (Nat.le_refl _)]
    rfl
end Go.Proofs.YtmdgkchphmncpaaDoor
