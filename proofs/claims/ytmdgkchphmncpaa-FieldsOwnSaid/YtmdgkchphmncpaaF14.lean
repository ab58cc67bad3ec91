/- FieldsOwn: the two makers within wide limits; the law's answer. (under way) -/
import Derived.Test.YtmdgkchphmncpaaF13
namespace Go.Proofs.Ytmdgkchphmncpaa
open Go Go.Abs
set_option maxRecDepth 100000

def m2 (e1 e2 : Bool) (eb : Int) (m : Mk) : Mk := { m with bg := cond e1 (m.bg + 1) m.bg, fl := cond e2 (m.fl ++ [eb]) m.fl }
def onM (e : Bool) (m : Mk) : Mk := cond e (putM m) m
theorem wide_form {i : Nat} {m : Mk} (h : Wide i m) (hi : i < 150) (e1 e2 e3 e4 : Bool) (eb : Int) : gath e1 e2 e3 e4 eb m = (0, onM e4 (onM e3 (m2 e1 e2 eb m))) := by
  obtain ⟨ha, hb, hc, hu, hfl, hrc, h0, hbg⟩ := h
  have d1 : decide (m.c ≤ m.bg) = false := by simp; omega
  have hw : IntKind.i64.wrap (m.bg + 1) = m.bg + 1 := wrap64 (by omega) (by omega)
  have s1 : gs1 e1 m = (0, { m with bg := cond e1 (m.bg + 1) m.bg }) := by
    unfold gs1 beginE beginM
    rw [d1, hw]; cases e1 <;> rfl
  have s2 : ∀ m' : Mk, m'.a = 1000 → m'.fl.length ≤ i → gs2 e2 eb (0, m') = (0, { m' with fl := cond e2 (m'.fl ++ [eb]) m'.fl }) := by
    intro m' h1 h2
    have d : decide (m'.a ≤ (m'.fl.length : Int)) = false := by simp; omega
    unfold gs2 addE addM
    dsimp only
    rw [d]; cases e2 <;> rfl
  have s3 : ∀ m' : Mk, m'.b = 1000 → m'.u = false → m'.rc.length ≤ 2 * i → gs3 e3 (0, m') = (0, onM e3 m') := by
    intro m' h1 h2 h3
    have d : decide (m'.b ≤ wide1 m') = false := by simp [wide1]; omega
    unfold gs3 nextE strict
    dsimp only
    rw [d, h2]; cases e3 <;> rfl
  have s4 : ∀ m' : Mk, m'.u = false → gs4 e4 (0, m') = (0, onM e4 m') := by
    intro m' h2
    unfold gs4 lineE strict
    dsimp only
    rw [h2]; cases e4 <;> rfl
  unfold gath
  rw [s1, s2 { m with bg := cond e1 (m.bg + 1) m.bg } ha hfl]
  show gs4 e4 (gs3 e3 (0, m2 e1 e2 eb m)) = _
  rw [s3 (m2 e1 e2 eb m) hb hu hrc, s4 (onM e3 (m2 e1 e2 eb m)) (by cases e3 <;> exact hu)]

/-- The document's maker beside it. -/
structure Twin (i : Nat) (m : Mk) (x : Rk) : Prop where
  w : Wide i m
  sp : m.sp = 0
  a : x.a = 1000
  b : x.b = 1000
  c : x.c = 1000
  u : x.u = 0
  wr : x.wr = 0
  fd : x.fd = toStr m.fl
  rc : x.rc = m.rc
  bg : x.bg = m.bg
  ct : x.ct = m.ct

def x2 (e1 e2 : Bool) (eb : Int) (x : Rk) : Rk := { x with bg := cond e1 (x.bg + 1) x.bg, fd := cond e2 (x.fd ++ toStr [eb]) x.fd }
def onR (e : Bool) (x : Rk) : Rk := cond e (putR x) x

theorem one_eq (b : Bool) : decide (oneI b = 1) = b := by cases b <;> rfl
theorem one_zero (b : Bool) : decide (oneI b = 0) = !b := by cases b <;> rfl
theorem ref_form {x : Rk} (ha : x.a = 1000) (hb : x.b = 1000) (hc : x.c = 1000) (hu : x.u = 0) (hwr : x.wr = 0) (hfd : x.fd.length ≤ 150) (hrc : x.rc.length ≤ 300) (h0 : 0 ≤ x.bg) (hbg : x.bg ≤ 150) (e1 e2 e3 e4 : Bool) (e5 eb : Int) (h1 : 0 ≤ eb) (h2 : eb ≤ 255) :
    q0 (oneI e1) (oneI e2) (oneI e3) (oneI e4) e5 (IntKind.i64.wrap eb) x = q5 e5 (onR e4 (onR e3 (x2 e1 e2 eb x))) := by
  have hw : IntKind.i64.wrap (x.bg + 1) = x.bg + 1 := wrap64 (by omega) (by omega)
  have hw2 : IntKind.u8.wrap (IntKind.i64.wrap eb) = eb := by
    rw [wrap64 h1 (by omega)]
    simp only [IntKind.wrap]; unfold IntKind.signed IntKind.bits; simp; omega
  have s4 : ∀ x' : Rk, q4 (oneI e4) e5 false x' = q5 e5 (onR e4 x') := by
    intro x'; unfold q4; rw [one_eq]; cases e4 <;> rfl
  have s3 : ∀ x' : Rk, x'.b = 1000 → x'.rc.length ≤ 300 → q3 (oneI e3) (oneI e4) e5 false x' = q5 e5 (onR e4 (onR e3 x')) := by
    intro x' h1 h2
    have d : decide (x'.b ≤ ((putR x').rc.length : Int)) = false := by simp [putR]; omega
    unfold q3; rw [one_eq, d]
    cases e3 <;> exact s4 _
  have s2 : ∀ x' : Rk, x'.a = 1000 → x'.b = 1000 → x'.u = 0 → x'.fd.length ≤ 150 → x'.rc.length ≤ 300 → q2 (oneI e2) (oneI e3) (oneI e4) e5 (IntKind.i64.wrap eb) x' = q5 e5 (onR e4 (onR e3 { x' with fd := cond e2 (x'.fd ++ toStr [eb]) x'.fd })) := by
    intro x' h1 h2 h3 h4 h5
    have d : decide ((x'.fd.length : Int) = x'.a) = false := by simp; omega
    have st : strictR x' = false := by unfold strictR; rw [h3]; rfl
    unfold q2; rw [one_eq, d, hw2, st]
    cases e2
    · exact s3 x' h2 h5
    · exact s3 { x' with fd := x'.fd ++ toStr [eb] } h2 h5
  have d0 : (!decide (x.wr = 0)) = false := by simp [hwr]
  have d1 : decide (x.bg = x.c) = false := by simp; omega
  unfold q0 q1
  rw [one_eq, d0, d1, hw]
  cases e1
  · exact s2 x ha hb hu hfd hrc
  · exact s2 { x with bg := x.bg + 1 } ha hb hu hfd hrc

theorem twin_put {m : Mk} {x : Rk} (e : Bool) (h1 : x.fd = toStr m.fl) (h2 : x.rc = m.rc) : (onR e x).fd = toStr (onM e m).fl ∧ (onR e x).rc = (onM e m).rc := by
  cases e
  · exact ⟨h1, h2⟩
  · simp only [onR, onM, cond_true, putR, putM]
    exact ⟨rfl, by rw [h1, h2]⟩

theorem twin_take {i : Nat} {m : Mk} {x : Rk} (h : Twin i m x) (hi : i < 150) (e : evK.α) (h1 : 0 ≤ e.2.2.2.2.2) (h2 : e.2.2.2.2.2 ≤ 255) : (takeE e m).2.1 = (rtakeE e x).2.1 ∧ (takeE e m).2.1.length ≤ 302 ∧ Twin (i + 1) (takeE e m).1 (rtakeE e x).1 := by
  obtain ⟨hw, hsp, ha, hb, hc, hu, hwr, hfd, hrc, hbg, hct⟩ := h
  have hW := wide_take hw hsp hi e
  obtain ⟨e1, e2, e3, e4, e5, eb⟩ := e
  dsimp only at h1 h2
  have hfdl : x.fd.length ≤ 150 := by rw [hfd]; have := hw.fl; simp [toStr]; omega
  have hrcl : x.rc.length ≤ 300 := by rw [hrc]; have := hw.rc; omega
  have hr : rtakeE (e1, e2, e3, e4, e5, eb) x = q5 (oneI e5) (onR e4 (onR e3 (x2 e1 e2 eb x))) :=
    ref_form ha hb hc hu hwr hfdl hrcl (by rw [hbg]; exact hw.bg0) (by rw [hbg]; have := hw.bg; omega) e1 e2 e3 e4 _ eb h1 h2
  have hf := wide_form hw hi e1 e2 e3 e4 eb
  have hm : takeE (e1, e2, e3, e4, e5, eb) m = takeT e5 { onM e4 (onM e3 (m2 e1 e2 eb m)) with sp := 0 } := by
    unfold takeE takeP
    dsimp only
    rw [hf, hsp]; rfl
  have t2 : (x2 e1 e2 eb x).fd = toStr (m2 e1 e2 eb m).fl ∧ (x2 e1 e2 eb x).rc = (m2 e1 e2 eb m).rc := by
    refine ⟨?_, hrc⟩
    simp only [x2, m2, hfd]
    cases e2 <;> simp [toStr]
  obtain ⟨t3, t3'⟩ := twin_put e3 t2.1 t2.2
  obtain ⟨t4, t4'⟩ := twin_put e4 t3 t3'
  have keepR : ∀ (e : Bool) (y : Rk), (onR e y).a = y.a ∧ (onR e y).b = y.b ∧ (onR e y).c = y.c ∧ (onR e y).u = y.u ∧ (onR e y).wr = y.wr ∧ (onR e y).bg = y.bg ∧ (onR e y).ct = y.ct := by
    intro e y; cases e <;> exact ⟨rfl, rfl, rfl, rfl, rfl, rfl, rfl⟩
  have keepM : ∀ (e : Bool) (y : Mk), (onM e y).bg = y.bg ∧ (onM e y).ct = y.ct := by
    intro e y; cases e <;> exact ⟨rfl, rfl⟩
  have lenM : (onM e4 (onM e3 (m2 e1 e2 eb m))).rc.length ≤ 302 := by
    have := hw.rc
    cases e3 <;> cases e4 <;> simp [onM, putM, m2] <;> omega
  have k3 := keepR e3 (x2 e1 e2 eb x)
  have k4 := keepR e4 (onR e3 (x2 e1 e2 eb x))
  have n3 := keepM e3 (m2 e1 e2 eb m)
  have n4 := keepM e4 (onM e3 (m2 e1 e2 eb m))
  have bgs : (onR e4 (onR e3 (x2 e1 e2 eb x))).bg = (onM e4 (onM e3 (m2 e1 e2 eb m))).bg := by
    rw [k4.2.2.2.2.2.1, k3.2.2.2.2.2.1, n4.1, n3.1]; simp only [x2, m2, hbg]
  have cts : (onR e4 (onR e3 (x2 e1 e2 eb x))).ct = (onM e4 (onM e3 (m2 e1 e2 eb m))).ct := by
    rw [k4.2.2.2.2.2.2, k3.2.2.2.2.2.2, n4.2, n3.2]; simp only [x2, m2, hct]
  have ra : (onR e4 (onR e3 (x2 e1 e2 eb x))).a = 1000 := by rw [k4.1, k3.1]; exact ha
  have rb : (onR e4 (onR e3 (x2 e1 e2 eb x))).b = 1000 := by rw [k4.2.1, k3.2.1]; exact hb
  have rcc : (onR e4 (onR e3 (x2 e1 e2 eb x))).c = 1000 := by rw [k4.2.2.1, k3.2.2.1]; exact hc
  have ru : (onR e4 (onR e3 (x2 e1 e2 eb x))).u = 0 := by rw [k4.2.2.2.1, k3.2.2.2.1]; exact hu
  have rw' : (onR e4 (onR e3 (x2 e1 e2 eb x))).wr = 0 := by rw [k4.2.2.2.2.1, k3.2.2.2.2.1]; exact hwr
  rw [hm] at hW ⊢
  rw [hr]
  generalize onR e4 (onR e3 (x2 e1 e2 eb x)) = y at *
  generalize onM e4 (onM e3 (m2 e1 e2 eb m)) = z at *
  have hq : q5 (oneI e5) y = cond (!e5) (y, [], 0) ({ y with rc := [], fs := cond (decide (y.ct = 0)) y.rc.length y.fs, ct := IntKind.i64.wrap (y.ct + 1) }, y.rc, 1) := by
    unfold q5; rw [one_zero]
  rw [hq]
  cases e5
  · exact ⟨rfl, by simp [takeT], hW.2.2, rfl, ra, rb, rcc, ru, rw', t4, t4', bgs, cts⟩
  · exact ⟨t4'.symm, by simpa [takeT] using lenM, hW.2.2, rfl, ra, rb, rcc, ru, rw', t4, rfl, bgs, by simp [takeT, cts]⟩
end Go.Proofs.Ytmdgkchphmncpaa
