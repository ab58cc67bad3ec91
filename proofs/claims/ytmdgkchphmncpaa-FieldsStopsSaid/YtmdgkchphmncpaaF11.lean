/- FieldsStops: behind an error nothing changes any more: the law returns true whatever it is handed, and what it was handed reads as it did. Conditions: none. -/
import Derived.Test.YtmdgkchphmncpaaRows
import Derived.WalkKit
import Derived.ProofKit
import Derived.OpenShut
import Derived.Test.YtmdgkchphmncpaaF10
namespace Go.Proofs.Ytmdgkchphmncpaa
open Go Go.Abs
set_option maxRecDepth 100000
def yes : Option (AV × Store) := some (.bool true, [])
def no : Option (AV × Store) := some (.bool false, [])
def bo (b : Bool) : Option (AV × Store) := some (.bool b, [])

def stop5 (more : List evK.α) (m : Mk) : Option (AV × Store) :=
  cond (decide (m.sp = 0)) yes (cond (decide (m.rc.length ≤ LIM))
    (cond (decide (more.length ≤ 150) && decide ((more.length : Int) = more.length) && room m && decide (m.sp = m.sp) && !decide (m.sp = 0))
      (cond (decide (m.rc.length ≤ LIM)) (cond (decide (m.rc.length ≤ LIM))
        (cond (decide (m.rc = m.rc)) (cond (decide (toStr m.fl = toStr m.fl)) (cond (decide (m.ct = m.ct)) (cond (decide (m.bg = m.bg)) yes no) no) no) no) none) none) none) none)
theorem stops_ev (a b c : Int) (u : Bool) (xs more : List evK.α) : (evFn (ctx Try.prog G0 l8) L5 Try.f5 [.agg [.int .i64 a, .int .i64 b, .int .i64 c, .bool u], .seq evK xs, .seq evK more] []).get =
  cond (fitsL a b c)
   (cond (decide (150 < (xs.length : Int))) yes
    (cond (decide (150 < (more.length : Int))) yes
      (cond (decide (xs.length ≤ 150) && decide ((xs.length : Int) = xs.length)) (stop5 more (afterM (newM a b c u) xs)) none)))
   (cond (decide (150 < (xs.length : Int))) yes (cond (decide (150 < (more.length : Int))) yes yes)) := by kernel_rfl
theorem stops_true (a b c : Int) (u : Bool) (xs more : List evK.α) : (evFn (ctx Try.prog G0 l8) L5 Try.f5 [.agg [.int .i64 a, .int .i64 b, .int .i64 c, .bool u], .seq evK xs, .seq evK more] []).get = some (.bool true, []) := by
  rw [stops_ev]
  by_cases h1 : xs.length ≤ 150
  · by_cases h2 : more.length ≤ 150
    · rw [decide_eq_false (by omega : ¬ (150 : Int) < xs.length), decide_eq_false (by omega : ¬ (150 : Int) < more.length)]
      cases fitsL a b c
      · rfl
      · have hr := (loop5 more xs (newM a b c u) h1 rfl rfl).1
        generalize afterM (newM a b c u) xs = m at hr
        have hl : m.rc.length ≤ LIM := by
          simp only [room, Bool.and_eq_true, decide_eq_true_eq] at hr; omega
        unfold stop5
        rw [hr, decide_eq_true hl, decide_eq_true h1, decide_eq_true h2]
        by_cases hs : m.sp = 0
        · simp [hs, yes]
        · simp [hs, yes]
    · rw [decide_eq_true (by omega : (150 : Int) < more.length)]
      cases fitsL a b c <;> cases decide ((150 : Int) < xs.length) <;> rfl
  · rw [decide_eq_true (by omega : (150 : Int) < xs.length)]
    cases fitsL a b c <;> rfl
end Go.Proofs.Ytmdgkchphmncpaa
namespace Go.Proofs.Ytmdgkchphmncpaa.fieldsStops
open Go.ChangeShapes Go.WideShapes Go.ChangeAt Go.RowKit Go.Abs
set_option maxRecDepth 100000

theorem own : ownKnob Try.prog.godebug = none := by kernel_rfl
theorem laid : laidOutB Try.prog = true := by kernel_rfl
theorem maps : mapsRowed Try.prog = true := by kernel_rfl
theorem elems : elemsB Try.prog = true := by kernel_rfl
theorem u22 : Try.prog.underlying 22 = some (.slice 38) := by kernel_rfl
abbrev limK : EK := .pair (.int .i64) (.pair (.int .i64) (.pair (.int .i64) .bool))

theorem contract (H : Type) (enc : TypeId × Value → H) (W : World) (base : Nat) (args : Array Value) (ds gs : List (DataW H)) (before : List MemPlace)
    (hval : ∀ (j : Nat) t v, Try.f5.params[j]? = some t → args[j]? = some v → Value.okWide Try.prog W .any base t v)
    (hW : DataW.Whole enc Try.prog Try.f5.params.toList Rows.fieldsStopsSpec.vars false W args.toList ds gs before) :
    Calls Try.prog 5 args W fun e W' => ∃ v, e = .returned v ∧ Rows.fieldsStopsSpec.post enc Try.prog Try.f5 false true false false W args v W' := by
  have hW' := hW
  obtain ⟨p, q, hA0, hV, rfl, hfz, hnd⟩ := hW
  have hA : DataW.TrodAll enc Try.prog W 0 (fun _ => true) true Try.f5.params.toList args.toList ds p := hA0
  rw [Try.params5] at hA hval
  obtain ⟨v0, vs0, d0, ds0, p0, q0, hargs, rfl, rfl, h0, r0⟩ := trodAll_cons hA
  obtain ⟨v1, vs1, d1, ds1, p1, q1, rfl, rfl, rfl, h1, r1⟩ := trodAll_cons r0
  obtain ⟨v2, vs2, d2, ds2, p2, q2, rfl, rfl, rfl, h2, r2⟩ := trodAll_cons r1
  obtain ⟨rfl, rfl, rfl⟩ := trodAll_nil r2
  obtain rfl : args = #[v0, v1, v2] := by cases args; simp_all
  obtain ⟨rfl, rfl⟩ := trodVars_none hV
  clear hA0
  obtain ⟨y0, k0, -, -⟩ := open_agg (N := noN) (k := limK) (ss_none (N := noN)) (n := 4) (t := 24) (by kernel_rfl) Try.underlying24 (hval 0 24 v0 rfl rfl) h0
  obtain ⟨y1, hy1, -, -⟩ := open_one (N := noN) (k := .seq evK) (ss_none (N := noN)) (n := 4) (t := 22) (by kernel_rfl) (fun fs h => by rw [u22] at h; cases h) (hval 1 22 v1 rfl rfl) h1
  obtain ⟨y2, hy2, -, -⟩ := open_one (N := noN) (k := .seq evK) (ss_none (N := noN)) (n := 4) (t := 22) (by kernel_rfl) (fun fs h => by rw [u22] at h; cases h) (hval 2 22 v2 rfl rfl) h2
  have k1 : Rel W (SS noF noN []) noN (.seq evK y1) v1 := hy1 _ rfl
  have k2 : Rel W (SS noF noN []) noN (.seq evK y2) v2 := hy2 _ rfl
  refine (law_calls (ctx_ok ok8) hm Try.func5 hc5 (loops_two (by kernel_rfl) hb5 hb5b spec5_ok spec5b_ok) (stops_true y0.1 y0.2.1 y0.2.2.1 y0.2.2.2 y1 y2) #[v0, v1, v2] (fun g cs h => by cases h) ⟨rfl, fun j a v ha hv => ?_⟩).mono fun e W' ⟨he, ev⟩ => ⟨_, he, ?_⟩
  · match j with
    | 0 => cases ha; cases hv; exact k0
    | 1 => cases ha; cases hv; exact k1
    | 2 => cases ha; cases hv; exact k2
    | j + 3 => simp at ha
  · exact law_post (kids_rows laid maps) elems (by rw [Try.params5]; decide +kernel) rfl (by kernel_rfl) rfl hW' rfl ev

theorem lifted (os : Os) (started : os.Started) (H : Type) (enc : TypeId × Value → H) :
    ReturnsInHanded {} Try.checked os 5 .any (Rows.fieldsStopsSpec.pre6 enc Try.prog Try.f5 Rows.fieldsStopsRow.domain false) (Rows.fieldsStopsSpec.post enc Try.prog Try.f5 false true false false) := by
  refine returnsInHanded_of_change (C := Try.checked) own started (by kernel_rfl) Try.func5
    (ChangeSpec.witness6 (enc := enc) (C := Try.checked) false ⟨#[], #[.agg #[.int .i64 0, .int .i64 0, .int .i64 0, .bool false], .slice none 0 0, .slice none 0 0], []⟩ 8 (by kernel_rfl) (by kernel_rfl) (by kernel_rfl) (by kernel_rfl)) ?_
  intro W base args ds gs before hval hW hcnd _
  exact contract H enc W base args ds gs before hval hW

theorem over : Rows.fieldsStopsRow.holds Try.pinned (OpenSpec.ofChange Rows.fieldsStopsSpec) :=
  OpenClaim.holds_of_wide 5 Try.f5 rfl rfl rfl rfl rfl rfl rfl ⟨rfl, rfl, rfl, rfl, rfl⟩ rfl rfl rfl rfl rfl (by kernel_rfl) Try.func5 (by kernel_rfl)
    (of_decide_eq_true (by kernel_rfl)) (by unfold Func.isWrapper; first | (rw [if_pos (by decide +kernel)]; kernel_rfl) | (rw [if_neg (by decide +kernel)]; exact ⟨rfl, rfl⟩))
    (fun os started H enc _ => lifted os started H enc)

/-- The statement. -/
theorem proved : Rows.FieldsStopsSaid :=
  over
#print axioms proved
end Go.Proofs.Ytmdgkchphmncpaa.fieldsStops
