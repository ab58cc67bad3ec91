/- FieldsWide: whatever the events, the law returns true, and what it was handed reads as it did. Conditions: none. -/
import Derived.Test.YtmdgkchphmncpaaRows
import Derived.WalkKit
import Derived.ProofKit
import Derived.OpenShut
import Derived.Test.YtmdgkchphmncpaaF07
namespace Go.Proofs.Ytmdgkchphmncpaa.fieldsWide
open Go.ChangeShapes Go.WideShapes Go.ChangeAt Go.RowKit Go.Abs
set_option maxRecDepth 100000

theorem own : ownKnob Try.prog.godebug = none := by kernel_rfl
theorem laid : laidOutB Try.prog = true := by kernel_rfl
theorem maps : mapsRowed Try.prog = true := by kernel_rfl
theorem elems : elemsB Try.prog = true := by kernel_rfl
theorem u22 : Try.prog.underlying 22 = some (.slice 38) := by kernel_rfl

theorem contract (H : Type) (enc : TypeId × Value → H) (W : World) (base : Nat) (args : Array Value) (ds gs : List (DataW H)) (before : List MemPlace)
    (hval : ∀ (j : Nat) t v, Try.f4.params[j]? = some t → args[j]? = some v → Value.okWide Try.prog W .any base t v)
    (hW : DataW.Whole enc Try.prog Try.f4.params.toList Rows.fieldsWideSpec.vars false W args.toList ds gs before) :
    Calls Try.prog 4 args W fun e W' => ∃ v, e = .returned v ∧ Rows.fieldsWideSpec.post enc Try.prog Try.f4 false true false false W args v W' := by
  have hW' := hW
  obtain ⟨p, q, hA0, hV, rfl, hfz, hnd⟩ := hW
  have hA : DataW.TrodAll enc Try.prog W 0 (fun _ => true) true Try.f4.params.toList args.toList ds p := hA0
  rw [Try.params4] at hA hval
  obtain ⟨v0, vs0, d0, ds0, p0, q0, hargs, rfl, rfl, h0, r0⟩ := trodAll_cons hA
  obtain ⟨rfl, rfl, rfl⟩ := trodAll_nil r0
  obtain rfl : args = #[v0] := by cases args; simp_all
  obtain ⟨rfl, rfl⟩ := trodVars_none hV
  clear hA0
  obtain ⟨y, hy, -, -⟩ := open_one (N := noN) (k := .seq evK) (ss_none (N := noN)) (n := 4) (t := 22) (by kernel_rfl) (fun fs h => by rw [u22] at h; cases h) (hval 0 22 v0 rfl rfl) h0
  have hr : Rel W (SS noF noN []) noN (.seq evK y) v0 := hy _ rfl
  refine (law_calls (ctx_ok ok7) hm Try.func4 hc4 (loops_one (by kernel_rfl) hb4 spec4_ok) (wide_true y) #[v0] (fun g cs h => by cases h) ⟨rfl, fun j a v ha hv => ?_⟩).mono fun e W' ⟨he, ev⟩ => ⟨_, he, ?_⟩
  · cases j with
    | zero => cases ha; cases hv; exact hr
    | succ j => simp at ha
  · exact law_post (kids_rows laid maps) elems (by rw [Try.params4]; decide +kernel) rfl (by kernel_rfl) rfl hW' rfl ev

theorem lifted (os : Os) (started : os.Started) (H : Type) (enc : TypeId × Value → H) :
    ReturnsInHanded {} Try.checked os 4 .any (Rows.fieldsWideSpec.pre6 enc Try.prog Try.f4 Rows.fieldsWideRow.domain false) (Rows.fieldsWideSpec.post enc Try.prog Try.f4 false true false false) := by
  refine returnsInHanded_of_change (C := Try.checked) own started (by kernel_rfl) Try.func4
    (ChangeSpec.witness6 (enc := enc) (C := Try.checked) false ⟨#[], #[.slice none 0 0], []⟩ 8 (by kernel_rfl) (by kernel_rfl) (by kernel_rfl) (by kernel_rfl)) ?_
  intro W base args ds gs before hval hW hcnd _
  exact contract H enc W base args ds gs before hval hW

theorem over : Rows.fieldsWideRow.holds Try.pinned (OpenSpec.ofChange Rows.fieldsWideSpec) :=
  OpenClaim.holds_of_wide 4 Try.f4 rfl rfl rfl rfl rfl rfl rfl ⟨rfl, rfl, rfl, rfl, rfl⟩ rfl rfl rfl rfl rfl (by kernel_rfl) Try.func4 (by kernel_rfl)
    (of_decide_eq_true (by kernel_rfl)) (by unfold Func.isWrapper; first | (rw [if_pos (by decide +kernel)]; kernel_rfl) | (rw [if_neg (by decide +kernel)]; exact ⟨rfl, rfl⟩))
    (fun os started H enc _ => lifted os started H enc)

/-- The statement. -/
theorem proved : Rows.FieldsWideSaid :=
  over
#print axioms proved
end Go.Proofs.Ytmdgkchphmncpaa.fieldsWide
