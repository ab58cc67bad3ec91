/- NumSums: whatever it is handed, the law returns true, and what it was handed reads as it did (the card). Conditions: the package-level variables that the row lists start as the program's text lays them. -/
import Derived.Test.YtpiphiieflnabaaDoorD19
import Derived.Test.YtpiphiieflnabaaDoorD24
namespace Go.Proofs.YtpiphiieflnabaaDoor.numSums
open Go Go.ChangeShapes Go.WideShapes Go.ChangeAt Go.RowKit Go.Abs
set_option maxRecDepth 100000

theorem contract (H : Type) (enc : TypeId × Value → H) (W : World) (base : Nat) (args : Array Value) (ds gs : List (DataW H)) (before : List MemPlace)
    (hval : ∀ (j : Nat) t v, Tryd.f6.params[j]? = some t → args[j]? = some v → Value.okWide Tryd.prog W .any base t v)
    (hW : DataW.Whole enc Tryd.prog Tryd.f6.params.toList Rows.numSumsSpec.vars false W args.toList ds gs before) (hL : laidMet Tryd.prog laid5 W) :
    Calls Tryd.prog 6 args W fun e W' => ∃ v, e = .returned v ∧ Rows.numSumsSpec.post enc Tryd.prog Tryd.f6 false true false false W args v W' := by
  have hW' := hW
  obtain ⟨p, q, hA0, hV, rfl, hfz, hnd⟩ := hW
  have hA : DataW.TrodAll enc Tryd.prog W 0 (fun _ => true) true Tryd.f6.params.toList args.toList ds p := hA0
  rw [Tryd.params6] at hA hval
  obtain ⟨v0, vs0, d0, ds0, p0, q0, hargs, rfl, rfl, h0, r0⟩ := trodAll_cons hA
  obtain ⟨rfl, rfl, rfl⟩ := trodAll_nil r0
  obtain rfl : args = #[v0] := by cases args; simp_all
  obtain ⟨rfl, rfl⟩ := trodVars_none hV
  clear hA0
  obtain ⟨x0, hx0, g0, -⟩ := open_one (N := noN) (k := .seq (.int .i64)) (ss_none (N := noN)) (n := 4) (t := 43) (by kernel_rfl) (fun fs h => by rw [Tryd.underlying43] at h; cases h) (hval 0 43 v0 rfl rfl) h0
  have e0 : Rel W (SS noF noN []) noN (.seq (.int .i64) x0) v0 := hx0 _ rfl
  obtain ⟨w, hw, hG⟩ := tab5 hL
  have hev : EvOK (E1 w none) := fun v hv => by cases hv; exact .inr hw
  refine (law_calls (ctx_ok (okn5 hev)) hm Tryd.func6 (c := Tryd.f6.body.getD .skip) (hcN) (sums_loops hev) (sums_true x0 (wfAll g0)) #[v0] hG ⟨rfl, fun j a v ha hv => ?_⟩).mono fun e W' ⟨he, ev⟩ => ⟨_, he, ?_⟩
  · match j with
    | 0 => cases ha; cases hv; exact e0
    | j + 1 => simp at ha
  · exact law_post (kids_rows laidB maps) elems (by rw [Tryd.params6]; decide +kernel) rfl (by kernel_rfl) rfl hW' rfl ev

def args0 : Array Value := #[.slice none 0 0]
theorem laid_met (os : Os) : laidMet Tryd.prog Rows.numSumsRow.laid ((laidWorld os).forCall (fun _ _ => 0) ⟨#[], args0, []⟩).memory :=
  laidMet_of_run3 8 (by kernel_rfl) (by kernel_rfl) (by kernel_rfl)
def data0 {H : Type} : List (DataW H) := [.nil]
theorem reads (os : Os) {H : Type} (enc : TypeId × Value → H) : ∃ places, DataW.whole enc Tryd.prog ((laidWorld os).forCall (fun _ _ => 0) ⟨#[], args0, []⟩).memory Tryd.f6.params.toList Rows.numSumsSpec.vars false args0.toList 8 =
    some (data0, [], places) := by
  have hw : (DataW.whole enc Tryd.prog ((laidWorld os).forCall (fun _ _ => 0) ⟨#[], args0, []⟩).memory Tryd.f6.params.toList Rows.numSumsSpec.vars false args0.toList 8).map (fun x => (x.1, x.2.1)) =
      some (data0, []) := by kernel_rfl
  obtain ⟨⟨x1, x2, x3⟩, hx, hx1⟩ := Option.map_eq_some_iff.1 hw
  simp only [Prod.mk.injEq] at hx1
  obtain ⟨rfl, rfl⟩ := hx1
  exact ⟨x3, hx⟩

theorem lifted (os : Os) (started : os.Started) (H : Type) (enc : TypeId × Value → H) (F : Stop.Interp) :
    ReturnsInHanded {} Tryd.checked os 6 .any ((OpenSpec.ofChange Rows.numSumsSpec).preRow enc Tryd.prog Tryd.f6 Rows.numSumsRow.domain false Rows.numSumsRow.laid) (((OpenSpec.ofChange Rows.numSumsSpec).at F).post enc Tryd.prog Tryd.f6 false true false false) := by
  obtain ⟨places, hx⟩ := reads os enc
  refine returnsInHanded_of_row (C := Tryd.checked) (s := OpenSpec.ofChange Rows.numSumsSpec) own started (by kernel_rfl) Tryd.func6
    (witness_row_atRef (enc := enc) (C := Tryd.checked) false (laidWorld os) args0 rfl (by kernel_rfl) (by kernel_rfl) (by kernel_rfl)
      (OpenSpec.preRow_of_cond 8 hx (by kernel_rfl) (fun k hk => by cases hk) (by kernel_rfl) (laid_met os))) ?_
  intro W base args ds gs before hval hW _ _ _ hL _ _
  exact contract H enc W base args ds gs before hval hW hL

theorem said : Rows.NumSumsSaid :=
  OpenClaim.holds_of_cond 6 Tryd.f6 rfl rfl rfl rfl rfl rfl rfl ⟨rfl, rfl, rfl, rfl, rfl⟩ rfl rfl rfl rfl rfl (by kernel_rfl) Tryd.func6 (by kernel_rfl)
    (of_decide_eq_true (by kernel_rfl)) (by unfold Func.isWrapper; first | (rw [if_pos (by decide +kernel)]; kernel_rfl) | (rw [if_neg (by decide +kernel)]; exact ⟨rfl, rfl⟩))
    (fun os started H enc _ F => by rw [OpenClaim.pre_eq_preRow]; exact lifted os started H enc F)

theorem plain (f : FuncId) (fn : Func) (hf : Tryd.pinned.checked.prog.funcNamed "quillpen/quillpenlaw16.NumSums" = some f) (hfn : Tryd.pinned.checked.prog.funcs[f]? = some fn) :
    true = Tryd.pinned.checked.prog.looks [] ∧ ∀ (j : Nat) t, fn.params[j]? = some t → Tryd.pinned.checked.prog.wantsStandIn t = false := by
  obtain rfl : f = 6 := Option.some.inj ((show Tryd.prog.funcNamed "quillpen/quillpenlaw16.NumSums" = some 6 by kernel_rfl).symm.trans hf) |>.symm
  obtain rfl : fn = Tryd.f6 := (Option.some.inj (Tryd.func6.symm.trans hfn)).symm
  refine ⟨by kernel_rfl, fun j t ht => ?_⟩
  rw [Tryd.params6] at ht
  have : t ∈ [43] := by simpa using Array.mem_of_getElem? ht
  have hall : ([43] : List Nat).all (fun t => !Tryd.prog.wantsStandIn t) = true := by kernel_rfl
  show Tryd.prog.wantsStandIn t = false
  simpa using List.all_eq_true.1 hall t this

/-- The card. -/
theorem card : Rows.NumSumsCardSaid :=
  Claim7.holds_tied_plain_at .later [] _ _ _ _ said (fun _ h => by cases h) (by kernel_rfl) (fun _ h => by cases h) numSums_row_tie rfl ⟨rfl, rfl⟩ (by kernel_rfl) rfl plain (by kernel_rfl)
#print axioms card
end Go.Proofs.YtpiphiieflnabaaDoor.numSums
