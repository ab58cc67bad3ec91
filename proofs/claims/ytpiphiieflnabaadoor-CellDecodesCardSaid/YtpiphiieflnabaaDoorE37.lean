/- CellDecodes: whatever it is handed, the law returns true, and what it was handed reads as it did (the card). Conditions: the package-level variables that the row lists start as the program's text lays them. -/
import Derived.Test.YtpiphiieflnabaaDoorD19
import Derived.Test.YtpiphiieflnabaaDoorE32
namespace Go.Proofs.YtpiphiieflnabaaDoor.cellDecodes
open Go Go.ChangeShapes Go.WideShapes Go.ChangeAt Go.RowKit Go.Abs
set_option maxRecDepth 100000

theorem contract (H : Type) (enc : TypeId × Value → H) (W : World) (base : Nat) (args : Array Value) (ds gs : List (DataW H)) (before : List MemPlace)
    (hval : ∀ (j : Nat) t v, Tryd.f12.params[j]? = some t → args[j]? = some v → Value.okWide Tryd.prog W .any base t v)
    (hW : DataW.Whole enc Tryd.prog Tryd.f12.params.toList Rows.cellDecodesSpec.vars false W args.toList ds gs before) (hL : laidMet Tryd.prog laid6 W) :
    Calls Tryd.prog 12 args W fun e W' => ∃ v, e = .returned v ∧ Rows.cellDecodesSpec.post enc Tryd.prog Tryd.f12 false true false false W args v W' := by
  have hW' := hW
  obtain ⟨p, q, hA0, hV, rfl, hfz, hnd⟩ := hW
  have hA : DataW.TrodAll enc Tryd.prog W 0 (fun _ => true) true Tryd.f12.params.toList args.toList ds p := hA0
  rw [Tryd.params12] at hA hval
  obtain ⟨v0, vs0, d0, ds0, p0, q0, hargs, rfl, rfl, h0, r0⟩ := trodAll_cons hA
  obtain ⟨v1, vs1, d1, ds1, p1, q1, rfl, rfl, rfl, h1, r1⟩ := trodAll_cons r0
  obtain ⟨rfl, rfl, rfl⟩ := trodAll_nil r1
  obtain rfl : args = #[v0, v1] := by cases args; simp_all
  obtain ⟨rfl, rfl⟩ := trodVars_none hV
  clear hA0
  obtain ⟨x0, hx0, g0, -⟩ := open_one (N := noN) (k := .str) (ss_none (N := noN)) (n := 4) (t := 9) (by kernel_rfl) (fun fs h => by rw [Tryd.underlying9] at h; cases h) (hval 0 9 v0 rfl rfl) h0
  have e0 : Rel W (SS noF noN []) noN (.str x0) v0 := hx0 _ rfl
  obtain ⟨⟨s1x, k1x, b1x⟩, e1, g1, -⟩ := open_agg (N := noN) (k := .pair .str (.pair (.int .i64) .bool)) (ss_none (N := noN)) (n := 4) (t := 25) (by kernel_rfl) Tryd.underlying25 (hval 1 25 v1 rfl rfl) h1
  obtain ⟨w, hw, hG⟩ := tab6 hL
  have hev : EvOK (E1 w (some utfT)) := fun v hv => by cases hv; exact .inr hw
  refine (law_calls (ctx_ok (okm7 (e := some w) hev)) hm Tryd.func12 (c := Tryd.f12.body.getD .skip) (by kernel_rfl) (noL_ok) (decodes_true (v := w) x0 s1x k1x b1x) #[v0, v1] hG ⟨rfl, fun j a v ha hv => ?_⟩).mono fun e W' ⟨he, ev⟩ => ⟨_, he, ?_⟩
  · match j with
    | 0 => cases ha; cases hv; exact e0
    | 1 => cases ha; cases hv; exact e1
    | j + 2 => simp at ha
  · exact law_post (kids_rows laidB maps) elems (by rw [Tryd.params12]; decide +kernel) rfl (by kernel_rfl) rfl hW' rfl ev

def args0 : Array Value := #[.string ⟨#[]⟩, .agg #[.string ⟨#[]⟩, .int .i64 0, .bool false]]
theorem laid_met (os : Os) : laidMet Tryd.prog Rows.cellDecodesRow.laid ((laidWorld os).forCall (fun _ _ => 0) ⟨#[], args0, []⟩).memory :=
  laidMet_of_run3 8 (by kernel_rfl) (by kernel_rfl) (by kernel_rfl)
def data0 {H : Type} : List (DataW H) := [.lit (.string []), .agg [.lit (.string []), .lit (.int .i64 0), .lit (.bool false)]]
theorem reads (os : Os) {H : Type} (enc : TypeId × Value → H) : ∃ places, DataW.whole enc Tryd.prog ((laidWorld os).forCall (fun _ _ => 0) ⟨#[], args0, []⟩).memory Tryd.f12.params.toList Rows.cellDecodesSpec.vars false args0.toList 8 =
    some (data0, [], places) := by
  have hw : (DataW.whole enc Tryd.prog ((laidWorld os).forCall (fun _ _ => 0) ⟨#[], args0, []⟩).memory Tryd.f12.params.toList Rows.cellDecodesSpec.vars false args0.toList 8).map (fun x => (x.1, x.2.1)) =
      some (data0, []) := by kernel_rfl
  obtain ⟨⟨x1, x2, x3⟩, hx, hx1⟩ := Option.map_eq_some_iff.1 hw
  simp only [Prod.mk.injEq] at hx1
  obtain ⟨rfl, rfl⟩ := hx1
  exact ⟨x3, hx⟩

theorem lifted (os : Os) (started : os.Started) (H : Type) (enc : TypeId × Value → H) (F : Stop.Interp) :
    ReturnsInHanded {} Tryd.checked os 12 .any ((OpenSpec.ofChange Rows.cellDecodesSpec).preRow enc Tryd.prog Tryd.f12 Rows.cellDecodesRow.domain false Rows.cellDecodesRow.laid) (((OpenSpec.ofChange Rows.cellDecodesSpec).at F).post enc Tryd.prog Tryd.f12 false true false false) := by
  obtain ⟨places, hx⟩ := reads os enc
  refine returnsInHanded_of_row (C := Tryd.checked) (s := OpenSpec.ofChange Rows.cellDecodesSpec) own started (by kernel_rfl) Tryd.func12
    (witness_row_atRef (enc := enc) (C := Tryd.checked) false (laidWorld os) args0 rfl (by kernel_rfl) (by kernel_rfl) (by kernel_rfl)
      (OpenSpec.preRow_of_cond 8 hx (by kernel_rfl) (fun k hk => by cases hk) (by kernel_rfl) (laid_met os))) ?_
  intro W base args ds gs before hval hW _ _ _ hL _ _
  exact contract H enc W base args ds gs before hval hW hL

theorem said : Rows.CellDecodesSaid :=
  OpenClaim.holds_of_cond 12 Tryd.f12 rfl rfl rfl rfl rfl rfl rfl ⟨rfl, rfl, rfl, rfl, rfl⟩ rfl rfl rfl rfl rfl (by kernel_rfl) Tryd.func12 (by kernel_rfl)
    (of_decide_eq_true (by kernel_rfl)) (by unfold Func.isWrapper; first | (rw [if_pos (by decide +kernel)]; kernel_rfl) | (rw [if_neg (by decide +kernel)]; exact ⟨rfl, rfl⟩))
    (fun os started H enc _ F => by rw [OpenClaim.pre_eq_preRow]; exact lifted os started H enc F)

theorem plain (f : FuncId) (fn : Func) (hf : Tryd.pinned.checked.prog.funcNamed "quillpen/quillpenlaw17.CellDecodes" = some f) (hfn : Tryd.pinned.checked.prog.funcs[f]? = some fn) :
    true = Tryd.pinned.checked.prog.looks [] ∧ ∀ (j : Nat) t, fn.params[j]? = some t → Tryd.pinned.checked.prog.wantsStandIn t = false := by
  obtain rfl : f = 12 := Option.some.inj ((show Tryd.prog.funcNamed "quillpen/quillpenlaw17.CellDecodes" = some 12 by kernel_rfl).symm.trans hf) |>.symm
  obtain rfl : fn = Tryd.f12 := (Option.some.inj (Tryd.func12.symm.trans hfn)).symm
  refine ⟨by kernel_rfl, fun j t ht => ?_⟩
  rw [Tryd.params12] at ht
  have : t ∈ [9, 25] := by simpa using Array.mem_of_getElem? ht
  have hall : ([9, 25] : List Nat).all (fun t => !Tryd.prog.wantsStandIn t) = true := by kernel_rfl
  show Tryd.prog.wantsStandIn t = false
  simpa using List.all_eq_true.1 hall t this

/-- The card. -/
theorem card : Rows.CellDecodesCardSaid :=
  Claim7.holds_tied_plain_at .later [] _ _ _ _ said (fun _ h => by cases h) (by kernel_rfl) (fun _ h => by cases h) cellDecodes_row_tie rfl ⟨rfl, rfl⟩ (by kernel_rfl) rfl plain (by kernel_rfl)
#print axioms card
end Go.Proofs.YtpiphiieflnabaaDoor.cellDecodes
