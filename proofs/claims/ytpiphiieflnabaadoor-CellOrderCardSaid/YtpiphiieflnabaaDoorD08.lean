/- CellOrder: whatever three values: the law returns true, and what it was handed reads as it did (the card). Conditions: the package-level tables start as the program's text lays them. -/
import Derived.Test.YtpiphiieflnabaaDoorD06
import Derived.Test.YtpiphiieflnabaaDoorD07
namespace Go.Proofs.YtpiphiieflnabaaDoor.cellOrder
open Go Go.ChangeShapes Go.WideShapes Go.ChangeAt Go.RowKit Go.Abs
set_option maxRecDepth 100000
abbrev valK : EK := .pair (.int .i64) (.pair .str (.pair (.int .i64) .bool))

theorem contract (H : Type) (enc : TypeId × Value → H) (W : World) (base : Nat) (args : Array Value) (ds gs : List (DataW H)) (before : List MemPlace)
    (hval : ∀ (j : Nat) t v, Tryd.f5.params[j]? = some t → args[j]? = some v → Value.okWide Tryd.prog W .any base t v)
    (hW : DataW.Whole enc Tryd.prog Tryd.f5.params.toList Rows.cellOrderSpec.vars false W args.toList ds gs before) (hL : laidMet Tryd.prog laid4 W) :
    Calls Tryd.prog 5 args W fun e W' => ∃ v, e = .returned v ∧ Rows.cellOrderSpec.post enc Tryd.prog Tryd.f5 false true false false W args v W' := by
  have hW' := hW
  obtain ⟨p, q, hA0, hV, rfl, hfz, hnd⟩ := hW
  have hA : DataW.TrodAll enc Tryd.prog W 0 (fun _ => true) true Tryd.f5.params.toList args.toList ds p := hA0
  rw [Tryd.params5] at hA hval
  obtain ⟨v0, vs0, d0, ds0, p0, q0, hargs, rfl, rfl, h0, r0⟩ := trodAll_cons hA
  obtain ⟨v1, vs1, d1, ds1, p1, q1, rfl, rfl, rfl, h1, r1⟩ := trodAll_cons r0
  obtain ⟨v2, vs2, d2, ds2, p2, q2, rfl, rfl, rfl, h2, r2⟩ := trodAll_cons r1
  obtain ⟨rfl, rfl, rfl⟩ := trodAll_nil r2
  obtain rfl : args = #[v0, v1, v2] := by cases args; simp_all
  obtain ⟨rfl, rfl⟩ := trodVars_none hV
  clear hA0
  obtain ⟨⟨ka, sa, na, ba⟩, k0, -, -⟩ := open_agg (N := noN) (k := valK) (ss_none (N := noN)) (n := 4) (t := 23) (by kernel_rfl) Tryd.underlying23 (hval 0 23 v0 rfl rfl) h0
  obtain ⟨⟨kb, sb, nb, bb⟩, k1, -, -⟩ := open_agg (N := noN) (k := valK) (ss_none (N := noN)) (n := 4) (t := 23) (by kernel_rfl) Tryd.underlying23 (hval 1 23 v1 rfl rfl) h1
  obtain ⟨⟨kc, sc, nc, bc⟩, k2, -, -⟩ := open_agg (N := noN) (k := valK) (ss_none (N := noN)) (n := 4) (t := 23) (by kernel_rfl) Tryd.underlying23 (hval 2 23 v2 rfl rfl) h2
  refine (law_calls (ctx_ok okp5) hm Tryd.func5 (c := Tryd.f5.body.getD .skip) (by kernel_rfl) (loopF_at (ctx_ok okp5) hm) (order_true ka na sa ba kb nb sb bb kc nc sc bc) #[v0, v1, v2] (tab4 hL) ⟨rfl, fun j a v ha hv => ?_⟩).mono fun e W' ⟨he, ev⟩ => ⟨_, he, ?_⟩
  · match j with
    | 0 => cases ha; cases hv; exact k0
    | 1 => cases ha; cases hv; exact k1
    | 2 => cases ha; cases hv; exact k2
    | j + 3 => simp at ha
  · exact law_post (kids_rows laidB maps) elems (by rw [Tryd.params5]; decide +kernel) rfl (by kernel_rfl) rfl hW' rfl ev

def val0 : Value := .agg #[.int .i64 0, .string ⟨#[]⟩, .int .i64 0, .bool false]
def args0 : Array Value := #[val0, val0, val0]
theorem laid_met (os : Os) : laidMet Tryd.prog Rows.cellOrderRow.laid ((laidWorld os).forCall (fun _ _ => 0) ⟨#[], args0, []⟩).memory :=
  laidMet_of_run3 8 (by kernel_rfl) (by kernel_rfl) (by kernel_rfl)
def d0 {H : Type} : DataW H := .agg [.lit (.int .i64 0), .lit (.string []), .lit (.int .i64 0), .lit (.bool false)]
theorem reads (os : Os) {H : Type} (enc : TypeId × Value → H) : ∃ places, DataW.whole enc Tryd.prog ((laidWorld os).forCall (fun _ _ => 0) ⟨#[], args0, []⟩).memory Tryd.f5.params.toList Rows.cellOrderSpec.vars false args0.toList 8 =
    some ([d0, d0, d0], [], places) := by
  have hw : (DataW.whole enc Tryd.prog ((laidWorld os).forCall (fun _ _ => 0) ⟨#[], args0, []⟩).memory Tryd.f5.params.toList Rows.cellOrderSpec.vars false args0.toList 8).map (fun x => (x.1, x.2.1)) =
      some ([d0, d0, d0], []) := by kernel_rfl
  obtain ⟨⟨x1, x2, x3⟩, hx, hx1⟩ := Option.map_eq_some_iff.1 hw
  simp only [Prod.mk.injEq] at hx1
  obtain ⟨rfl, rfl⟩ := hx1
  exact ⟨x3, hx⟩

theorem lifted (os : Os) (started : os.Started) (H : Type) (enc : TypeId × Value → H) (F : Stop.Interp) :
    ReturnsInHanded {} Tryd.checked os 5 .any ((OpenSpec.ofChange Rows.cellOrderSpec).preRow enc Tryd.prog Tryd.f5 Rows.cellOrderRow.domain false Rows.cellOrderRow.laid) (((OpenSpec.ofChange Rows.cellOrderSpec).at F).post enc Tryd.prog Tryd.f5 false true false false) := by
  obtain ⟨places, hx⟩ := reads os enc
  refine returnsInHanded_of_row (C := Tryd.checked) (s := OpenSpec.ofChange Rows.cellOrderSpec) own started (by kernel_rfl) Tryd.func5
    (witness_row_atRef (enc := enc) (C := Tryd.checked) false (laidWorld os) args0 rfl (by kernel_rfl) (by kernel_rfl) (by kernel_rfl)
      (OpenSpec.preRow_of_cond 8 hx (by kernel_rfl) (fun k hk => by cases hk) (by kernel_rfl) (laid_met os))) ?_
  intro W base args ds gs before hval hW _ _ _ hL _ _
  exact contract H enc W base args ds gs before hval hW hL

theorem said : Rows.CellOrderSaid :=
  OpenClaim.holds_of_cond 5 Tryd.f5 rfl rfl rfl rfl rfl rfl rfl ⟨rfl, rfl, rfl, rfl, rfl⟩ rfl rfl rfl rfl rfl (by kernel_rfl) Tryd.func5 (by kernel_rfl)
    (of_decide_eq_true (by kernel_rfl)) (by unfold Func.isWrapper; first | (rw [if_pos (by decide +kernel)]; kernel_rfl) | (rw [if_neg (by decide +kernel)]; exact ⟨rfl, rfl⟩))
    (fun os started H enc _ F => by rw [OpenClaim.pre_eq_preRow]; exact lifted os started H enc F)

theorem plain (f : FuncId) (fn : Func) (hf : Tryd.pinned.checked.prog.funcNamed "quillpen/quillpenlaw17.CellOrder" = some f) (hfn : Tryd.pinned.checked.prog.funcs[f]? = some fn) :
    true = Tryd.pinned.checked.prog.looks [] ∧ ∀ (j : Nat) t, fn.params[j]? = some t → Tryd.pinned.checked.prog.wantsStandIn t = false := by
  obtain rfl : f = 5 := Option.some.inj ((show Tryd.prog.funcNamed "quillpen/quillpenlaw17.CellOrder" = some 5 by kernel_rfl).symm.trans hf) |>.symm
  obtain rfl : fn = Tryd.f5 := (Option.some.inj (Tryd.func5.symm.trans hfn)).symm
  refine ⟨by kernel_rfl, fun j t ht => ?_⟩
  rw [Tryd.params5] at ht
  have : t ∈ [23, 23, 23] := by simpa using Array.mem_of_getElem? ht
  have hall : ([23, 23, 23] : List Nat).all (fun t => !Tryd.prog.wantsStandIn t) = true := by kernel_rfl
  show Tryd.prog.wantsStandIn t = false
  simpa using List.all_eq_true.1 hall t this

/-- The card. -/
theorem card : Rows.CellOrderCardSaid :=
  Claim7.holds_tied_plain_at .later [] _ _ _ _ said (fun _ h => by cases h) (by kernel_rfl) (fun _ h => by cases h) cellOrder_row_tie rfl ⟨rfl, rfl⟩ (by kernel_rfl) rfl plain (by kernel_rfl)
#print axioms card
end Go.Proofs.YtpiphiieflnabaaDoor.cellOrder
