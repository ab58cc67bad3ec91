/- CellMakes: whatever text, number and truth: the law returns true, and what it was handed reads as it did (the card). Conditions: the package-level tables start as the program's text lays them. -/
import Derived.Test.YtpiphiieflnabaaDoorCards
import Derived.Test.YtpiphiieflnabaaDoorTie
import Derived.WalkKit
import Derived.ProofKit
import Derived.OpenShut
import Derived.Deep.DeepHandedRow
import Derived.Deep.DeepWitnessRowRef
import Derived.Deep.DeepLaidRun
import Derived.Test.YtpiphiieflnabaaDoorC01
namespace Go.Proofs.YtpiphiieflnabaaDoor
open Go Go.Abs
set_option maxRecDepth 100000

def numsOf : DataW Unit → List Value
  | .agg ps => ps.map fun d => match d with | .lit (.int k n) => Value.int k n | _ => undef
  | _ => []
def spansOf : DataW Unit → List (List Value)
  | .agg ss => ss.map fun d => match d with | .slice es _ => es.flatMap numsOf | _ => []
  | _ => []
def putG (h : Array Obj) (g : Nat) (cs : List Value) : Array Obj := h.modify g fun o =>
  match o with
  | .cells _ t frozen => .cells cs.toArray t frozen
  | o => o
/-- A world for the witness: the tables hold what their initialisers lay. -/
noncomputable def laidWorld (os : Os) : World :=
  let N := (World.settled Tryd.prog os).heap.size
  let sp := spansOf Rows.laid_quillpen_utf_table
  let w0 := World.holding Tryd.prog os ⟨(sp.map fun cs => Obj.cells cs.toArray 129).toArray, #[], []⟩
  { w0 with heap := putG (putG (putG (putG w0.heap 4 (mapI (fun i cs => Value.slice (some ⟨N + i, 0, none⟩) (cs.length / 3) (cs.length / 3)) 0 sp)) 5 (numsOf Rows.laid_math_bits_deBruijn32tab)) 6 (numsOf Rows.laid_math_bits_deBruijn64tab)) 3 (numsOf Rows.laid_internal_strconv_uint64pow10) }
end Go.Proofs.YtpiphiieflnabaaDoor
namespace Go.Proofs.YtpiphiieflnabaaDoor.cellMakes
open Go.ChangeShapes Go.WideShapes Go.ChangeAt Go.RowKit Go.Abs
set_option maxRecDepth 100000

theorem own : ownKnob Tryd.prog.godebug = none := by kernel_rfl
theorem laidB : laidOutB Tryd.prog = true := by kernel_rfl
theorem maps : mapsRowed Tryd.prog = true := by kernel_rfl
theorem elems : elemsB Tryd.prog = true := by kernel_rfl

theorem contract (H : Type) (enc : TypeId × Value → H) (W : World) (base : Nat) (args : Array Value) (ds gs : List (DataW H)) (before : List MemPlace)
    (hval : ∀ (j : Nat) t v, Tryd.f4.params[j]? = some t → args[j]? = some v → Value.okWide Tryd.prog W .any base t v)
    (hW : DataW.Whole enc Tryd.prog Tryd.f4.params.toList Rows.cellMakesSpec.vars false W args.toList ds gs before) :
    Calls Tryd.prog 4 args W fun e W' => ∃ v, e = .returned v ∧ Rows.cellMakesSpec.post enc Tryd.prog Tryd.f4 false true false false W args v W' := by
  have hW' := hW
  obtain ⟨p, q, hA0, hV, rfl, hfz, hnd⟩ := hW
  have hA : DataW.TrodAll enc Tryd.prog W 0 (fun _ => true) true Tryd.f4.params.toList args.toList ds p := hA0
  rw [Tryd.params4] at hA hval
  obtain ⟨v0, vs0, d0, ds0, p0, q0, hargs, rfl, rfl, h0, r0⟩ := trodAll_cons hA
  obtain ⟨v1, vs1, d1, ds1, p1, q1, rfl, rfl, rfl, h1, r1⟩ := trodAll_cons r0
  obtain ⟨v2, vs2, d2, ds2, p2, q2, rfl, rfl, rfl, h2, r2⟩ := trodAll_cons r1
  obtain ⟨rfl, rfl, rfl⟩ := trodAll_nil r2
  obtain rfl : args = #[v0, v1, v2] := by cases args; simp_all
  obtain ⟨rfl, rfl⟩ := trodVars_none hV
  clear hA0
  obtain ⟨s, hs, -, -⟩ := open_one (N := noN) (k := .str) (ss_none (N := noN)) (n := 4) (t := 9) (by kernel_rfl) (fun fs h => by rw [Tryd.underlying9] at h; cases h) (hval 0 9 v0 rfl rfl) h0
  obtain ⟨n, hn, -, -⟩ := open_one (N := noN) (k := .int .i64) (ss_none (N := noN)) (n := 4) (t := 2) (by kernel_rfl) (fun fs h => by rw [Tryd.underlying2] at h; cases h) (hval 1 2 v1 rfl rfl) h1
  obtain ⟨b, hb, -, -⟩ := open_one (N := noN) (k := .bool) (ss_none (N := noN)) (n := 4) (t := 4) (by kernel_rfl) (fun fs h => by rw [Tryd.underlying4] at h; cases h) (hval 2 4 v2 rfl rfl) h2
  have k0 : Rel W (SS noF noN []) noN (.str s) v0 := hs _ rfl
  have k1 : Rel W (SS noF noN []) noN (.int .i64 n) v1 := hn _ rfl
  have k2 : Rel W (SS noF noN []) noN (.bool b) v2 := hb _ rfl
  refine (law_calls (ctx_ok okk) hm Tryd.func4 (by rfl) noL_ok (makes_true s n b) #[v0, v1, v2] (fun g cs h => by cases h) ⟨rfl, fun j a v ha hv => ?_⟩).mono fun e W' ⟨he, ev⟩ => ⟨_, he, ?_⟩
  · match j with
    | 0 => cases ha; cases hv; exact k0
    | 1 => cases ha; cases hv; exact k1
    | 2 => cases ha; cases hv; exact k2
    | j + 3 => simp at ha
  · exact law_post (kids_rows laidB maps) elems (by rw [Tryd.params4]; decide +kernel) rfl (by kernel_rfl) rfl hW' rfl ev

theorem laid_met (os : Os) : laidMet Tryd.prog Rows.cellMakesRow.laid ((laidWorld os).forCall (fun _ _ => 0) ⟨#[], #[.string ⟨#[]⟩, .int .i64 0, .bool false], []⟩).memory :=
  laidMet_of_run3 8 (by kernel_rfl) (by kernel_rfl) (by kernel_rfl)
theorem reads (os : Os) {H : Type} (enc : TypeId × Value → H) : ∃ places, DataW.whole enc Tryd.prog ((laidWorld os).forCall (fun _ _ => 0) ⟨#[], #[.string ⟨#[]⟩, .int .i64 0, .bool false], []⟩).memory Tryd.f4.params.toList Rows.cellMakesSpec.vars false #[Value.string ⟨#[]⟩, .int .i64 0, .bool false].toList 8 =
    some ([.lit (.string []), .lit (.int .i64 0), .lit (.bool false)], [], places) := by
  have hw : (DataW.whole enc Tryd.prog ((laidWorld os).forCall (fun _ _ => 0) ⟨#[], #[.string ⟨#[]⟩, .int .i64 0, .bool false], []⟩).memory Tryd.f4.params.toList Rows.cellMakesSpec.vars false #[Value.string ⟨#[]⟩, .int .i64 0, .bool false].toList 8).map (fun x => (x.1, x.2.1)) =
      some ([.lit (.string []), .lit (.int .i64 0), .lit (.bool false)], []) := by kernel_rfl
  obtain ⟨⟨x1, x2, x3⟩, hx, hx1⟩ := Option.map_eq_some_iff.1 hw
  simp only [Prod.mk.injEq] at hx1
  obtain ⟨rfl, rfl⟩ := hx1
  exact ⟨x3, hx⟩

theorem lifted (os : Os) (started : os.Started) (H : Type) (enc : TypeId × Value → H) (F : Stop.Interp) :
    ReturnsInHanded {} Tryd.checked os 4 .any ((OpenSpec.ofChange Rows.cellMakesSpec).preRow enc Tryd.prog Tryd.f4 Rows.cellMakesRow.domain false Rows.cellMakesRow.laid) (((OpenSpec.ofChange Rows.cellMakesSpec).at F).post enc Tryd.prog Tryd.f4 false true false false) := by
  obtain ⟨places, hx⟩ := reads os enc
  refine returnsInHanded_of_row (C := Tryd.checked) (s := OpenSpec.ofChange Rows.cellMakesSpec) own started (by kernel_rfl) Tryd.func4
    (witness_row_atRef (enc := enc) (C := Tryd.checked) false (laidWorld os) #[.string ⟨#[]⟩, .int .i64 0, .bool false] rfl (by kernel_rfl) (by kernel_rfl) (by kernel_rfl)
      (OpenSpec.preRow_of_cond 8 hx (by kernel_rfl) (fun k hk => by cases hk) (by kernel_rfl) (laid_met os))) ?_
  intro W base args ds gs before hval hW _ _ _ hL _ _
  exact contract H enc W base args ds gs before hval hW

theorem said : Rows.CellMakesSaid :=
  OpenClaim.holds_of_cond 4 Tryd.f4 rfl rfl rfl rfl rfl rfl rfl ⟨rfl, rfl, rfl, rfl, rfl⟩ rfl rfl rfl rfl rfl (by kernel_rfl) Tryd.func4 (by kernel_rfl)
    (of_decide_eq_true (by kernel_rfl)) (by unfold Func.isWrapper; first | (rw [if_pos (by decide +kernel)]; kernel_rfl) | (rw [if_neg (by decide +kernel)]; exact ⟨rfl, rfl⟩))
    (fun os started H enc _ F => by rw [OpenClaim.pre_eq_preRow]; exact lifted os started H enc F)

theorem plain (f : FuncId) (fn : Func) (hf : Tryd.pinned.checked.prog.funcNamed "quillpen/quillpenlaw17.CellMakes" = some f) (hfn : Tryd.pinned.checked.prog.funcs[f]? = some fn) :
    true = Tryd.pinned.checked.prog.looks [] ∧ ∀ (j : Nat) t, fn.params[j]? = some t → Tryd.pinned.checked.prog.wantsStandIn t = false := by
  obtain rfl : f = 4 := Option.some.inj ((show Tryd.prog.funcNamed "quillpen/quillpenlaw17.CellMakes" = some 4 by kernel_rfl).symm.trans hf) |>.symm
  obtain rfl : fn = Tryd.f4 := (Option.some.inj (Tryd.func4.symm.trans hfn)).symm
  refine ⟨by kernel_rfl, fun j t ht => ?_⟩
  rw [Tryd.params4] at ht
  have : t ∈ [9, 2, 4] := by simpa using Array.mem_of_getElem? ht
  have hall : ([9, 2, 4] : List Nat).all (fun t => !Tryd.prog.wantsStandIn t) = true := by kernel_rfl
  show Tryd.prog.wantsStandIn t = false
  simpa using List.all_eq_true.1 hall t this

/-- The card. -/
theorem card : Rows.CellMakesCardSaid :=
  Claim7.holds_tied_plain_at .later [] _ _ _ _ said (fun _ h => by cases h) (by kernel_rfl) (fun _ h => by cases h) cellMakes_row_tie rfl ⟨rfl, rfl⟩ (by kernel_rfl) rfl plain (by kernel_rfl)
#print axioms card
end Go.Proofs.YtpiphiieflnabaaDoor.cellMakes
