/- WholeLimits: a text without a fault within limits has the same records within wider ones: the law returns true, and what it was handed reads as it did (the card). Conditions: the package-level table starts as the program's text lays it. -/
import Derived.Test.YtmdgkchphmncpaaDoorCards
import Derived.Test.YtmdgkchphmncpaaDoorTie
import Derived.WalkKit
import Derived.ProofKit
import Derived.OpenShut
import Derived.Deep.DeepHandedRow
import Derived.Deep.DeepWitnessRowRef
import Derived.Deep.DeepLaidRun
import Derived.Test.YtmdgkchphmncpaaDoorW09
namespace Go.Proofs.YtmdgkchphmncpaaDoor
open Go Go.Abs
set_option maxRecDepth 100000

def numsOf : DataW Unit → List Value
  | .agg ps => ps.map fun d => match d with | .lit (.int k n) => Value.int k n | _ => undef
  | _ => []
def spansOf : DataW Unit → List (List Value)
  | .agg ss => ss.map fun d => match d with | .slice es _ => es.flatMap numsOf | _ => []
  | _ => []
def putG (h : Array Obj) (g : Nat) (cs : List Value) : Array Obj := h.modify g fun o =>
  match o with
  | .cells _ t frozen => .cells cs.toArray t frozen
  | o => o
/-- A world for the witness: the table holds what its initialiser lays. -/
noncomputable def laidWorld (os : Os) : World :=
  let N := (World.settled Tryd.prog os).heap.size
  let sp := spansOf Rows.laid_quillpen_utf_table
  let w0 := World.holding Tryd.prog os ⟨(sp.map fun cs => Obj.cells cs.toArray 99).toArray, #[], []⟩
  { w0 with heap := putG w0.heap 0 (mapI (fun i cs => Value.slice (some ⟨N + i, 0, none⟩) (cs.length / 3) (cs.length / 3)) 0 sp) }

theorem own : ownKnob Tryd.prog.godebug = none := by kernel_rfl
theorem laidB : laidOutB Tryd.prog = true := by kernel_rfl
theorem maps : mapsRowed Tryd.prog = true := by kernel_rfl
theorem elems : elemsB Tryd.prog = true := by kernel_rfl
theorem gTab : Tryd.prog.globalNamed "quillpen/utf.table" = some 0 := by kernel_rfl
theorem gTabType : (Tryd.prog.globals[0]?).map (·.type) = some 97 := by kernel_rfl
/-- What the row's list gives: the table. -/
theorem tableG {W : World} (h : laidMet Tryd.prog [("quillpen/utf.table", Rows.laid_quillpen_utf_table)] W) : ∀ g cs, G0 g = some cs → ∀ M : Names, Rel W (SS noF noN []) M (.pim cs) (.pointer (some ⟨g, 0, none⟩)) := by
  intro g cs hg M
  unfold G0 at hg
  split at hg
  · cases hg
    exact glob_ok (n := 4) (k := .seq spanK) (rest := []) gTab gTabType Tryd.underlying97 (by kernel_rfl) (by kernel_rfl) (by kernel_rfl) h ss_none M
  · cases hg
end Go.Proofs.YtmdgkchphmncpaaDoor
namespace Go.Proofs.YtmdgkchphmncpaaDoor.wholeLimits
open Go.ChangeShapes Go.WideShapes Go.ChangeAt Go.RowKit Go.Abs
set_option maxRecDepth 100000
abbrev dK : EK := .pair (.int .u8) (.pair (.int .u8) (.int .i64))
abbrev limK : EK := .pair (.int .i64) (.pair (.int .i64) (.pair (.int .i64) .bool))

theorem contract (H : Type) (enc : TypeId × Value → H) (W : World) (base : Nat) (args : Array Value) (ds gs : List (DataW H)) (before : List MemPlace)
    (hval : ∀ (j : Nat) t v, Tryd.f5.params[j]? = some t → args[j]? = some v → Value.okWide Tryd.prog W .any base t v)
    (hW : DataW.Whole enc Tryd.prog Tryd.f5.params.toList Rows.wholeLimitsSpec.vars false W args.toList ds gs before) (hL : laidMetH Tryd.prog Rows.wholeLimitsRow.laid W) :
    Calls Tryd.prog 5 args W fun e W' => ∃ v, e = .returned v ∧ Rows.wholeLimitsSpec.post enc Tryd.prog Tryd.f5 false true false false W args v W' := by
  have hW' := hW
  obtain ⟨p, q, hA0, hV, rfl, hfz, hnd⟩ := hW
  have hA : DataW.TrodAll enc Tryd.prog W 0 (fun _ => true) true Tryd.f5.params.toList args.toList ds p := hA0
  rw [Tryd.params5] at hA hval
  obtain ⟨v0, vs0, d0, ds0, p0, q0, hargs, rfl, rfl, h0, r0⟩ := trodAll_cons hA
  obtain ⟨v1, vs1, d1, ds1, p1, q1, rfl, rfl, rfl, h1, r1⟩ := trodAll_cons r0
  obtain ⟨v2, vs2, d2, ds2, p2, q2, rfl, rfl, rfl, h2, r2⟩ := trodAll_cons r1
  obtain ⟨rfl, rfl, rfl⟩ := trodAll_nil r2
  obtain rfl : args = #[v0, v1, v2] := by cases args; simp_all
  obtain ⟨rfl, rfl⟩ := trodVars_none hV
  clear hA0
  obtain ⟨y0, k0, -, -⟩ := open_agg (N := noN) (k := dK) (ss_none (N := noN)) (n := 4) (t := 23) (by kernel_rfl) Tryd.underlying23 (hval 0 23 v0 rfl rfl) h0
  obtain ⟨y1, k1, -, -⟩ := open_agg (N := noN) (k := limK) (ss_none (N := noN)) (n := 4) (t := 25) (by kernel_rfl) Tryd.underlying25 (hval 1 25 v1 rfl rfl) h1
  obtain ⟨s, hs, -, -⟩ := open_one (N := noN) (k := .str) (ss_none (N := noN)) (n := 4) (t := 9) (by kernel_rfl) (fun fs h => by rw [Tryd.underlying9] at h; cases h) (hval 2 9 v2 rfl rfl) h2
  have k2 : Rel W (SS noF noN []) noN (.str s) v2 := hs _ rfl
  refine (law_calls (ctx_ok okv3) hm Tryd.func5 hcM LM_ok (limits_true y0 y1 s) #[v0, v1, v2] (tableG hL) ⟨rfl, fun j a v ha hv => ?_⟩).mono fun e W' ⟨he, ev⟩ => ⟨_, he, ?_⟩
  · match j with
    | 0 => cases ha; cases hv; exact k0
    | 1 => cases ha; cases hv; exact k1
    | 2 => cases ha; cases hv; exact k2
    | j + 3 => simp at ha
  · exact law_post (kids_rows laidB maps) elems (by rw [Tryd.params5]; decide +kernel) rfl (by kernel_rfl) rfl hW' rfl ev

def args0 : Array Value := #[.agg #[.int .u8 0, .int .u8 0, .int .i64 0], .agg #[.int .i64 0, .int .i64 0, .int .i64 0, .bool false], .string ⟨#[]⟩]
theorem laid_met (os : Os) : laidMet Tryd.prog Rows.wholeLimitsRow.laid ((laidWorld os).forCall (fun _ _ => 0) ⟨#[], args0, []⟩).memory :=
  laidMet_of_run3 8 (by kernel_rfl) (by kernel_rfl) (by kernel_rfl)
theorem reads (os : Os) {H : Type} (enc : TypeId × Value → H) : ∃ ds places, DataW.whole enc Tryd.prog ((laidWorld os).forCall (fun _ _ => 0) ⟨#[], args0, []⟩).memory Tryd.f5.params.toList Rows.wholeLimitsSpec.vars false args0.toList 8 = some (ds, [], places) ∧
    ds = [.agg [.lit (.int .u8 0), .lit (.int .u8 0), .lit (.int .i64 0)], .agg [.lit (.int .i64 0), .lit (.int .i64 0), .lit (.int .i64 0), .lit (.bool false)], .lit (.string [])] := by
  have hw : (DataW.whole enc Tryd.prog ((laidWorld os).forCall (fun _ _ => 0) ⟨#[], args0, []⟩).memory Tryd.f5.params.toList Rows.wholeLimitsSpec.vars false args0.toList 8).map (fun x => (x.1, x.2.1)) =
      some ([.agg [.lit (.int .u8 0), .lit (.int .u8 0), .lit (.int .i64 0)], .agg [.lit (.int .i64 0), .lit (.int .i64 0), .lit (.int .i64 0), .lit (.bool false)], .lit (.string [])], []) := by kernel_rfl
  obtain ⟨⟨x1, x2, x3⟩, hx, hx1⟩ := Option.map_eq_some_iff.1 hw
  simp only [Prod.mk.injEq] at hx1
  obtain ⟨rfl, rfl⟩ := hx1
  exact ⟨_, x3, hx, rfl⟩

theorem lifted (os : Os) (started : os.Started) (H : Type) (enc : TypeId × Value → H) (F : Stop.Interp) :
    ReturnsInHanded {} Tryd.checked os 5 .any ((OpenSpec.ofChange Rows.wholeLimitsSpec).preRow enc Tryd.prog Tryd.f5 Rows.wholeLimitsRow.domain false Rows.wholeLimitsRow.laid) (((OpenSpec.ofChange Rows.wholeLimitsSpec).at F).post enc Tryd.prog Tryd.f5 false true false false) := by
  obtain ⟨ds, places, hx, hds⟩ := reads os enc
  subst hds
  refine returnsInHanded_of_row (C := Tryd.checked) (s := OpenSpec.ofChange Rows.wholeLimitsSpec) own started (by kernel_rfl) Tryd.func5
    (witness_row_atRef (enc := enc) (C := Tryd.checked) false (laidWorld os) args0 rfl (by kernel_rfl) (by kernel_rfl) (by kernel_rfl)
      (OpenSpec.preRow_of_cond 8 hx (by kernel_rfl) (fun k hk => by cases hk) (by kernel_rfl) (laid_met os))) ?_
  intro W base args ds gs before hval hW _ _ _ hL _ _
  exact contract H enc W base args ds gs before hval hW hL

theorem said : Rows.WholeLimitsSaid :=
  OpenClaim.holds_of_cond 5 Tryd.f5 rfl rfl rfl rfl rfl rfl rfl ⟨rfl, rfl, rfl, rfl, rfl⟩ rfl rfl rfl rfl rfl (by kernel_rfl) Tryd.func5 (by kernel_rfl)
    (of_decide_eq_true (by kernel_rfl)) (by unfold Func.isWrapper; first | (rw [if_pos (by decide +kernel)]; kernel_rfl) | (rw [if_neg (by decide +kernel)]; exact ⟨rfl, rfl⟩))
    (fun os started H enc _ F => by rw [OpenClaim.pre_eq_preRow]; exact lifted os started H enc F)

theorem plain (f : FuncId) (fn : Func) (hf : Tryd.pinned.checked.prog.funcNamed "quillpen/quillpenlaw06.WholeLimits" = some f) (hfn : Tryd.pinned.checked.prog.funcs[f]? = some fn) :
    false = Tryd.pinned.checked.prog.looks [] ∧ ∀ (j : Nat) t, fn.params[j]? = some t → Tryd.pinned.checked.prog.wantsStandIn t = false := by
  obtain rfl : f = 5 := Option.some.inj ((show Tryd.prog.funcNamed "quillpen/quillpenlaw06.WholeLimits" = some 5 by kernel_rfl).symm.trans hf) |>.symm
  obtain rfl : fn = Tryd.f5 := (Option.some.inj (Tryd.func5.symm.trans hfn)).symm
  refine ⟨by kernel_rfl, fun j t ht => ?_⟩
  rw [Tryd.params5] at ht
  have : t ∈ [23, 25, 9] := by simpa using Array.mem_of_getElem? ht
  have hall : ([23, 25, 9] : List Nat).all (fun t => !Tryd.prog.wantsStandIn t) = true := by kernel_rfl
  show Tryd.prog.wantsStandIn t = false
  simpa using List.all_eq_true.1 hall t this

/-- The card. -/
theorem card : Rows.WholeLimitsCardSaid :=
  Claim7.holds_tied_plain_at .later [] _ _ _ _ said (fun _ h => by cases h) (by kernel_rfl) (fun _ h => by cases h) wholeLimits_row_tie rfl ⟨rfl, rfl⟩ (by kernel_rfl) rfl plain (by kernel_rfl)
#print axioms card
end Go.Proofs.YtmdgkchphmncpaaDoor.wholeLimits
