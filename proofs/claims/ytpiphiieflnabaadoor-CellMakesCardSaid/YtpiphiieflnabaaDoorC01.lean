/- CellMakes: texts, numbers and truths as values, and the document's example. (under way) -/
import Derived.Test.YtpiphiieflnabaaDoorAbs30
namespace Go.Proofs.YtpiphiieflnabaaDoor
open Go Go.Abs
set_option maxRecDepth 100000

noncomputable def G0 : Nat → Option (List AV) := fun _ => none
theorem hm : Tryd.prog.follows .mixedOrders = true := by kernel_rfl
theorem a1 : AllOK Tryd.prog G0 [(15, runC (ctx Tryd.prog G0 []) 0 Tryd.f15 true)] := add_run (P := Tryd.prog) (G := G0) (l := []) trivial hm 0 true Tryd.func15 (by rfl) (by kernel_rfl)
theorem text_ev (s : List UInt8) : (evFn (ctx Tryd.prog G0 []) noL Tryd.f15 [.str s] []).get = some (.agg [.int .i64 1, .str s, .int .i64 0, .bool false], []) := by kernel_rfl
noncomputable def k1 : List (Nat × Con) := [(15, runC (ctx Tryd.prog G0 []) 0 Tryd.f15 true)]
noncomputable def k2 : List (Nat × Con) := (16, runC (ctx Tryd.prog G0 k1) 0 Tryd.f16 true) :: k1
noncomputable def k3 : List (Nat × Con) := (17, runC (ctx Tryd.prog G0 k2) 0 Tryd.f17 true) :: k2
noncomputable def k4 : List (Nat × Con) := (38, runC (ctx Tryd.prog G0 k3) 0 Tryd.f38 true) :: k3
noncomputable def k5 : List (Nat × Con) := (39, runC (ctx Tryd.prog G0 k4) 0 Tryd.f39 true) :: k4
noncomputable def k6 : List (Nat × Con) := (78, runC (ctx Tryd.prog G0 k5) 2 Tryd.f78 true) :: k5
noncomputable def k7 : List (Nat × Con) := (65, runC (ctx Tryd.prog G0 k6) 0 Tryd.f65 true) :: k6
noncomputable def k8 : List (Nat × Con) := (52, runC (ctx Tryd.prog G0 k7) 0 Tryd.f52 true) :: k7
noncomputable def k9 : List (Nat × Con) := (35, runC (ctx Tryd.prog G0 k8) 0 Tryd.f35 true) :: k8
noncomputable def k10 : List (Nat × Con) := (14, runC (ctx Tryd.prog G0 k9) 0 Tryd.f14 true) :: k9
noncomputable def k11 : List (Nat × Con) := (13, runC (ctx Tryd.prog G0 k10) 0 Tryd.f13 true) :: k10
theorem okk : AllOK Tryd.prog G0 k11 := by
  refine add_run ?_ hm 0 true Tryd.func13 (by rfl) (by kernel_rfl)
  refine add_run ?_ hm 0 true Tryd.func14 (by rfl) (by kernel_rfl)
  refine add_run ?_ hm 0 true Tryd.func35 (by rfl) (by kernel_rfl)
  refine add_run ?_ hm 0 true Tryd.func52 (by rfl) (by kernel_rfl)
  refine add_run ?_ hm 0 true Tryd.func65 (by rfl) (by kernel_rfl)
  refine add_run ?_ hm 2 true Tryd.func78 (by rfl) (by kernel_rfl)
  refine add_run ?_ hm 0 true Tryd.func39 (by rfl) (by kernel_rfl)
  refine add_run ?_ hm 0 true Tryd.func38 (by rfl) (by kernel_rfl)
  refine add_run ?_ hm 0 true Tryd.func17 (by rfl) (by kernel_rfl)
  refine add_run ?_ hm 0 true Tryd.func16 (by rfl) (by kernel_rfl)
  exact a1
theorem awake_ev : (evFn (ctx Tryd.prog G0 k10) noL Tryd.f13 [] []).get = some (.bool true, []) := by kernel_rfl
theorem int_ev (n : Int) : (evFn (ctx Tryd.prog G0 []) noL Tryd.f16 [.int .i64 n] []).get = some (.agg [.int .i64 2, .str [], .int .i64 n, .bool false], []) := by kernel_rfl
theorem bool_ev (b : Bool) : (evFn (ctx Tryd.prog G0 []) noL Tryd.f17 [.bool b] []).get = some (.agg [.int .i64 3, .str [], .int .i64 0, .bool b], []) := by kernel_rfl
theorem makes_ev (s : List UInt8) (n : Int) (b : Bool) : (evFn (ctx Tryd.prog G0 k11) noL Tryd.f4 [.str s, .int .i64 n, .bool b] []).get =
    cond (decide (200 < (s.length : Int))) (some (.bool true, [])) (cond (true && (decide (s = s) && true)) (cond (decide (n = n) && true) (cond ((b == b) && true) (some (.bool true, [])) (some (.bool false, []))) (some (.bool false, []))) (some (.bool false, []))) := by kernel_rfl
theorem makes_true (s : List UInt8) (n : Int) (b : Bool) : (evFn (ctx Tryd.prog G0 k11) noL Tryd.f4 [.str s, .int .i64 n, .bool b] []).get = some (.bool true, []) := by
  rw [makes_ev]
  simp
end Go.Proofs.YtpiphiieflnabaaDoor
