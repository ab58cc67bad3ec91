/- CellOrder: what the law computes, and that it is true. Conditions: none. -/
import Derived.Test.YtpiphiieflnabaaDoorD04
namespace Go.Proofs.YtpiphiieflnabaaDoor
open Go Go.Abs
set_option maxRecDepth 100000
variable {ev : Option Value}

def chkV (k : Int) (s : List UInt8) (n : Int) (b : Bool) (next : Option (AV × Store)) : Option (AV × Store) :=
  cond (decide (200 < (s.length : Int))) (bo true) (cond (decide (s.length ≤ LIM)) (cond (!rightR k s n (b2i b)) (bo true) next) none)
noncomputable def LO (ev : Option Value) : Nat → St → Tr (Ex × St) := loopF (ctx Tryd.prog (G0 ev) p5) (Tryd.f5.body.getD .skip) [] Tryd.f5.ntmps 4
theorem order_ev (k n : Int) (s : List UInt8) (b : Bool) (k' n' : Int) (s' : List UInt8) (b' : Bool) (k2 n2 : Int) (s2 : List UInt8) (b2 : Bool) :
    (evFn (ctx Tryd.prog (G0 ev) p5) (LO ev) Tryd.f5 [.agg [.int .i64 k, .str s, .int .i64 n, .bool b], .agg [.int .i64 k', .str s', .int .i64 n', .bool b'], .agg [.int .i64 k2, .str s2, .int .i64 n2, .bool b2]] []).get =
    chkV k s n b (chkV k' s' n' b' (chkV k2 s2 n2 b2 (
      cond (!decide (cmpV k s n b k' s' n' b' = rcmpR k s n (b2i b) k' s' n' (b2i b'))) (bo false)
      (cond (!decide (cmpV k' s' n' b' k s n b = IntKind.i64.wrap (0 - cmpV k s n b k' s' n' b'))) (bo false)
      (cond (!(decide (cmpV k s n b k' s' n' b' = 0) == (decide (k = k') && (decide (s = s') && (decide (n = n') && ((b == b') && true)))))) (bo false)
      (cond (decide (0 < cmpV k s n b k' s' n' b')) (bo true) (cond (decide (0 < cmpV k' s' n' b' k2 s2 n2 b2)) (bo true)
      (cond (decide (cmpV k s n b k2 s2 n2 b2 ≤ 0)) (bo true) (bo false))))))))) := by kernel_rfl
end Go.Proofs.YtpiphiieflnabaaDoor
