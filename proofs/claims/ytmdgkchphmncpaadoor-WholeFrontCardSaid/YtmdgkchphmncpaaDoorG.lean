/- The package-level table of UTF-8's states, and what functions read of it. Conditions: none. -/
import Derived.Test.YtmdgkchphmncpaaDoorAbs30
namespace Go.Proofs.YtmdgkchphmncpaaDoor
open Go Go.Abs
set_option maxRecDepth 100000

abbrev spanK : EK := .pair (.int .u8) (.pair (.int .u8) (.int .i64))
def spans : List (List (Int × Int × Int)) := [
  [(0, 127, 0), (194, 223, 1), (224, 224, 4), (225, 236, 2), (237, 237, 5), (238, 239, 2), (240, 240, 6), (241, 243, 3), (244, 244, 7)],
  [(128, 191, 0)], [(128, 191, 1)], [(128, 191, 2)], [(160, 191, 1)], [(128, 159, 1)], [(144, 191, 2)], [(128, 143, 2)]]
noncomputable def G0 : Nat → Option (List AV)
  | 0 => some ((spans : List (EK.seq spanK).α).flatMap (EK.seq spanK).enc)
  | _ => none
theorem hm : Tryd.prog.follows .mixedOrders = true := by kernel_rfl
end Go.Proofs.YtmdgkchphmncpaaDoor
