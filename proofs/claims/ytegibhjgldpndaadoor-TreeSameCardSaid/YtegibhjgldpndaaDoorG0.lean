/-
  What package-level variables hold, as the claims of this seat say: by number: the cells. No condition.
-/
import Derived.WalkKit
set_option linter.unusedVariables false
set_option linter.unusedSimpArgs false
namespace Go.Al
def pow10V : List Value := [1, 10, 100, 1000, 10000, 100000, 1000000, 10000000, 100000000, 1000000000, 10000000000, 100000000000, 1000000000000, 10000000000000, 100000000000000, 1000000000000000, 10000000000000000, 100000000000000000, 1000000000000000000, 10000000000000000000].map fun z => Value.int .u64 z
def isIfaceV (us : List Value) : Prop := ∃ t p, us = [.iface t p]
def globL : List (Nat × (List Value → Prop)) := [(0, fun us => us = pow10V), (1, isIfaceV), (2, isIfaceV)]
end Go.Al
