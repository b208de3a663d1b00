/-
  Around, of the document, and its law: their runs.
-/
import Derived.Test.YtdedkemkmccliaaS4
import Derived.Test.YtdedkemkmccliaaD12
set_option linter.unusedVariables false
set_option linter.unusedSimpArgs false
namespace Go.Proofs.Ytdedkemkmccliaa
open Go.Al Go.Den
abbrev rs116 : List (AK UU) := [.bl TI.int]
noncomputable def run116 (fu : Nat) (nf : Nat → Bool) (x0 : List LineT) (x1 : Int) : Option (denAs rs116) :=
  runF2 CC Tb fu 3 (findF [(25, fd25)]) (findF []) fd16 as16 rs116 nf (x0, x1, ())
noncomputable def run105 (fu : Nat) (c9 : Unit → Option (Bool × Unit)) (c10 : List LineT × Unit → Option (List It × Int × Int × Unit)) (c11 : List Int × Unit → Option (List LineT × Unit)) (c14 : List It × Int × Unit → Option (List Int × Unit)) (c15 : List Int × List Int × Unit → Option (Bool × Unit)) (c16 : List LineT × Int × Unit → Option ((Bool × List Int) × Unit)) (c17 : List It × Unit → Option (Int × Unit)) (nf : Nat → Bool) (x0 : List Int) : Option (denAs rs5) :=
  runF CC Tb fu 2 (findF []) (findF [(9, (⟨as9, rs9, c9⟩ : Con UU)), (10, (⟨as10, rs10, c10⟩ : Con UU)), (11, (⟨as11, rs11, c11⟩ : Con UU)), (14, (⟨as14, rs14, c14⟩ : Con UU)), (15, (⟨as15, rs15, c15⟩ : Con UU)), (16, (⟨as16, rs116, c16⟩ : Con UU)), (17, (⟨as17, rs17, c17⟩ : Con UU))]) fd5 as5 rs5 nf (x0, ())
end Go.Proofs.Ytdedkemkmccliaa
