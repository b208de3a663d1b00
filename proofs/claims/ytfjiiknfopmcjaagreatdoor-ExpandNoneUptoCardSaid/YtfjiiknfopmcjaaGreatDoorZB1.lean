/-
  Part 1 of what the last text needs: library, runs, contracts, plain laws. No condition of its own.
-/
import Derived.WalkKit
set_option linter.unusedVariables false
set_option linter.unusedSimpArgs false
set_option linter.unusedSectionVars false
namespace Go.Al
section
def zO3:List (Nat×(List Value->Prop)):=[(1,fun us=>∃ m,us=[.int .i64 m])]
def strV (l:List UInt8):Value:=.string ⟨l.toArray⟩
def signsL:List (List UInt8):=[[46,46,46],[60,60,61],[62,62,61],[45,62],[43,43],[45,45],[60,60],[62,62],[60,61],[62,61],[61,61],[33,61],[38,38],[124,124],[42,61],[47,61],[37,61],[43,61],[45,61],[38,61],[94,61],[124,61],[35,35],[91],[93],[40],[41],[123],[125],[46],[38],[42],[43],[45],[126],[33],[47],[37],[60],[62],[94],[124],[63],[58],[59],[61],[44],[35]]
def globA:List (Nat×List Value):=[(0,signsL.map strV)]
end
end Go.Al
