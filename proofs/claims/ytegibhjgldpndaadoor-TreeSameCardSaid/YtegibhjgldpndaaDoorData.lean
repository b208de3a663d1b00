/-
  Trees as Lean data, and how they read as abstract values.
-/
import Derived.Test.YtegibhjgldpndaaDoorAC
set_option linter.unusedVariables false
set_option linter.unusedSimpArgs false
namespace Go.Proofs.YtegibhjgldpndaaDoor
open Go.Al

def vi (n : Int) : V := .at (.int .i64 n)
/-- A slice of these: nil, if it is empty. -/
def sl (es : List V) : V := .lst (tagOf es) es

/-- A node: its kind, its token, its parts. -/
inductive Nd where
  | mk (kind tok : Int) (kids : List Nd)

mutual
def encNd : Nd → V
  | .mk k a l => .agg [vi k, vi a, sl (encNds l)]
def encNds : List Nd → List V
  | [] => []
  | x :: r => encNd x :: encNds r
end
theorem encNds_map : ∀ l : List Nd, encNds l = l.map encNd
  | [] => rfl
  | x :: r => by simp [encNds, encNds_map r]
theorem encNd_mk (k a : Int) (l : List Nd) : encNd (.mk k a l) = .agg [vi k, vi a, sl (l.map encNd)] := by rw [encNd, encNds_map]
end Go.Proofs.YtegibhjgldpndaaDoor
