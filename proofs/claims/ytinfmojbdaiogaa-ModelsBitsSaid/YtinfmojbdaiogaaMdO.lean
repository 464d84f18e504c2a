/- Chapter 08: numbers are written. -/
import Derived.Test.YtinfmojbdaiogaaMdN
set_option linter.unusedVariables false
set_option linter.unusedSimpArgs false
set_option maxRecDepth 4000
namespace Go.Proofs.Ytinfmojbdaiogaa
open Go.Gh Go.RowKit

/-- Numbers from place i on, one after the other. -/
def nencN (L : List Int) : Nat → Nat → List Int → Enc → Enc
  | 0, _, _, e => e
  | k + 1, i, t, e => nencN L k (i + 1) (nenc t e L[i]!).1 (nenc t e L[i]!).2
theorem recs_iV (l : List Int) : recs (fun z : Int => [I z]) l = l.map iV := by
  induction l with
  | nil => rfl
  | cons a r ih => rw [List.map_cons, ← ih]; rfl
end Go.Proofs.Ytinfmojbdaiogaa
