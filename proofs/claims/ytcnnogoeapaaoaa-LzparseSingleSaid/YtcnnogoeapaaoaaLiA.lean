/- Contracts of Go's library. -/
import Derived.Test.YtcnnogoeapaaoaaSlS
import Derived.Test.YtcnnogoeapaaoaaSlI
import Derived.Test.YtcnnogoeapaaoaaSheA
set_option linter.unusedVariables false
set_option linter.unusedSimpArgs false
namespace Go.Proofs.Ytcnnogoeapaaoaa
open Go.Gh Go.RowKit

theorem Repeat_any (l : List UInt8) (n : Nat) (h : SH) (hn : n ≤ 9223372036854775807) (hl : l.length * n ≤ 140737488355328) : SRun Try.prog 27 [S l, I n] h fun r q => r = S (Lib.repeatL l n) ∧ q = h :=
  srun_lib rfl rfl fun w => Try.strings_Repeat ⟨⟨l⟩⟩ n w hn hl
end Go.Proofs.Ytcnnogoeapaaoaa
