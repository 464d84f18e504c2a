/- Contracts of Go's library. -/
import Derived.Test.YtoachkpkbgpmjaaSlS
import Derived.Test.YtoachkpkbgpmjaaSlI
import Derived.Test.YtoachkpkbgpmjaaSheA
set_option linter.unusedVariables false
set_option linter.unusedSimpArgs false
namespace Go.Proofs.Ytoachkpkbgpmjaa
open Go.Gh Go.RowKit

theorem Repeat_any (l : List UInt8) (n : Nat) (h : SH) (hn : n ≤ 9223372036854775807) (hl : l.length * n ≤ 140737488355328) : SRun Try.prog 52 [S l, I n] h fun r q => r = S (Lib.repeatL l n) ∧ q = h :=
  srun_lib rfl rfl fun w => Try.strings_Repeat ⟨⟨l⟩⟩ n w hn hl
end Go.Proofs.Ytoachkpkbgpmjaa
