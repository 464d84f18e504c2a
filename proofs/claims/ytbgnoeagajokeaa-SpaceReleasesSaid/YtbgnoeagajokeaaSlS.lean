/- Contracts of the kit's shelf over scalars, as contracts over the ghost heap. -/
import Derived.Test.YtbgnoeagajokeaaSlE
set_option linter.unusedVariables false
set_option linter.unusedSimpArgs false
namespace Go.Gh
open Go.RowKit

theorem vrel_det {φ : Nat → Loc} {L : Lens} {as : List Value} {vs : Array Value} (hc : as.all constOk = true) (h : VRel φ L as vs) : vs = as.toArray := by
  obtain ⟨hs, hg⟩ := h
  refine Array.ext (by simpa using hs) fun i hi hi' => ?_
  have hl : i < as.length := by simpa using hi'
  obtain ⟨v, g1, g2⟩ := hg i as[i] (by simp [hl])
  have := Val.det ((List.all_eq_true.1 hc) as[i] (List.getElem_mem hl)) g2
  rw [Array.getElem?_eq_getElem hi] at g1
  simp only [Option.some.injEq] at g1
  rw [g1, this]; simp
/-- A call that hands back a value without addresses and makes new blocks alone. -/
theorem srun_lib {P : Program} {f : FuncId} {as : List Value} {v : Value} {h : SH} (hc : as.all constOk = true) (hv : constOk v = true)
    (k : ∀ w : World, Calls P f as.toArray w fun e w' => e = .returned v ∧ Below w.heap.size w w') : SRun P f as h fun r q => r = v ∧ q = h := by
  unfold SRun
  intro H i
  unfold Run
  intro B0 w0 φs Ls φ w vs he hr hvs
  rw [vrel_det hc hvs]
  refine (k w).mono ?_
  rintro e w' ⟨rfl, hb⟩
  exact ⟨φ, v, H, v, he, hr.later hb, rfl, Val.const hv, h, ⟨rfl, rfl⟩, i⟩
end Go.Gh
