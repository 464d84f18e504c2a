/- Chapter 08: EncodeNumbers. -/
import Derived.Test.YtinfmojbdaiogaaMdO
set_option linter.unusedVariables false
set_option linter.unusedSimpArgs false
set_option maxRecDepth 4000
namespace Go.Proofs.Ytinfmojbdaiogaa
open Go.Gh Go.RowKit

abbrev nOk (z : Int) : Prop := 0 ≤ z ∧ z ≤ 4611686018427387903
instance (L : List Int) : Decidable (∀ z ∈ L, nOk z) := inferInstance
/-- What EncodeNumbers gives. -/
def mEncN (L : List Int) : List UInt8 × Int := if 4096 < L.length then ([], 9) else if ∀ z ∈ L, nOk z then (if L.length = 0 then vnum 0 else vnum L.length ++ fin (nencN L L.length 0 (List.replicate 64 1024) encZ), 0) else ([], 2)
theorem ibang_mem {L : List Int} {i : Nat} (h : i < L.length) : L[i]! ∈ L := by rw [getElem!_pos L i h]; exact List.getElem_mem h
theorem all_bang {L : List Int} (h : ∀ j, j < L.length → nOk L[j]!) : ∀ z ∈ L, nOk z := by
  intro z hz
  obtain ⟨i, hi, rfl⟩ := List.mem_iff_getElem.1 hz
  have := h i hi
  rwa [getElem!_pos L i hi] at this
end Go.Proofs.Ytinfmojbdaiogaa
