/- strings.Join with nothing between. -/
import Derived.Test.YtoachkpkbgpmjaaSlJ
import Derived.Test.YtoachkpkbgpmjaaLiA
set_option linter.unusedVariables false
set_option linter.unusedSimpArgs false
namespace Go.Proofs.Ytoachkpkbgpmjaa
open Go.Gh Go.RowKit

theorem join_flat (L : List (List UInt8)) : Lib.join L [] = L.flatten := by
  cases L with
  | nil => rfl
  | cons a r => rw [Lib.join_cons, Lib.joinTail]; simp
theorem Join_any (L : List (List UInt8)) (v : Value) (h : SH) (hv : Has h (L.map fun s => S s) 1 L.length v) (h1 : 1 ≤ L.length) (hn : L.length ≤ 140737488355328) (hl : L.flatten.length ≤ 140737488355328) :
    SRun Try.prog 70 [v, S []] h fun r q => r = S L.flatten ∧ q = h := by
  obtain ⟨ad, fl, rfl, hh⟩ := hv
  obtain ⟨A, ro, h2, rfl, hp⟩ := hh (by omega)
  rw [Nat.one_mul]
  refine srun_strs rfl hp rfl rfl fun w bk o c hc hb hcap => ?_
  have e : ((L.map fun s => (⟨⟨s⟩⟩ : ByteArray)).map (·.data.toList)) = L := by rw [List.map_map]; simp [Function.comp_def]
  have := Try.strings_Join bk o c (L.map fun s => (⟨⟨s⟩⟩ : ByteArray)) ⟨#[]⟩ w hc hb (by rw [List.length_map]; exact hn) (by rw [List.length_map]; exact hcap) (by rw [e, join_flat]; exact hl)
  rw [e, join_flat, List.length_map] at this
  exact this
end Go.Proofs.Ytoachkpkbgpmjaa
