/- A call of the library over a slice of strings and a string. -/
import Derived.Test.YtoachkpkbgpmjaaSlS
set_option linter.unusedVariables false
set_option linter.unusedSimpArgs false
namespace Go.Gh
open Go.RowKit

theorem srun_strs {P : Program} {f : FuncId} {A n fl : Nat} {L : List (List UInt8)} {ro : Bool} {y v : Value} {h h1 : SH} (hn : L.length = n) (hp : Pick h A ⟨L.map (fun s => S s), ro⟩ h1) (hy : constOk y = true) (hv : constOk v = true)
    (k : ∀ (w : World) (bk o c : Nat), (∀ (j : Nat) x, (L.map fun s => (⟨⟨s⟩⟩ : ByteArray))[j]? = some x → w.cell? ⟨bk, o + j, none⟩ = some (.string x)) → bk < w.heap.size → n ≤ c →
      Calls P f #[.slice (some ⟨bk, o, none⟩) n c, y] w fun e w' => e = .returned v ∧ Below w.heap.size w w') : SRun P f [gsl A 0 n n fl, y] h fun r q => r = v ∧ q = h := by
  unfold SRun
  intro H i
  unfold Run
  intro B0 w0 φs Ls φ w vs he hr hvs
  have hA := i.look hp
  obtain ⟨hs, hg⟩ := hvs
  obtain ⟨u0, g0, e0⟩ := hg 0 _ rfl
  obtain ⟨u1, g1, e1⟩ := hg 1 _ rfl
  have hu := Val.det hy e1
  rw [hu] at g1
  have hlen : lens H A = some n := by unfold lens; rw [hA]; simp [hn]
  cases e0 with
  | slc _ _ _ m _ _ cap c hL hvn hc hm hx =>
    rw [hlen] at hL
    cases hL
    obtain ⟨rfl, _, hmp⟩ := hx rfl
    have hvs : vs = #[.slice (some ⟨(φ A).b, (φ A).base + 0, none⟩) n cap, y] := by
      refine Array.ext (by simpa using hs) fun j h1 h2 => ?_
      match j, h2 with
      | 0, _ => rw [Array.getElem?_eq_getElem (by omega)] at g0; exact Option.some.inj g0
      | 1, _ => rw [Array.getElem?_eq_getElem (by omega)] at g1; exact Option.some.inj g1
    rw [hvs]
    obtain ⟨us, q1, q2⟩ := cells_rel hr hA hmp 0 (vs := L.map fun s => S s) (fun j u hj => by rw [Nat.zero_add]; exact hj)
    have hcell : ∀ (j : Nat) x, (L.map fun s => (⟨⟨s⟩⟩ : ByteArray))[j]? = some x → w.cell? ⟨(φ A).b, (φ A).base + 0 + j, none⟩ = some (.string x) := fun j x hj => by
      rw [List.getElem?_map] at hj
      cases hs : L[j]? with
      | none => rw [hs] at hj; cases hj
      | some s =>
        rw [hs] at hj
        obtain rfl : (⟨⟨s⟩⟩ : ByteArray) = x := Option.some.inj hj
        obtain ⟨u, k1, k2⟩ := q1.get j (S s) (by rw [List.getElem?_map, hs]; rfl)
        have hu := Val.det rfl k2
        subst hu
        have := q2 j (S s) (by simpa using k1)
        rwa [addr_add] at this
    refine (k w _ _ cap hcell (hr.lt hA) hc).mono ?_
    rintro e w' ⟨rfl, hb⟩
    exact ⟨φ, v, H, v, he, hr.later hb, rfl, Val.const hv, h, ⟨rfl, rfl⟩, i⟩
end Go.Gh
