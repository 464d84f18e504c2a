/- slices.SortFunc of regions. -/
import Derived.Test.YtbgnoeagajokeaaSlX
import Derived.Test.YtbgnoeagajokeaaSlI
import Derived.Test.YtbgnoeagajokeaaSheA
import Derived.WalkKit
set_option linter.unusedVariables false
set_option linter.unusedSimpArgs false
namespace Go.Proofs
open Go.Shelf Go.RowKit Go.Lib Go.Sort

theorem Try.ltLo (x y : Int × Int) : ltOf (fun x y : Int × Int => Lib.compareInt x.1 y.1) x y = decide (x.1 < y.1) := by
  unfold ltOf Lib.compareInt
  by_cases h1 : x.1 < y.1
  · simp [h1]
  · by_cases h2 : y.1 < x.1 <;> simp [h1, h2]
theorem Try.swoLo : SWO (ltOf fun x y : Int × Int => Lib.compareInt x.1 y.1) where
  irrefl x := by rw [Try.ltLo]; simp
  trans x y z h1 h2 := by rw [Try.ltLo] at *; simp at *; omega
  ntrans x y z h1 h2 := by rw [Try.ltLo] at *; simp at *; omega
set_option maxHeartbeats 1000000 in
/-- The closure that compares two regions: two blocks are laid. -/
theorem Try.closure36 (x y : Int × Int) (W : World) : Calls Try.prog 36 #[.agg #[.int .i64 x.1, .int .i64 x.2], .agg #[.int .i64 y.1, .int .i64 y.2]] W fun e w' => e = .returned (.int .i64 (Lib.compareInt x.1 y.1)) ∧ ∃ q os', w' = grow (W.drewN q) os' := by
  have hcon := fun W' => AnyG.cmp_Compare_int Try.cmpInt x.1 y.1 W'
  change ∀ W', Calls Try.prog 37 _ _ _ at hcon
  generalize Lib.compareInt x.1 y.1 = r at hcon ⊢
  go_enter Try.func36, Try.ntmps36
  go_wp2_with (go_at_call 37; refine (hcon _).mono ?_; rintro e w' ⟨rfl, rfl⟩)
  go_ret
  exact ⟨rfl, 0, _, by rw [alloc_eq_grow, alloc_eq_grow, grow_grow]; rfl⟩
theorem Try.cmpLays36 (blk off size : Nat) (w : World) : CmpLays Try.prog 36 #[] Go.Gh.prF 2 (fun x y => Lib.compareInt x.1 y.1) blk off size w :=
  fun _ _ _ _ x y => Try.closure36 x y _
end Go.Proofs
namespace Go.Proofs.Ytbgnoeagajokeaa
open Go.Gh Go.RowKit

theorem SortFunc_any (L : List (Int × Int)) (A n : Nat) (h : SH) (hn : L.length = n) (hb : n ≤ 100000) :
    SRun Try.prog 35 [gsl A 0 (n * 2) n 2, .func (.func 36) ⟨[]⟩ ⟨[]⟩] ((A, ⟨recs prF L, false⟩) :: h) fun r q => ∃ L' : List (Int × Int), L'.Perm L ∧ ascL L' ∧ r = .tuple #[] ∧ q = (A, ⟨recs prF L', false⟩) :: h := by
  have eg : ∀ args w, (callFunc 36 args).run Try.prog w = .ok (.enter 36 args) w := enters_of Try.func36 (by kernel_rfl) rfl
  refine srun_sort (lt := ltOf fun x y : Int × Int => Lib.compareInt x.1 y.1) hn Try.ltLo fun w blk cap hH hblk => ?_
  have hcon := AnyQ.slices_SortFunc Try.sortIv 2 Try.isAgg25 Try.sizeOf25 prF (fun _ => rfl) (fun x v hv => by simp at hv; rcases hv with rfl | rfl <;> rfl) (fun x y => Lib.compareInt x.1 y.1) Try.swoLo 36 #[] blk 0 cap L.toArray w eg (Try.cmpLays36 blk 0 L.toArray.size w) hH hblk (by simp; omega)
  exact hcon
end Go.Proofs.Ytbgnoeagajokeaa
