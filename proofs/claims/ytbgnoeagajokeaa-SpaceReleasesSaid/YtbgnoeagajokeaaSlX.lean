/- slices.SortFunc over a slice of pairs of numbers, as a contract over the ghost heap. -/
import Derived.Shelf.SlSortCmp.WholeK
import Derived.Test.YtbgnoeagajokeaaSlS
import Derived.Test.YtbgnoeagajokeaaSlL
set_option linter.unusedVariables false
set_option linter.unusedSimpArgs false
namespace Go.Gh
open Go.RowKit Go.Proofs Go.Sort

theorem flat_pr (L : List (Int × Int)) (j : Nat) (hj : j < L.length * 2) : (recs prF L)[j]? = some ((flatK prF 2 L.toArray)[j]!) := by
  have h1 := recs_get (f := prF) (l := L) (w := 2) (fun _ => rfl) (i := j / 2) (j := j % 2) (by omega) (by omega)
  rw [show j / 2 * 2 + j % 2 = j by omega] at h1
  rw [h1, get_flatK prF 2 L.toArray j (by simpa using hj)]
  have e : L.toArray[j / 2]! = L[j / 2]! := by simp
  rw [e]
  rcases (show j % 2 = 0 ∨ j % 2 = 1 by omega) with g | g <;> rw [g] <;> rfl
theorem srun_sort {P : Program} {f g : FuncId} {A n : Nat} {L : List (Int × Int)} {lt : Int × Int → Int × Int → Bool} {h : SH} (hn : L.length = n) (hlt : ∀ x y, lt x y = decide (x.1 < y.1))
    (k : ∀ (w : World) (blk cap : Nat), HoldsK prF 2 w blk 0 L.toArray → blk < w.heap.size → Calls P f #[.slice (some ⟨blk, 0, none⟩) L.toArray.size cap, .func (.func g) #[] #[]] w fun e w' =>
      e = .returned (.tuple #[]) ∧ ∃ d' m os, Sort.PermIn 0 L.toArray.size L.toArray d' ∧ Sort.SortedIn lt 0 L.toArray.size d' ∧ w' = sortWorldK prF 2 w blk 0 m d' os) :
    SRun P f [gsl A 0 (n * 2) n 2, .func (.func g) ⟨[]⟩ ⟨[]⟩] ((A, ⟨recs prF L, false⟩) :: h) fun r q => ∃ L' : List (Int × Int), L'.Perm L ∧ ascL L' ∧ r = .tuple #[] ∧ q = (A, ⟨recs prF L', false⟩) :: h := by
  unfold SRun
  intro H i
  unfold Run
  intro B0 w0 φs Ls φ w vs he hr hvs
  have hA := i.look .head
  have hcl : (recs prF L).length = n * 2 := by rw [recs_len (f := prF) (w := 2) (fun _ => rfl), hn]
  obtain ⟨hs, hg⟩ := hvs
  obtain ⟨u0, g0, e0⟩ := hg 0 _ rfl
  obtain ⟨u1, g1, e1⟩ := hg 1 _ rfl
  have hu : u1 = .func (.func g) #[] #[] := by
    cases e1 with
    | func _ _ b _ d q1 q2 q3 q4 =>
      have h1 : b = #[] := Array.eq_empty_of_size_eq_zero (by simpa using q1.symm)
      have h2 : d = #[] := Array.eq_empty_of_size_eq_zero (by simpa using q3.symm)
      rw [h1, h2]
  rw [hu] at g1
  have hlen : lens H A = some (n * 2) := by unfold lens; rw [hA]; simp [hcl]
  cases e0 with
  | slc _ _ _ m _ _ cap c hL hvn hc hm hx =>
    rw [hlen] at hL
    cases hL
    obtain ⟨rfl, _, hmp⟩ := hx rfl
    obtain ⟨hB0, hbase⟩ := hr.own A _ hA rfl
    rw [hbase] at g0
    have hvs : vs = #[.slice (some ⟨(φ A).b, 0, none⟩) L.toArray.size cap, .func (.func g) #[] #[]] := by
      refine Array.ext (by simpa using hs) fun j h1 h2 => ?_
      match j, h2 with
      | 0, _ => rw [Array.getElem?_eq_getElem (by omega)] at g0; rw [Option.some.inj g0]; simp [hn]
      | 1, _ => rw [Array.getElem?_eq_getElem (by omega)] at g1; exact Option.some.inj g1
    rw [hvs]
    obtain ⟨c, T, fz, q1, q2, q3, q4, q5⟩ := (hr.blk A _ hA).ex hmp
    rw [hbase, Nat.zero_add] at q3
    have hcell : ∀ j, j < L.length * 2 → c[j]? = some ((flatK prF 2 L.toArray)[j]!) := fun j hj => by
      have hf := flat_pr L j hj
      obtain ⟨v', k1, k2⟩ := q5 j _ hf
      rw [hbase, Nat.zero_add] at k1
      have hcv : constOk ((flatK prF 2 L.toArray)[j]!) = true := by
        rw [get_flatK prF 2 L.toArray j (by simpa using hj)]
        rcases (show j % 2 = 0 ∨ j % 2 = 1 by omega) with g | g <;> rw [g] <;> rfl
      rw [k1, Val.det hcv k2]
    have hH : HoldsK prF 2 w (φ A).b 0 L.toArray := fun j hj => by
      rw [size_flatK] at hj
      have hj' : j < L.length * 2 := by simpa using hj
      refine ⟨?_, ?_⟩
      · unfold World.cell?
        rw [q1]
        simp only [Nat.zero_add]
        exact hcell j hj'
      · unfold World.frozen?
        rw [q1]
        have := q4 rfl j (by simp only at q3; omega)
        simp only [Nat.zero_add, Bool.and_eq_false_iff, decide_eq_false_iff_not]
        omega
    refine (k w (φ A).b cap hH (hr.lt hA)).mono ?_
    rintro e w' ⟨rfl, d', mm, os, hp, hsrt, rfl⟩
    obtain ⟨p1, p2, p3⟩ := hp
    have hsz : d'.toList.length = L.length := by simpa using p1
    have hperm : d'.toList.Perm L := by
      have e1 : (d'.extract 0 L.toArray.size).toList = d'.toList := by
        rw [← p1]; simp
      have e2 : (L.toArray.extract 0 L.toArray.size).toList = L := by simp
      rw [e1, e2] at p3
      exact p3
    have hasc : ascL d'.toList := fun a b hab hb => by
      have := hsrt a b (Nat.zero_le _) hab (by simpa [← p1] using hb)
      rw [hlt] at this
      have h2 := of_decide_eq_false this
      simp only [Array.getElem!_toList] at *
      omega
    have hlt0 := hr.lt hA
    have hheap : (sortWorldK prF 2 w (φ A).b 0 mm d' os).heap = (w.heap.modify (φ A).b (onCells (putCells id 0 (flatK prF 2 d')))) ++ os := rfl
    have hnew : (sortWorldK prF 2 w (φ A).b 0 mm d' os).heap[(φ A).b]? = some (.cells (putCells id 0 (flatK prF 2 d') c) T fz) := by
      rw [hheap, Array.getElem?_append_left (by simpa using hlt0), Array.getElem?_modify, if_pos rfl, q1]
      rfl
    have hps : (putCells id 0 (flatK prF 2 d') c).size = c.size := by simp [putCells]
    obtain ⟨x1, x2⟩ := rel_setO (w' := sortWorldK prF 2 w (φ A).b 0 mm d' os) (g' := ⟨recs prF d'.toList, false⟩) (l' := φ A) hr hA rfl rfl rfl rfl
      (by rw [hheap]; simp)
      (fun q hq hne => by
        rw [hheap, Array.getElem?_append_left (by simpa using hq), Array.getElem?_modify, if_neg (fun e => hne e.symm)])
      (.inl rfl) hbase (.inl ⟨by simp only [recs_len (f := prF) (w := 2) (fun _ => rfl), hsz], rfl⟩)
      (fun hext => by
        refine ⟨_, _, hnew, .cells hmp (by rw [hps]; exact q2) (fun _ => by rw [hps]; exact q4 rfl), ?_, fun j v hj => ?_⟩
        · rw [hbase, hps]; simp only [recs_len (f := prF) (w := 2) (fun _ => rfl), hsz] at q3 ⊢; omega
        · have hj2 := (List.getElem?_eq_some_iff.1 hj).1
          rw [recs_len (f := prF) (w := 2) (fun _ => rfl), hsz] at hj2
          have hf := flat_pr d'.toList j (by omega)
          rw [hf] at hj
          obtain rfl := Option.some.inj hj
          have hcv : constOk ((flatK prF 2 d'.toList.toArray)[j]!) = true := by
            have hd : d'.toList.toArray.size = L.length := by simpa using p1
            rw [get_flatK prF 2 d'.toList.toArray j (by rw [hd]; exact hj2)]
            rcases (show j % 2 = 0 ∨ j % 2 = 1 by omega) with g | g <;> rw [g] <;> rfl
          refine ⟨_, ?_, Val.const hcv⟩
          rw [hbase, Nat.zero_add]
          unfold putCells
          rw [Array.getElem?_mapIdx, hcell j (by omega)]
          simp only [Option.map_some, Nat.zero_le, Nat.zero_add, true_and, Nat.sub_zero, id]
          rw [if_pos (by rw [size_flatK]; have : d'.size = L.length := by simpa using p1
                         omega)])
    have hupd : upd φ A (φ A) = φ := by funext B; unfold upd; split <;> simp_all
    rw [hupd] at x1 x2
    refine ⟨φ, .tuple #[], _, .tuple #[], he.trans x1, x2, rfl, Val.const rfl, (A, ⟨recs prF d'.toList, false⟩) :: h, ⟨d'.toList, hperm, hasc, rfl, rfl⟩, i.upd .head⟩
end Go.Gh
