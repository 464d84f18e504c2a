/- Part 8 of the proof of the law Lz77Others: texts merged. No condition. -/
import Derived.Test.YtgooffiipnkmiaaZLz77OthersG
import Derived.ProofKit
import Derived.Deep.Slices
section
set_option linter.unusedVariables false
set_option linter.unusedSimpArgs false
set_option maxRecDepth 4000
namespace Go.Proofs.Ytgooffiipnkmiaa
open Go.Gh Go.RowKit

def key2 (l : List UInt8) (i : Nat) : List UInt8 := (l.take (i + 2)).drop i
theorem lcp_key {l : List UInt8} {i j m : Nat} (hi : i + 2 ≤ l.length) (hj : j < i) (h : 2 ≤ lcp l j i m) : key2 l j = key2 l i := by
  have hb : ∀ a b : Nat, a < l.length → b < l.length → bat l (a : Int) = bat l (b : Int) → l[a]? = l[b]? := fun a b ha hb e => by
    unfold bat at e
    rw [Int.toNat_natCast, Int.toNat_natCast, List.getD_eq_getElem?_getD, List.getD_eq_getElem?_getD, List.getElem?_eq_getElem ha, List.getElem?_eq_getElem hb] at e
    rw [List.getElem?_eq_getElem ha, List.getElem?_eq_getElem hb]
    simp only [Option.getD_some] at e
    congr 1
    exact UInt8.toNat_inj.1 (by omega)
  cases m with
  | zero => unfold lcp at h; omega
  | succ m =>
    unfold lcp at h
    split at h
    · rename_i e0
      cases m with
      | zero => unfold lcp at h; omega
      | succ m =>
        unfold lcp at h
        split at h
        · rename_i e1
          refine List.ext_getElem? fun q => ?_
          unfold key2
          rw [List.getElem?_drop, List.getElem?_drop, List.getElem?_take, List.getElem?_take]
          match q with
          | 0 => rw [if_pos (by omega), if_pos (by omega)]; exact hb _ _ (by omega) (by omega) e0
          | 1 => rw [if_pos (by omega), if_pos (by omega)]; exact hb _ _ (by omega) (by omega) e1
          | q + 2 => rw [if_neg (by omega), if_neg (by omega)]
        · omega
    · omega
theorem brun_stop {l : List UInt8} {i : Nat} {w : Int} {m n : Nat} {s : BS} (h : ¬ bgo i w m n s) : ∀ {js : List Nat}, (∀ j ∈ js, j ≤ n) → brun l i w m js s = s
  | [], _ => rfl
  | j :: r, hj => by
    have h1 : ¬ bgo i w m j s := by
      have := hj j List.mem_cons_self
      unfold bgo at *
      omega
    unfold brun
    rw [if_neg h1]
theorem down_mem : ∀ {n j : Nat}, j ∈ down n ↔ j < n
  | 0, j => by simp [down]
  | n + 1, j => by rw [down, List.mem_cons, down_mem]; omega
theorem brun_filter {l : List UInt8} {i : Nat} {w : Int} {m : Nat} {p : Nat → Bool} : ∀ {n : Nat} {s : BS}, 1 ≤ s.1 → (∀ j, j < n → p j = false → lcp l j i m ≤ 1) → brun l i w m ((down n).filter p) s = brun l i w m (down n) s
  | 0, s, _, _ => rfl
  | n + 1, s, h1, h2 => by
    have hup : 1 ≤ (bup l i m n s).1 := by
      unfold bup
      split
      · dsimp only; omega
      · exact h1
    rw [down]
    cases hp : p n with
    | true =>
      rw [List.filter_cons_of_pos (by simp [hp])]
      unfold brun
      split
      · exact brun_filter hup (fun j hj => h2 j (by omega))
      · rfl
    | false =>
      rw [List.filter_cons_of_neg (by simp [hp]), brun_filter h1 (fun j hj => h2 j (by omega))]
      have hl := h2 n (by omega) hp
      have hb : bup l i m n s = s := by unfold bup; rw [if_neg (by omega)]
      conv => rhs; unfold brun
      split
      · rw [hb]
      · rename_i hg
        exact brun_stop hg fun j hj => by have := down_mem.1 hj; omega
theorem bfind_key {l : List UInt8} {i : Nat} {w m : Int} (hi : i + 2 ≤ l.length) : bfind l i w m ((down i).filter fun p => decide (key2 l p = key2 l i)) = bfind l i w m (down i) := by
  unfold bfind
  rw [brun_filter (Nat.le_refl _)]
  intro j hj hp
  have : ¬ key2 l j = key2 l i := by simpa using hp
  have := mt (lcp_key (m := (min m ((l.length : Int) - i)).toNat) hi hj) this
  omega
/-- Places of keys: the block and what is in it. -/
abbrev Ks := List (List UInt8 × Nat × List Nat)
abbrev psV (A : Nat) (ps : List Nat) : Value := gsl A 0 ps.length ps.length 1
abbrev psB (ps : List Nat) : Blk := ⟨ps.map (fun p : Nat => I (p : Int)), false⟩
def kv (e : List UInt8 × Nat × List Nat) : List UInt8 × Value := (e.1, psV e.2.1 e.2.2)
def kb2 (ks : Ks) : SH := ks.map fun e => (e.2.1, psB e.2.2)
def posOf : Ks → List UInt8 → List Nat
  | [], _ => []
  | e :: r, k => if e.1 = k then e.2.2 else posOf r k
theorem ks_find : ∀ (ks : Ks) (k : List UInt8), (mget (ks.map kv) k = none ∧ posOf ks k = [] ∧ (∀ x, mput (ks.map kv) k x = ks.map kv ++ [(k, x)]) ∧ ∀ A ps k', posOf (ks ++ [(k, A, ps)]) k' = if k' = k then ps else posOf ks k') ∨
    ∃ k1 A ps k2, ks = k1 ++ (k, A, ps) :: k2 ∧ mget (ks.map kv) k = some (psV A ps) ∧ posOf ks k = ps ∧ (∀ x, mput (ks.map kv) k x = k1.map kv ++ (k, x) :: k2.map kv) ∧ ∀ A' ps' k', posOf (k1 ++ (k, A', ps') :: k2) k' = if k' = k then ps' else posOf ks k'
  | [], k => .inl ⟨rfl, rfl, fun _ => rfl, fun A ps k' => by
      show (if k = k' then ps else []) = if k' = k then ps else []
      by_cases e : k' = k
      · rw [if_pos e, if_pos e.symm]
      · rw [if_neg e, if_neg (Ne.symm e)]⟩
  | (b, A, ps) :: r, k => by
    by_cases e : b = k
    · subst e
      refine .inr ⟨[], A, ps, r, rfl, by simp [mget, kv], by simp [posOf], fun x => by simp [mput, kv], fun A' ps' k' => ?_⟩
      show (if b = k' then ps' else posOf r k') = if k' = b then ps' else (if b = k' then ps else posOf r k')
      by_cases e : k' = b
      · rw [if_pos e, if_pos e.symm]
      · rw [if_neg e, if_neg (Ne.symm e), if_neg (Ne.symm e)]
    · rcases ks_find r k with ⟨h1, h2, h3, h4⟩ | ⟨k1, A', ps', k2, h1, h2, h3, h4, h5⟩
      · refine .inl ⟨by simp [mget, kv, e]; exact h1, by simp [posOf, e, h2], fun x => by simp [mput, kv, e]; exact h3 x, fun A' ps' k' => ?_⟩
        show (if b = k' then ps else posOf (r ++ [(k, A', ps')]) k') = if k' = k then ps' else (if b = k' then ps else posOf r k')
        rw [h4]
        by_cases e2 : b = k'
        · subst e2; rw [if_pos rfl, if_neg e, if_pos rfl]
        · rw [if_neg e2, if_neg e2]
      · refine .inr ⟨(b, A, ps) :: k1, A', ps', k2, by rw [h1]; rfl, by simp [mget, kv, e]; exact h2, by simp [posOf, e, h3], fun x => by simp [mput, kv, e]; exact h4 x, fun A2 ps2 k' => ?_⟩
        show (if b = k' then ps else posOf (k1 ++ (k, A2, ps2) :: k2) k') = if k' = k then ps2 else (if b = k' then ps else posOf r k')
        rw [h5]
        by_cases e2 : b = k'
        · subst e2; rw [if_pos rfl, if_neg e, if_pos rfl]
        · rw [if_neg e2, if_neg e2]
/-- The places that were seen before i. -/
def KsOk (l : List UInt8) (i : Nat) (ks : Ks) : Prop := ∀ k, posOf ks k = (List.range i).filter fun p => decide (key2 l p = k)
theorem range_succ_filter (p : Nat → Bool) (i : Nat) : (List.range (i + 1)).filter p = (List.range i).filter p ++ if p i then [i] else [] := by
  rw [List.range_succ, List.filter_append]
  congr 1
  by_cases h : p i <;> simp [h]
theorem range_rev : ∀ n : Nat, (List.range n).reverse = down n
  | 0 => rfl
  | n + 1 => by rw [List.range_succ, List.reverse_append, range_rev n]; rfl
/-- The table. -/
def tbl (l : List UInt8) (w m : Int) : List (Int × Int) := (List.range l.length).map fun i => lastc (cands l (i : Nat) w m)
theorem tbl_len (l : List UInt8) (w m : Int) : (tbl l w m).length = l.length := by simp [tbl]
theorem cands_end {l : List UInt8} {i : Nat} {w m : Int} (hi : l.length < i + 2) : cands l i w m = [] := by
  rw [cands_eq]
  unfold rcands
  split
  · rename_i hv
    cases hr : (rc l i m (min w (i : Int)).toNat).1 with
    | nil => rfl
    | cons a r =>
      obtain ⟨d, h1, h2, h3, h4, _⟩ := rc_mem l i m (by omega) _ a (by rw [hr]; exact List.mem_cons_self)
      have := atd_eq l i d m h1 (by omega) (by omega) (by omega)
      have h5 := lcp_le l (min m ((l.length : Int) - i)).toNat (i - d) i
      rw [h3] at h4; dsimp only at h4
      split at this <;> omega
  · rfl
theorem tbl_get {l : List UInt8} {w m : Int} {i : Nat} (h : i < l.length) : (tbl l w m)[i]! = lastc (rcands l (i : Nat) w m) := by
  rw [getElem!_pos _ i (by rw [tbl_len]; exact h)]
  unfold tbl
  rw [List.getElem_map, List.getElem_range, cands_eq]
abbrev BF (n5 n6 n7 n8 n11 n12 : Nat) : Value := .func (.func 119) ⟨[]⟩ ⟨[gptr n6 0 1, gptr n7 0 1, gptr n12 0 1, gptr n8 0 1, gptr n5 0 1, gptr n11 0 1]⟩
theorem Table1_any (l : List UInt8) (i : Nat) (w : Int) (m n5 n6 n7 n8 n11 n12 n : Nat) (v : Value) (ps : List Nat) (h : SH) (s : BS) (p : SH) (hv : Has h (ps.map fun p : Nat => I (p : Int)) 1 ps.length v) (hb : BH l i w m n5 n6 n7 n8 n11 n12 ((n, ⟨[v], false⟩) :: h) s p)
    (h5 : l.length ≤ 4096) (hi : i ≤ 4096) (him : i + m ≤ l.length) (hs : s.2.length = 0) (hw : -4611686018427387904 ≤ w) (hps : ∀ p ∈ ps, p < i) (hpl : ps.length ≤ i) :
    SRun Try.prog 88 [BF n5 n6 n7 n8 n11 n12, gptr n 0 1] p
      fun r q => BH l i w m n5 n6 n7 n8 n11 n12 ((n, ⟨[v], false⟩) :: h) (brun l i w m ps.reverse s) q := by
  obtain ⟨ad, fl, rfl, hh⟩ := hv
  refine w_body2 Try.func88 rfl rfl ?_
  obtain ⟨p1, hp1⟩ := hb.pick Pick.head
  repeat' (first | apply w_seq | apply w_region | apply o_nil | (apply o_g tyOk; exact rfl; exact rfl) | (apply o_ar tyOk; exact rfl; exact rfl) | (apply o_load tyOk; (iterate 3 exact rfl); (focus (exact pk))) | apply thenS_normal | apply w_block | ((with_reducible apply Sd.mk); (first | exact True.intro | omega | (constructor <;> first | omega | (unfold maxLen; omega)) | (unfold maxLen; omega))) | ((with_reducible apply Ln.mk); (first | rfl | exact ‹_› | omega | (simp ; first | done | omega))) | ((with_reducible apply Wr.mk); (first | exact IntWalk.i64_in _ (by omega) | exact IntWalk.u8_in _ (by omega) | exact IntWalk.u32_in _ (by omega) | exact IntWalk.u64_in _ (by omega) | exact IntKind.wrap_u8 _ | exact IntKind.wrap_u32 _ | rfl)) | ((with_reducible apply Ce.mk); (first | rfl | exact ‹_› | exact cell_recZ (fun _ => rfl) (by omega) (by decide) rfl | exact cell_rec (fun _ => rfl) (by omega) (by decide) rfl | exact cell_bytes (by omega) | exact cell_mapZ (by omega) | exact cell_map (by omega))) | exact True.intro | exact rfl)
  refine w_loop (S := Nat × BS × SH) (fun x => [(0, BF n5 n6 n7 n8 n11 n12), (1, gptr n 0 1), (3, I (x.1 - 1))]) (fun x => x.2.2)
    (fun x => x.1 ≤ ps.length ∧ BH l i w m n5 n6 n7 n8 n11 n12 ((n, ⟨[.slice ad ps.length fl], false⟩) :: h) x.2.1 x.2.2 ∧ brun l i w m ps.reverse s = brun l i w m (ps.take x.1).reverse x.2.1 ∧ x.2.1.2.length + x.1 ≤ 4096) (fun x => x.1) (ps.length, s, p)
    ⟨Nat.le_refl _, hb, by rw [List.take_length], by show s.2.length + ps.length ≤ _; omega⟩ (by repeat' (first | exact trivial | refine ⟨rfl, ?_⟩ | refine ⟨congrArg some ?_, ?_⟩)) (by repeat (first | with_reducible exact Take.nil | with_reducible apply Take.c | ((with_reducible apply Take.cE); (first | exact rfl | (apply blkE; (focus (first | exact rfl | exact recs_snocE rfl | exact map_snocE rfl | exact congrArg (fun v => [v]) (gslE rfl rfl (by first | rfl | exact ‹_› | omega | (simp ; first | done | omega)) (by first | rfl | exact ‹_› | omega | (simp ; first | done | omega)) rfl)))))) | with_reducible apply Take.drop)) ?_
  rintro ⟨k, s1, p2⟩ ⟨hk, hb1, he, hl⟩
  dsimp only at hk hb1 he hl ⊢
  cases k with
  | zero =>
    repeat' (first | apply w_seq | apply w_region | apply o_nil | (apply o_g tyOk; exact rfl; exact rfl) | (apply o_skip; iterate 4 exact rfl) | (apply w_false; exact rfl) | apply thenS_normal | apply thenS_exit | apply blockS_exit | apply w_exit | ((with_reducible apply Sd.mk); (first | exact True.intro | omega | (constructor <;> first | omega | (unfold maxLen; omega)) | (unfold maxLen; omega))))
    (apply s_finN; (exact (show ResS _ _ _ _ [] from trivial)); (focus (rw [he]; exact hb1)); (focus (repeat (first | with_reducible exact Take.nil | with_reducible apply Take.c | ((with_reducible apply Take.cE); (first | exact rfl | (apply blkE; (focus (first | exact rfl | exact recs_snocE rfl | exact map_snocE rfl | exact congrArg (fun v => [v]) (gslE rfl rfl (by first | rfl | exact ‹_› | omega | (simp ; first | done | omega)) (by first | rfl | exact ‹_› | omega | (simp ; first | done | omega)) rfl)))))) | with_reducible apply Take.drop))))
  | succ q =>
    rw [show ((q + 1 : Nat) : Int) - 1 = (q : Int) by omega]
    have hql : q < ps.length := by omega
    have hpq := hps ps[q]! (by rw [getElem!_pos ps q hql]; exact List.getElem_mem hql)
    have e1 : (ps.take (q + 1)).reverse = ps[q]! :: (ps.take q).reverse := by rw [List.take_succ_eq_append_getElem hql, getElem!_pos ps q hql, List.reverse_append]; rfl
    obtain ⟨A', ro, h1, rfl, hp⟩ := hh (by omega)
    obtain ⟨p3, hp3⟩ := hb1.pick Pick.head
    obtain ⟨p4, hp4⟩ := hb1.pick hp.tail
    repeat' (first | apply w_seq | apply w_region | apply o_nil | (apply o_g tyOk; exact rfl; exact rfl) | (apply o_ar tyOk; exact rfl; exact rfl) | (apply o_load tyOk; (iterate 3 exact rfl); (focus (exact pk))) | (apply o_call; exact rfl; exact rfl; (focus (first | exact rfl | assumption)); exact rfl; (focus (exact ⟨_, better1_any l i w m n5 n6 n7 n8 n11 n12 ps[q]! _ s1 p2 hb1 h5 (by omega) him (by omega) hw, by repeat (first | with_reducible exact Take.nil | with_reducible apply Take.c | with_reducible apply Take.drop)⟩)); rintro _ _ ⟨rfl, hb2⟩) | (apply o_want; exact rfl; exact rfl) | (apply w_ifN; exact rfl; all_goals intro hc) | apply thenS_normal | apply thenS_exit | apply blockS_normal | apply blockS_exit | apply w_skip | apply w_exit | apply w_block | ((with_reducible apply Sd.mk); (first | exact True.intro | omega | (constructor <;> first | omega | (unfold maxLen; omega)) | (unfold maxLen; omega))) | ((with_reducible apply Ln.mk); (first | rfl | exact ‹_› | omega | (simp ; first | done | omega))) | ((with_reducible apply Wr.mk); (first | exact IntWalk.i64_in _ (by omega) | exact IntWalk.u8_in _ (by omega) | exact IntWalk.u32_in _ (by omega) | exact IntWalk.u64_in _ (by omega) | exact IntKind.wrap_u8 _ | exact IntKind.wrap_u32 _ | rfl)) | ((with_reducible apply Ce.mk); (first | rfl | exact ‹_› | exact cell_recZ (fun _ => rfl) (by omega) (by decide) rfl | exact cell_rec (fun _ => rfl) (by omega) (by decide) rfl | exact cell_bytes (by omega) | exact cell_mapZ (by omega) | exact cell_map (by omega))) | exact True.intro | exact rfl)
    · have hg : bgo i w m ps[q]! s1 := hc
      refine ⟨(q, bup l i m ps[q]! s1, _), ⟨by show q ≤ ps.length; omega, by rw [← show nbst l i w m ps[q]! s1 = bup l i m ps[q]! s1 from if_pos hg]; exact hb2, ?_, ?_⟩, by show q < q + 1; omega, (by repeat' (first | exact trivial | refine ⟨rfl, ?_⟩ | refine ⟨congrArg some ?_, ?_⟩)), (by repeat (first | with_reducible exact Take.nil | with_reducible apply Take.c | ((with_reducible apply Take.cE); (first | exact rfl | (apply blkE; (focus (first | exact rfl | exact recs_snocE rfl | exact map_snocE rfl | exact congrArg (fun v => [v]) (gslE rfl rfl (by first | rfl | exact ‹_› | omega | (simp ; first | done | omega)) (by first | rfl | exact ‹_› | omega | (simp ; first | done | omega)) rfl)))))) | with_reducible apply Take.drop))⟩
      · rw [he, e1]; exact if_pos hg
      · have h2 : (bup l i m ps[q]! s1).2.length ≤ s1.2.length + 1 := by unfold bup; split <;> simp
        show (bup l i m ps[q]! s1).2.length + q ≤ 4096; omega
    · have hg : ¬ bgo i w m ps[q]! s1 := fun h => h hc
      (apply s_finN; (exact (show ResS _ _ _ _ [] from trivial)); (focus (rw [he, e1, show brun l i w m (ps[q]! :: (ps.take q).reverse) s1 = s1 from if_neg hg, ← bst_stop hg]; exact hb2)); (focus (repeat (first | with_reducible exact Take.nil | with_reducible apply Take.c | ((with_reducible apply Take.cE); (first | exact rfl | (apply blkE; (focus (first | exact rfl | exact recs_snocE rfl | exact map_snocE rfl | exact congrArg (fun v => [v]) (gslE rfl rfl (by first | rfl | exact ‹_› | omega | (simp ; first | done | omega)) (by first | rfl | exact ‹_› | omega | (simp ; first | done | omega)) rfl)))))) | with_reducible apply Take.drop))))
/-- The table as far as it is filled. -/
def tblTo (l : List UInt8) (w m : Int) (i : Nat) : List (Int × Int) := (List.range l.length).map fun j => if j < i then lastc (cands l (j : Nat) w m) else (0, 0)
theorem tblTo_len (l : List UInt8) (w m : Int) (i : Nat) : (tblTo l w m i).length = l.length := by simp [tblTo]
theorem tblTo_all {l : List UInt8} {w m : Int} {i : Nat} (h : l.length < i + 2) : tblTo l w m i = tbl l w m := by
  unfold tblTo tbl
  refine List.map_congr_left fun j hj => ?_
  split
  · rfl
  · rw [cands_end (by omega)]; rfl
theorem tblTo_succ {l : List UInt8} {w m : Int} {i : Nat} (h : i < l.length) : tblTo l w m (i + 1) = (tblTo l w m i).set i (lastc (cands l (i : Nat) w m)) := by
  refine List.ext_getElem? fun j => ?_
  rw [List.getElem?_set]
  unfold tblTo
  simp only [List.getElem?_map, List.getElem?_range', List.length_map, List.length_range]
  by_cases hj : j < l.length
  · rw [List.getElem?_range hj]
    simp only [Option.map_some]
    by_cases e : i = j
    · subst e; rw [if_pos rfl, if_pos h, if_pos (by omega)]
    · rw [if_neg e]
      by_cases e2 : j < i
      · rw [if_pos (by omega), if_pos e2]
      · rw [if_neg (by omega), if_neg e2]
  · rw [if_neg (by omega), List.getElem?_eq_none (by simp; omega)]; rfl
theorem take_front {x : Nat × Blk} : ∀ (k r : SH), Take (k ++ x :: r) (x :: (k ++ r))
  | [], _ => .nil
  | y :: k, r => .trans (.cons (A := y.1) (b := y.2) .head (take_front k r)) (.cons (A := x.1) (b := x.2) (.tail .head) .nil)
theorem take_back {x : Nat × Blk} : ∀ (k r : SH), Take (x :: (k ++ r)) (k ++ x :: r)
  | [], _ => .nil
  | y :: k, r => .cons (A := y.1) (b := y.2) (.tail .head) (take_back k r)
abbrev kS : List UInt8 → Value := fun l => S l
theorem Table_any (l : List UInt8) (w m : Int) (h : SH) (hl : l.length ≤ 4611686018427387904) :
    SRun Try.prog 46 [S l, I w, I m] h fun r q => (vld w m ∧ l.length ≤ 4096 ∧ ∃ A, r = .tuple #[cpS A (tbl l w m), I 0] ∧ q = (A, cpB (tbl l w m) false) :: h) ∨ (¬ (vld w m ∧ l.length ≤ 4096) ∧ r = .tuple #[.slice none 0 0, I (if vld w m then 9 else 1)] ∧ q = h) := by
  by_cases hv : vld w m
  · by_cases hn : l.length ≤ 4096
    · refine w_body3 Try.func46 rfl rfl ?_
      have hzr : zrow (.agg ⟨[I 0, I 0]⟩) (((l.length : Int)).toNat * 2) = recs cpF (tblTo l w m 0) := by
        rw [Int.toNat_natCast, show tblTo l w m 0 = List.replicate l.length ((0 : Int), (0 : Int)) from List.ext_getElem (by simp [tblTo]) fun j h1 h2 => by simp [tblTo]]
        exact recs_zrow (f := cpF) (w := 2) (fun _ => rfl) (show 0 < 2 by omega) (0, 0) rfl _
      repeat' ((fail_if_success (show SWp _ _ (Code.seq (Code.region 6 _ _) _) _ _ _)); (fail_if_success (show SWp _ _ (Code.region 6 _ _) _ _ _)); first | apply w_seq | apply w_region | apply o_nil | (apply o_g tyOk; exact rfl; exact rfl) | (apply o_not; exact rfl; exact rfl) | (apply o_makeSlice tyOk; (iterate 6 exact rfl); (focus (decide)); (focus (first | exact True.intro | omega | (constructor <;> first | omega | (unfold maxLen; omega)) | (unfold maxLen; omega))); (focus (first | exact hzr | rfl)); exact rfl) | (apply o_call; exact rfl; exact rfl; (focus (first | exact rfl | assumption)); exact rfl; (focus (exact ⟨_, valid_any w m _, by repeat (first | with_reducible exact Take.nil | with_reducible apply Take.c | with_reducible apply Take.drop)⟩)); rintro _ _ ⟨rfl, rfl⟩) | (apply w_dF; exact rfl; (focus (first | exact ‹_› | with_reducible exact rfl | omega))) | apply thenS_normal | apply w_skip | ((with_reducible apply Sd.mk); (first | exact True.intro | omega | (constructor <;> first | omega | (unfold maxLen; omega)) | (unfold maxLen; omega))) | intro A)
      rename_i h
      obtain ⟨AT, rfl⟩ : ∃ AT, AT = A := ⟨_, rfl⟩
      repeat' (first | apply w_seq | apply w_region | apply o_nil | (apply o_g tyOk; exact rfl; exact rfl) | (apply o_makeMap; exact rfl) | apply thenS_normal | apply w_block | ((with_reducible apply Sd.mk); (first | exact True.intro | omega | (constructor <;> first | omega | (unfold maxLen; omega)) | (unfold maxLen; omega))) | intro A)
      obtain ⟨M, rfl⟩ : ∃ M, M = A := ⟨_, rfl⟩
      rw [show gsl AT 0 (((l.length : Int)).toNat * 2) ((l.length : Int)).toNat 2 = gsl AT 0 (l.length * 2) l.length 2 from gslE rfl rfl (by omega) (by omega) rfl]
      refine w_loop (S := Nat × Ks) (fun x => [(0, S l), (1, I w), (2, I m), (8, gsl AT 0 (l.length * 2) l.length 2), (9, .map (some M)), (26, I l.length), (27, I x.1)])
        (fun x => (M, ⟨mapC kS (x.2.map kv), false⟩) :: (AT, ⟨recs cpF (tblTo l w m x.1), false⟩) :: (kb2 x.2 ++ h)) (fun x => x.1 ≤ l.length ∧ KsOk l x.1 x.2) (fun x => l.length - x.1) (0, []) ⟨Nat.zero_le _, fun k => rfl⟩ (by repeat' (first | exact trivial | refine ⟨rfl, ?_⟩ | refine ⟨congrArg some ?_, ?_⟩)) (by show Take _ (_ :: _ :: h); exact (by repeat (first | with_reducible exact Take.nil | with_reducible apply Take.c | ((with_reducible apply Take.cE); (first | exact rfl | (apply blkE; (focus (first | exact rfl | exact recs_snocE rfl | exact map_snocE rfl | exact congrArg (fun v => [v]) (gslE rfl rfl (by first | rfl | exact ‹_› | omega | (simp ; first | done | omega)) (by first | rfl | exact ‹_› | omega | (simp ; first | done | omega)) rfl)))))) | with_reducible apply Take.drop))) ?_
      rintro ⟨i, ks⟩ ⟨hi, hks⟩
      dsimp only at hi hks ⊢
      have hTl := tblTo_len l w m i
      by_cases hil : i + 2 ≤ l.length
      · repeat' ((fail_if_success (show SWp _ _ (Code.seq (Code.region 12 _ _) _) _ _ _)); (fail_if_success (show SWp _ _ (Code.region 12 _ _) _ _ _)); first | apply w_seq | apply w_region | apply o_nil | (apply o_g tyOk; exact rfl; exact rfl) | (apply o_ar tyOk; exact rfl; exact rfl) | (apply w_dT; exact rfl; (focus (first | exact ‹_› | with_reducible exact rfl | omega))) | (apply w_dF; exact rfl; (focus (first | exact ‹_› | with_reducible exact rfl | omega))) | apply thenS_normal | apply w_skip | apply w_block | ((with_reducible apply Sd.mk); (first | exact True.intro | omega | (constructor <;> first | omega | (unfold maxLen; omega)) | (unfold maxLen; omega))) | ((with_reducible apply Wr.mk); (first | exact IntWalk.i64_in _ (by omega) | exact IntWalk.u8_in _ (by omega) | exact IntWalk.u32_in _ (by omega) | exact IntWalk.u64_in _ (by omega) | exact IntKind.wrap_u8 _ | exact IntKind.wrap_u32 _ | rfl)))
        have hkey : ((l.take ((i : Int) + 2).toNat).drop ((i : Int)).toNat) = key2 l i := by unfold key2; rw [Int.toNat_natCast, show ((i : Int) + 2).toNat = i + 2 by omega]
        rw [hkey]
        have hcl := cands_le l i w m
        have hcs : bfind l i w m (posOf ks (key2 l i)).reverse = cands l i w m := by
          rw [hks, ← List.filter_reverse, range_rev, bfind_key hil]
          unfold cands
          rw [if_pos ⟨hv, by omega, by omega, hn⟩, Int.toNat_natCast]
        have hps : ∀ p ∈ posOf ks (key2 l i), p < i := fun p hp => by rw [hks] at hp; exact List.mem_range.1 (List.mem_filter.1 hp).1
        have hpl : (posOf ks (key2 l i)).length ≤ i := by rw [hks]; have := List.length_filter_le (fun p => decide (key2 l p = key2 l i)) (List.range i); simpa using this
        have hnew : ∀ ks' : Ks, (∀ k', posOf ks' k' = if k' = key2 l i then posOf ks (key2 l i) ++ [i] else posOf ks k') → KsOk l (i + 1) ks' := fun ks' hp k' => by
          rw [hp, range_succ_filter]
          by_cases e : k' = key2 l i
          · subst e; rw [if_pos rfl, hks]; simp
          · rw [if_neg e, hks]; simp [Ne.symm e]
        have hT1 : (cands l i w m).length ≠ 0 → tblTo l w m (i + 1) = (tblTo l w m i).set i (cands l i w m)[(((cands l i w m).length : Int) - 1).toNat]! := fun h0 => by
          rw [tblTo_succ (by omega), show (((cands l i w m).length : Int) - 1).toNat = (cands l i w m).length - 1 by omega, lastc_get h0]
        have hT0 : (cands l i w m).length = 0 → tblTo l w m (i + 1) = tblTo l w m i := fun h0 => by
          rw [tblTo_succ (by omega), List.length_eq_zero_iff.1 h0]
          refine List.ext_getElem? fun j => ?_
          rw [List.getElem?_set]
          by_cases e : i = j
          · subst e
            rw [if_pos rfl, if_pos (by omega)]
            unfold tblTo
            rw [List.getElem?_map, List.getElem?_range (by omega)]
            simp [lastc]
          · rw [if_neg e]
        rcases ks_find ks (key2 l i) with ⟨f1, f2, f3, f4⟩ | ⟨k1, AK, ps, k2, f0, f1, f2, f3, f4⟩
        · have hlk : (mget (ks.map kv) (key2 l i)).getD (.slice none 0 0) = .slice none 0 0 := by rw [f1]; rfl
          rw [f2] at hcs hnew
          obtain ⟨R, hR⟩ : ∃ R, R = kb2 ks ++ h := ⟨_, rfl⟩
          rw [← hR]
          repeat' (first | apply w_seq | apply w_region | apply o_nil | (apply o_g tyOk; exact rfl; exact rfl) | (apply o_store tyOk; (iterate 4 exact rfl); (focus (exact up))) | (apply o_alloc tyOk; iterate 5 exact rfl) | (apply o_makeFunc; iterate 3 exact rfl) | (apply o_lookup (α := List UInt8) tyOk; exact rfl; (focus (exact pk)); exact rfl; (focus (exact Try.underlying150)); (focus (exact Try.underlying9)); (focus (exact keyS)); exact rfl; exact rfl; (focus (first | exact hlk | exact rfl))) | (apply o_call; exact rfl; exact rfl; (focus (first | exact rfl | assumption)); exact rfl; (focus (exact ⟨_, better_any l i w m ([] : List Nat).reverse _ _ _ (by omega) (by omega) (by omega) (by omega) rfl (fun n5 n6 n7 n8 n11 n12 p hb => Table1_any l i w _ n5 n6 n7 n8 n11 n12 _ (.slice none 0 0) [] _ (1, []) p ⟨none, 0, rfl, fun g => absurd rfl g⟩ hb (by omega) (by omega) (by omega) rfl (by omega) (by simp) (by simp)), by repeat (first | with_reducible exact Take.nil | with_reducible apply Take.c | with_reducible apply Take.drop)⟩)); rintro _ _ hq) | apply thenS_normal | ((with_reducible apply Sd.mk); (first | exact True.intro | omega | (constructor <;> first | omega | (unfold maxLen; omega)) | (unfold maxLen; omega))) | ((with_reducible apply Ln.mk); (first | rfl | exact ‹_› | omega | (simp ; first | done | omega))) | ((with_reducible apply Se.mk); (first | (focus ((repeat (first | exact SetAt.zero | apply SetAt.succ)); done)) | exact setAt_bytes (by omega) (by omega) | exact setAt_mapZ (by omega) | exact setAt_map (by omega))) | exact True.intro | intro A | exact rfl)
          obtain ⟨nb, rfl⟩ : ∃ nb, nb = A := ⟨_, rfl⟩
          rw [hcs] at hq
          have fin : ∀ A, Take ((M, ⟨mapC kS (mput (ks.map kv) (key2 l i) (psV A [i])), false⟩) :: (A, psB [i]) :: (AT, ⟨recs cpF (tblTo l w m (i + 1)), false⟩) :: R) ((M, ⟨mapC kS ((ks ++ [(key2 l i, A, [i])]).map kv), false⟩) :: (AT, ⟨recs cpF (tblTo l w m (i + 1)), false⟩) :: (kb2 (ks ++ [(key2 l i, A, [i])]) ++ h)) := fun A => by
            rw [f3, List.map_append, hR]
            refine .cons .head (.cons (.tail .head) ?_)
            unfold kb2
            rw [List.map_append, List.append_assoc]
            exact take_back _ _
          rcases hq with ⟨e, rfl, rfl⟩ | ⟨A', rfl, rfl⟩
          · have hT := hT0 (by rw [e]; rfl)
            repeat' (first | apply w_region | apply o_nil | (apply o_g tyOk; exact rfl; exact rfl) | (apply o_ar tyOk; exact rfl; exact rfl) | (apply o_load tyOk; (iterate 3 exact rfl); (focus (exact pk))) | (apply o_buildSlice tyOk; (iterate 5 exact rfl); (focus (decide)); exact rfl; (focus (decide)); (focus (repeat (first | exact CatR.nil | exact CatR.last rfl | (apply CatR.one; exact rfl; exact rfl) | (apply CatR.agg; exact rfl)))); exact rfl) | (apply o_append_nil tyOk; (iterate 5 exact rfl); (focus (exact ⟨by decide⟩)); (focus (exact pk))) | (apply o_mapUpdate (α := List UInt8); exact rfl; (focus (exact up)); exact rfl; exact rfl; (focus (exact Try.underlying150)); (focus (exact Try.underlying9)); (focus (exact keyS))) | (apply w_false; exact rfl) | apply thenS_normal | apply blockS_normal | apply w_skip | ((with_reducible apply Sd.mk); (first | exact True.intro | omega | (constructor <;> first | omega | (unfold maxLen; omega)) | (unfold maxLen; omega))) | ((with_reducible apply Ln.mk); (first | rfl | exact ‹_› | omega | (simp ; first | done | omega))) | ((with_reducible apply Wr.mk); (first | exact IntWalk.i64_in _ (by omega) | exact IntWalk.u8_in _ (by omega) | exact IntWalk.u32_in _ (by omega) | exact IntWalk.u64_in _ (by omega) | exact IntKind.wrap_u8 _ | exact IntKind.wrap_u32 _ | rfl)) | ((with_reducible apply Ce.mk); (first | rfl | exact ‹_› | exact cell_recZ (fun _ => rfl) (by omega) (by decide) rfl | exact cell_rec (fun _ => rfl) (by omega) (by decide) rfl | exact cell_bytes (by omega) | exact cell_mapZ (by omega) | exact cell_map (by omega))) | ((with_reducible apply Su.mk); (first | exact subAt_all | exact subAt_recZ (fun _ => rfl) (by omega) | exact subAt_rec (fun _ => rfl) (by omega))) | exact True.intro | intro A | exact rfl)
            all_goals first
              | (exfalso; omega)
              | exact ⟨(i + 1, ks ++ [(key2 l i, A, [i])]), ⟨by show i + 1 ≤ _; omega, hnew _ (fun k' => f4 A [i] k')⟩, by show l.length - (i + 1) < _; omega, (by repeat' (first | exact trivial | refine ⟨rfl, ?_⟩ | refine ⟨congrArg some ?_, ?_⟩)), Take.trans (by rw [hT]; exact (by repeat (first | with_reducible exact Take.nil | with_reducible apply Take.c | ((with_reducible apply Take.cE); (first | exact rfl | (apply blkE; (focus (first | exact rfl | exact recs_snocE rfl | exact map_snocE rfl | exact congrArg (fun v => [v]) (gslE rfl rfl (by first | rfl | exact ‹_› | omega | (simp ; first | done | omega)) (by first | rfl | exact ‹_› | omega | (simp ; first | done | omega)) rfl)))))) | with_reducible apply Take.drop))) (fin A)⟩
          · repeat' (first | apply w_region | apply o_nil | (apply o_g tyOk; exact rfl; exact rfl) | (apply o_ar tyOk; exact rfl; exact rfl) | (apply o_load tyOk; (iterate 3 exact rfl); (focus (exact pk))) | (apply o_loads tyOk; (iterate 3 exact rfl); (focus (exact pk))) | (apply o_stores tyOk; (iterate 4 exact rfl); (focus (exact ⟨rfl⟩)); (focus (exact up))) | (apply o_buildSlice tyOk; (iterate 5 exact rfl); (focus (decide)); exact rfl; (focus (decide)); (focus (repeat (first | exact CatR.nil | exact CatR.last rfl | (apply CatR.one; exact rfl; exact rfl) | (apply CatR.agg; exact rfl)))); exact rfl) | (apply o_append_nil tyOk; (iterate 5 exact rfl); (focus (exact ⟨by decide⟩)); (focus (exact pk))) | (apply o_mapUpdate (α := List UInt8); exact rfl; (focus (exact up)); exact rfl; exact rfl; (focus (exact Try.underlying150)); (focus (exact Try.underlying9)); (focus (exact keyS))) | (apply w_if; exact rfl; all_goals intro hc) | apply thenS_normal | apply blockS_normal | apply w_skip | ((with_reducible apply Sd.mk); (first | exact True.intro | omega | (constructor <;> first | omega | (unfold maxLen; omega)) | (unfold maxLen; omega))) | ((with_reducible apply Ln.mk); (first | rfl | exact ‹_› | omega | (simp ; first | done | omega))) | ((with_reducible apply Wr.mk); (first | exact IntWalk.i64_in _ (by omega) | exact IntWalk.u8_in _ (by omega) | exact IntWalk.u32_in _ (by omega) | exact IntWalk.u64_in _ (by omega) | exact IntKind.wrap_u8 _ | exact IntKind.wrap_u32 _ | rfl)) | ((with_reducible apply Ce.mk); (first | rfl | exact ‹_› | exact cell_recZ (fun _ => rfl) (by omega) (by decide) rfl | exact cell_rec (fun _ => rfl) (by omega) (by decide) rfl | exact cell_bytes (by omega) | exact cell_mapZ (by omega) | exact cell_map (by omega))) | ((with_reducible apply Pu.mk); (first | exact putAt_all rfl | exact putAt_recZ (fun _ => rfl) (by omega) | exact putAt_rec (fun _ => rfl) (by omega))) | ((with_reducible apply Su.mk); (first | exact subAt_all | exact subAt_recZ (fun _ => rfl) (by omega) | exact subAt_rec (fun _ => rfl) (by omega))) | exact True.intro | intro A | exact rfl)
            · have hT := hT1 (by omega)
              exact ⟨(i + 1, ks ++ [(key2 l i, A, [i])]), ⟨by show i + 1 ≤ _; omega, hnew _ (fun k' => f4 A [i] k')⟩, by show l.length - (i + 1) < _; omega, (by repeat' (first | exact trivial | refine ⟨rfl, ?_⟩ | refine ⟨congrArg some ?_, ?_⟩)), Take.trans (by rw [hT]; exact (by repeat (first | with_reducible exact Take.nil | with_reducible apply Take.c | ((with_reducible apply Take.cE); (first | exact rfl | (apply blkE; (focus (first | exact rfl | exact recs_snocE rfl | exact map_snocE rfl | exact congrArg (fun v => [v]) (gslE rfl rfl (by first | rfl | exact ‹_› | omega | (simp ; first | done | omega)) (by first | rfl | exact ‹_› | omega | (simp ; first | done | omega)) rfl)))))) | with_reducible apply Take.drop))) (fin A)⟩
            · have hT := hT0 (by omega)
              exact ⟨(i + 1, ks ++ [(key2 l i, A, [i])]), ⟨by show i + 1 ≤ _; omega, hnew _ (fun k' => f4 A [i] k')⟩, by show l.length - (i + 1) < _; omega, (by repeat' (first | exact trivial | refine ⟨rfl, ?_⟩ | refine ⟨congrArg some ?_, ?_⟩)), Take.trans (by rw [hT]; exact (by repeat (first | with_reducible exact Take.nil | with_reducible apply Take.c | ((with_reducible apply Take.cE); (first | exact rfl | (apply blkE; (focus (first | exact rfl | exact recs_snocE rfl | exact map_snocE rfl | exact congrArg (fun v => [v]) (gslE rfl rfl (by first | rfl | exact ‹_› | omega | (simp ; first | done | omega)) (by first | rfl | exact ‹_› | omega | (simp ; first | done | omega)) rfl)))))) | with_reducible apply Take.drop))) (fin A)⟩
        · have hlk : (mget (ks.map kv) (key2 l i)).getD (.slice none 0 0) = psV AK ps := by rw [f1]; rfl
          rw [f2] at hcs hnew hps hpl
          obtain ⟨R, hR⟩ : ∃ R, R = kb2 (k1 ++ k2) ++ h := ⟨_, rfl⟩
          have hfront : Take (kb2 ks ++ h) ((AK, psB ps) :: R) := by
            rw [f0, hR]
            unfold kb2
            rw [List.map_append, List.map_append, List.append_assoc, List.append_assoc, List.map_cons, List.cons_append]
            exact take_front _ _
          have fin : Take ((M, ⟨mapC kS (mput (ks.map kv) (key2 l i) (psV AK (ps ++ [i]))), false⟩) :: (AK, psB (ps ++ [i])) :: (AT, ⟨recs cpF (tblTo l w m (i + 1)), false⟩) :: R) ((M, ⟨mapC kS ((k1 ++ (key2 l i, AK, ps ++ [i]) :: k2).map kv), false⟩) :: (AT, ⟨recs cpF (tblTo l w m (i + 1)), false⟩) :: (kb2 (k1 ++ (key2 l i, AK, ps ++ [i]) :: k2) ++ h)) := by
            rw [f3, List.map_append, List.map_cons, hR]
            refine .cons .head (.cons (.tail .head) ?_)
            unfold kb2
            rw [List.map_append, List.map_append, List.append_assoc, List.append_assoc, List.map_cons, List.cons_append]
            exact take_back _ _
          refine SWp.take (h1 := (M, ⟨mapC kS (ks.map kv), false⟩) :: (AT, ⟨recs cpF (tblTo l w m i), false⟩) :: (AK, psB ps) :: R) (b := [(0, S l), (1, I w), (2, I m), (8, gsl AT 0 (l.length * 2) l.length 2), (9, .map (some M)), (26, I l.length), (27, I i), (10, I i), (11, S (key2 l i))]) (by repeat' (first | exact trivial | refine ⟨rfl, ?_⟩ | refine ⟨congrArg some ?_, ?_⟩)) (.cons .head (.cons .head hfront)) ?_
          repeat' (first | apply w_seq | apply w_region | apply o_nil | (apply o_g tyOk; exact rfl; exact rfl) | (apply o_store tyOk; (iterate 4 exact rfl); (focus (exact up))) | (apply o_alloc tyOk; iterate 5 exact rfl) | (apply o_makeFunc; iterate 3 exact rfl) | (apply o_lookup (α := List UInt8) tyOk; exact rfl; (focus (exact pk)); exact rfl; (focus (exact Try.underlying150)); (focus (exact Try.underlying9)); (focus (exact keyS)); exact rfl; exact rfl; (focus (first | exact hlk | exact rfl))) | (apply o_call; exact rfl; exact rfl; (focus (first | exact rfl | assumption)); exact rfl; (focus (exact ⟨_, better_any l i w m ps.reverse _ _ _ (by omega) (by omega) (by omega) (by omega) rfl (fun n5 n6 n7 n8 n11 n12 p hb => Table1_any l i w _ n5 n6 n7 n8 n11 n12 _ (psV AK ps) ps _ (1, []) p ⟨_, _, rfl, fun _ => ⟨AK, false, _, by rw [Nat.one_mul], .tail (.tail .head)⟩⟩ hb (by omega) (by omega) (by omega) rfl (by omega) hps hpl), by repeat (first | with_reducible exact Take.nil | with_reducible apply Take.c | with_reducible apply Take.drop)⟩)); rintro _ _ hq) | apply thenS_normal | ((with_reducible apply Sd.mk); (first | exact True.intro | omega | (constructor <;> first | omega | (unfold maxLen; omega)) | (unfold maxLen; omega))) | ((with_reducible apply Ln.mk); (first | rfl | exact ‹_› | omega | (simp ; first | done | omega))) | ((with_reducible apply Se.mk); (first | (focus ((repeat (first | exact SetAt.zero | apply SetAt.succ)); done)) | exact setAt_bytes (by omega) (by omega) | exact setAt_mapZ (by omega) | exact setAt_map (by omega))) | exact True.intro | intro A | exact rfl)
          rw [hcs] at hq
          have hval : gsl AK 0 (ps.length + 1 * 1) (ps.length + 1) 1 = psV AK (ps ++ [i]) := gslE rfl rfl (by simp) (by simp) rfl
          have hblk : (ps.map (fun p : Nat => I (p : Int))) ++ [I (i : Int)] = (ps ++ [i]).map (fun p : Nat => I (p : Int)) := by simp
          rcases hq with ⟨e, rfl, rfl⟩ | ⟨A', rfl, rfl⟩
          · have hT := hT0 (by rw [e]; rfl)
            repeat' (first | apply w_region | apply o_nil | (apply o_g tyOk; exact rfl; exact rfl) | (apply o_ar tyOk; exact rfl; exact rfl) | (apply o_load tyOk; (iterate 3 exact rfl); (focus (exact pk))) | (apply o_buildSlice tyOk; (iterate 5 exact rfl); (focus (decide)); exact rfl; (focus (decide)); (focus (repeat (first | exact CatR.nil | exact CatR.last rfl | (apply CatR.one; exact rfl; exact rfl) | (apply CatR.agg; exact rfl)))); exact rfl) | (apply o_append tyOk; (iterate 5 exact rfl); (focus (exact ⟨by decide⟩)); (focus (exact up)); (focus (exact pk))) | (apply o_mapUpdate (α := List UInt8); exact rfl; (focus (exact up)); exact rfl; exact rfl; (focus (exact Try.underlying150)); (focus (exact Try.underlying9)); (focus (exact keyS))) | (apply w_false; exact rfl) | apply thenS_normal | apply blockS_normal | apply w_skip | ((with_reducible apply Sd.mk); (first | exact True.intro | omega | (constructor <;> first | omega | (unfold maxLen; omega)) | (unfold maxLen; omega))) | ((with_reducible apply Ln.mk); (first | rfl | exact ‹_› | omega | (simp ; first | done | omega))) | ((with_reducible apply Wr.mk); (first | exact IntWalk.i64_in _ (by omega) | exact IntWalk.u8_in _ (by omega) | exact IntWalk.u32_in _ (by omega) | exact IntWalk.u64_in _ (by omega) | exact IntKind.wrap_u8 _ | exact IntKind.wrap_u32 _ | rfl)) | ((with_reducible apply Ce.mk); (first | rfl | exact ‹_› | exact cell_recZ (fun _ => rfl) (by omega) (by decide) rfl | exact cell_rec (fun _ => rfl) (by omega) (by decide) rfl | exact cell_bytes (by omega) | exact cell_mapZ (by omega) | exact cell_map (by omega))) | ((with_reducible apply Su.mk); (first | exact subAt_all | exact subAt_recZ (fun _ => rfl) (by omega) | exact subAt_rec (fun _ => rfl) (by omega))) | exact True.intro | intro A | exact rfl)
            all_goals first
              | (exfalso; omega)
              | exact ⟨(i + 1, k1 ++ (key2 l i, AK, ps ++ [i]) :: k2), ⟨by show i + 1 ≤ _; omega, hnew _ (fun k' => f4 AK (ps ++ [i]) k')⟩, by show l.length - (i + 1) < _; omega, (by repeat' (first | exact trivial | refine ⟨rfl, ?_⟩ | refine ⟨congrArg some ?_, ?_⟩)), Take.trans (by rw [hT, hval, hblk]; exact (by repeat (first | with_reducible exact Take.nil | with_reducible apply Take.c | ((with_reducible apply Take.cE); (first | exact rfl | (apply blkE; (focus (first | exact rfl | exact recs_snocE rfl | exact map_snocE rfl | exact congrArg (fun v => [v]) (gslE rfl rfl (by first | rfl | exact ‹_› | omega | (simp ; first | done | omega)) (by first | rfl | exact ‹_› | omega | (simp ; first | done | omega)) rfl)))))) | with_reducible apply Take.drop))) fin⟩
          · repeat' (first | apply w_region | apply o_nil | (apply o_g tyOk; exact rfl; exact rfl) | (apply o_ar tyOk; exact rfl; exact rfl) | (apply o_load tyOk; (iterate 3 exact rfl); (focus (exact pk))) | (apply o_loads tyOk; (iterate 3 exact rfl); (focus (exact pk))) | (apply o_stores tyOk; (iterate 4 exact rfl); (focus (exact ⟨rfl⟩)); (focus (exact up))) | (apply o_buildSlice tyOk; (iterate 5 exact rfl); (focus (decide)); exact rfl; (focus (decide)); (focus (repeat (first | exact CatR.nil | exact CatR.last rfl | (apply CatR.one; exact rfl; exact rfl) | (apply CatR.agg; exact rfl)))); exact rfl) | (apply o_append tyOk; (iterate 5 exact rfl); (focus (exact ⟨by decide⟩)); (focus (exact up)); (focus (exact pk))) | (apply o_mapUpdate (α := List UInt8); exact rfl; (focus (exact up)); exact rfl; exact rfl; (focus (exact Try.underlying150)); (focus (exact Try.underlying9)); (focus (exact keyS))) | (apply w_if; exact rfl; all_goals intro hc) | apply thenS_normal | apply blockS_normal | apply w_skip | ((with_reducible apply Sd.mk); (first | exact True.intro | omega | (constructor <;> first | omega | (unfold maxLen; omega)) | (unfold maxLen; omega))) | ((with_reducible apply Ln.mk); (first | rfl | exact ‹_› | omega | (simp ; first | done | omega))) | ((with_reducible apply Wr.mk); (first | exact IntWalk.i64_in _ (by omega) | exact IntWalk.u8_in _ (by omega) | exact IntWalk.u32_in _ (by omega) | exact IntWalk.u64_in _ (by omega) | exact IntKind.wrap_u8 _ | exact IntKind.wrap_u32 _ | rfl)) | ((with_reducible apply Ce.mk); (first | rfl | exact ‹_› | exact cell_recZ (fun _ => rfl) (by omega) (by decide) rfl | exact cell_rec (fun _ => rfl) (by omega) (by decide) rfl | exact cell_bytes (by omega) | exact cell_mapZ (by omega) | exact cell_map (by omega))) | ((with_reducible apply Pu.mk); (first | exact putAt_all rfl | exact putAt_recZ (fun _ => rfl) (by omega) | exact putAt_rec (fun _ => rfl) (by omega))) | ((with_reducible apply Su.mk); (first | exact subAt_all | exact subAt_recZ (fun _ => rfl) (by omega) | exact subAt_rec (fun _ => rfl) (by omega))) | exact True.intro | intro A | exact rfl)
            · have hT := hT1 (by omega)
              exact ⟨(i + 1, k1 ++ (key2 l i, AK, ps ++ [i]) :: k2), ⟨by show i + 1 ≤ _; omega, hnew _ (fun k' => f4 AK (ps ++ [i]) k')⟩, by show l.length - (i + 1) < _; omega, (by repeat' (first | exact trivial | refine ⟨rfl, ?_⟩ | refine ⟨congrArg some ?_, ?_⟩)), Take.trans (by rw [hT, hval, hblk]; exact (by repeat (first | with_reducible exact Take.nil | with_reducible apply Take.c | ((with_reducible apply Take.cE); (first | exact rfl | (apply blkE; (focus (first | exact rfl | exact recs_snocE rfl | exact map_snocE rfl | exact congrArg (fun v => [v]) (gslE rfl rfl (by first | rfl | exact ‹_› | omega | (simp ; first | done | omega)) (by first | rfl | exact ‹_› | omega | (simp ; first | done | omega)) rfl)))))) | with_reducible apply Take.drop))) fin⟩
            · have hT := hT0 (by omega)
              exact ⟨(i + 1, k1 ++ (key2 l i, AK, ps ++ [i]) :: k2), ⟨by show i + 1 ≤ _; omega, hnew _ (fun k' => f4 AK (ps ++ [i]) k')⟩, by show l.length - (i + 1) < _; omega, (by repeat' (first | exact trivial | refine ⟨rfl, ?_⟩ | refine ⟨congrArg some ?_, ?_⟩)), Take.trans (by rw [hT, hval, hblk]; exact (by repeat (first | with_reducible exact Take.nil | with_reducible apply Take.c | ((with_reducible apply Take.cE); (first | exact rfl | (apply blkE; (focus (first | exact rfl | exact recs_snocE rfl | exact map_snocE rfl | exact congrArg (fun v => [v]) (gslE rfl rfl (by first | rfl | exact ‹_› | omega | (simp ; first | done | omega)) (by first | rfl | exact ‹_› | omega | (simp ; first | done | omega)) rfl)))))) | with_reducible apply Take.drop))) fin⟩
      · have hT := tblTo_all (l := l) (w := w) (m := m) (i := i) (by omega)
        rw [hT]
        have htl := tbl_len l w m
        rw [show gsl AT 0 (l.length * 2) l.length 2 = cpS AT (tbl l w m) from gslE rfl rfl (by rw [htl]; omega) (by rw [htl]) rfl]
        have htd : Take (kb2 ks ++ h) h := Take.drops .nil
        by_cases hil2 : i < l.length
        · repeat' (first | apply w_seq | apply w_region | apply o_nil | (apply o_g tyOk; exact rfl; exact rfl) | (apply o_ar tyOk; exact rfl; exact rfl) | (apply w_dT; exact rfl; (focus (first | exact ‹_› | with_reducible exact rfl | omega))) | apply thenS_normal | apply thenS_exit | apply blockS_exit | apply w_skip | apply w_ret | apply w_exit | apply w_block | (apply blockS_exit_ne; exact rfl) | ((with_reducible apply Sd.mk); (first | exact True.intro | omega | (constructor <;> first | omega | (unfold maxLen; omega)) | (unfold maxLen; omega))) | ((with_reducible apply Wr.mk); (first | exact IntWalk.i64_in _ (by omega) | exact IntWalk.u8_in _ (by omega) | exact IntWalk.u32_in _ (by omega) | exact IntWalk.u64_in _ (by omega) | exact IntKind.wrap_u8 _ | exact IntKind.wrap_u32 _ | rfl)))
          (apply s_fin; (exact (show ResS _ _ _ _ [_, _] from ⟨rfl, ⟨rfl, trivial⟩⟩)); (focus (exact .inl ⟨hv, hn, AT, rfl, rfl⟩)); (focus (repeat (first | with_reducible exact Take.nil | exact htd | with_reducible apply Take.c | ((with_reducible apply Take.cE); (first | exact rfl | (apply blkE; (focus (first | exact rfl | exact recs_snocE rfl | exact map_snocE rfl | exact congrArg (fun v => [v]) (gslE rfl rfl (by first | rfl | exact ‹_› | omega | (simp ; first | done | omega)) (by first | rfl | exact ‹_› | omega | (simp ; first | done | omega)) rfl)))))) | with_reducible apply Take.drop))))
        · repeat' (first | apply w_seq | apply w_region | apply o_nil | (apply o_g tyOk; exact rfl; exact rfl) | (apply w_dF; exact rfl; (focus (first | exact ‹_› | with_reducible exact rfl | omega))) | apply thenS_normal | apply thenS_exit | apply blockS_exit | apply w_ret | apply w_exit | ((with_reducible apply Sd.mk); (first | exact True.intro | omega | (constructor <;> first | omega | (unfold maxLen; omega)) | (unfold maxLen; omega))))
          (apply s_fin; (exact (show ResS _ _ _ _ [_, _] from ⟨rfl, ⟨rfl, trivial⟩⟩)); (focus (exact .inl ⟨hv, hn, AT, rfl, rfl⟩)); (focus (repeat (first | with_reducible exact Take.nil | exact htd | with_reducible apply Take.c | ((with_reducible apply Take.cE); (first | exact rfl | (apply blkE; (focus (first | exact rfl | exact recs_snocE rfl | exact map_snocE rfl | exact congrArg (fun v => [v]) (gslE rfl rfl (by first | rfl | exact ‹_› | omega | (simp ; first | done | omega)) (by first | rfl | exact ‹_› | omega | (simp ; first | done | omega)) rfl)))))) | with_reducible apply Take.drop))))
    · refine w_body3 Try.func46 rfl rfl ?_
      repeat' (first | apply w_seq | apply w_region | apply o_nil | (apply o_g tyOk; exact rfl; exact rfl) | (apply o_not; exact rfl; exact rfl) | (apply o_call; exact rfl; exact rfl; (focus (first | exact rfl | assumption)); exact rfl; (focus (exact ⟨_, valid_any w m _, by repeat (first | with_reducible exact Take.nil | with_reducible apply Take.c | with_reducible apply Take.drop)⟩)); rintro _ _ ⟨rfl, rfl⟩) | (apply w_dT; exact rfl; (focus (first | exact ‹_› | with_reducible exact rfl | omega))) | (apply w_dF; exact rfl; (focus (first | exact ‹_› | with_reducible exact rfl | omega))) | apply thenS_normal | apply thenS_ret | apply w_skip | apply w_ret | ((with_reducible apply Sd.mk); (first | exact True.intro | omega | (constructor <;> first | omega | (unfold maxLen; omega)) | (unfold maxLen; omega))))
      all_goals first
        | (apply s_fin; (exact (show ResS _ _ _ _ [_, _] from ⟨rfl, ⟨rfl, trivial⟩⟩)); (focus (exact .inr ⟨fun g => hn g.2, by rw [if_pos hv]; rfl, rfl⟩)); (focus (repeat (first | with_reducible exact Take.nil | with_reducible apply Take.c | ((with_reducible apply Take.cE); (first | exact rfl | (apply blkE; (focus (first | exact rfl | exact recs_snocE rfl | exact map_snocE rfl | exact congrArg (fun v => [v]) (gslE rfl rfl (by first | rfl | exact ‹_› | omega | (simp ; first | done | omega)) (by first | rfl | exact ‹_› | omega | (simp ; first | done | omega)) rfl)))))) | with_reducible apply Take.drop))))
        | (exfalso; omega)
        | (exfalso; simp_all; done)
  · refine w_body3 Try.func46 rfl rfl ?_
    repeat' (first | apply w_seq | apply w_region | apply o_nil | (apply o_g tyOk; exact rfl; exact rfl) | (apply o_not; exact rfl; exact rfl) | (apply o_call; exact rfl; exact rfl; (focus (first | exact rfl | assumption)); exact rfl; (focus (exact ⟨_, valid_any w m _, by repeat (first | with_reducible exact Take.nil | with_reducible apply Take.c | with_reducible apply Take.drop)⟩)); rintro _ _ ⟨rfl, rfl⟩) | (apply w_dT; exact rfl; (focus (first | exact ‹_› | with_reducible exact rfl | omega))) | apply thenS_normal | apply thenS_ret | apply w_ret | ((with_reducible apply Sd.mk); (first | exact True.intro | omega | (constructor <;> first | omega | (unfold maxLen; omega)) | (unfold maxLen; omega))))
    all_goals first
      | (apply s_fin; (exact (show ResS _ _ _ _ [_, _] from ⟨rfl, ⟨rfl, trivial⟩⟩)); (focus (exact .inr ⟨fun g => hv g.1, by rw [if_neg hv]; rfl, rfl⟩)); (focus (repeat (first | with_reducible exact Take.nil | with_reducible apply Take.c | ((with_reducible apply Take.cE); (first | exact rfl | (apply blkE; (focus (first | exact rfl | exact recs_snocE rfl | exact map_snocE rfl | exact congrArg (fun v => [v]) (gslE rfl rfl (by first | rfl | exact ‹_› | omega | (simp ; first | done | omega)) (by first | rfl | exact ‹_› | omega | (simp ; first | done | omega)) rfl)))))) | with_reducible apply Take.drop))))
      | (exfalso; simp_all; done)
end Go.Proofs.Ytgooffiipnkmiaa
end
section
set_option linter.unusedVariables false
set_option linter.unusedSimpArgs false
set_option maxRecDepth 4000
namespace Go.Proofs.Ytgooffiipnkmiaa
open Go.Gh Go.RowKit

/-- What Greedy takes at a place. -/
def gpc (l : List UInt8) (w : Int) (i : Nat) : Pc := if (lastc (rcands l i w 273)).1 = 0 then litP l i else ((lastc (rcands l i w 273)).1, (lastc (rcands l i w 273)).2, 0)
def grd (l : List UInt8) (w : Int) : Nat → Nat → List Pc
  | 0, _ => []
  | f + 1, i => if i < l.length then gpc l w i :: grd l w f (i + (gpc l w i).1.toNat) else []
def greedy (l : List UInt8) (w : Int) : List Pc × Int := if 1 ≤ w ∧ w ≤ 4096 then (if l.length ≤ 4096 then (grd l w l.length 0, 0) else ([], 9)) else ([], 1)
theorem last_in {l : List (Int × Int)} (h : l ≠ []) : lastc l ∈ l := by
  have := List.length_pos_iff.2 h
  rw [← lastc_get (by omega), getElem!_pos l _ (by omega)]; exact List.getElem_mem _
theorem gpc_occ {l : List UInt8} {w : Int} {i : Nat} (hw : 1 ≤ w ∧ w ≤ 4096) (hn : l.length ≤ 4096) (hi : i < l.length) : occ l w i (gpc l w i) := by
  unfold gpc
  split
  · exact .inl ⟨hi, rfl⟩
  · rename_i h0
    have hne : rcands l i w 273 ≠ [] := fun e => h0 (by rw [e]; rfl)
    have hm := last_in hne
    rw [← cands_eq] at hm h0 ⊢
    have h1 := cands_in hm
    obtain ⟨N, D, hND⟩ : ∃ N D : Nat, lastc (cands l i w 273) = ((N : Int), (D : Int)) := ⟨(lastc (cands l i w 273)).1.toNat, (lastc (cands l i w 273)).2.toNat, by rw [Int.toNat_of_nonneg (by omega), Int.toNat_of_nonneg (by omega)]⟩
    rw [hND] at hm h1 ⊢
    exact cands_occ hw hi hn (by dsimp only at h1; omega) hm
theorem grd_cov {l : List UInt8} {w : Int} (hw : 1 ≤ w ∧ w ≤ 4096) (hn : l.length ≤ 4096) : ∀ (f i : Nat), i ≤ l.length → l.length ≤ f + i → Cov l w i (grd l w f i)
  | 0, i, h1, h2 => by show i = l.length; omega
  | f + 1, i, h1, h2 => by
    unfold grd
    by_cases hi : i < l.length
    · rw [if_pos hi]
      have := gpc_occ hw hn hi
      have h3 := this.fits hw.2
      exact ⟨this, grd_cov hw hn f _ (by omega) (by omega)⟩
    · rw [if_neg hi]; show i = l.length; omega
theorem greedy_cov {l : List UInt8} {w : Int} (hw : 1 ≤ w ∧ w ≤ 4096) (hn : l.length ≤ 4096) : Cov l w 0 (greedy l w).1 ∧ (greedy l w).2 = 0 := by
  unfold greedy
  rw [if_pos hw, if_pos hn]
  exact ⟨grd_cov hw hn _ 0 (by omega) (by omega), rfl⟩
theorem Greedy_any (l : List UInt8) (w : Int) (h : SH) (hl : l.length ≤ 4611686018427387904) :
    SRun Try.prog 19 [S l, I w] h fun r q => ∃ v, r = .tuple #[v, I (greedy l w).2] ∧ IsPs h (greedy l w).1 v q := by
  by_cases hw : 1 ≤ w ∧ w ≤ 4096
  · have hv : vld w 273 := ⟨hw.1, hw.2, by omega, by omega⟩
    by_cases hn : l.length ≤ 4096
    · have hT : ∀ h, SRun Try.prog 46 [S l, I w, I 273] h fun r q => ∃ A, r = .tuple #[cpS A (tbl l w 273), I 0] ∧ q = (A, cpB (tbl l w 273) false) :: h := fun h =>
        (Table_any l w 273 h hl).mono fun r q g => by
          rcases g with ⟨_, _, g⟩ | ⟨g, _⟩
          · exact g
          · exact absurd ⟨hv, hn⟩ g
      have htl := tbl_len l w 273
      have hg : greedy l w = (grd l w l.length 0, 0) := by unfold greedy; rw [if_pos hw, if_pos hn]
      rw [hg]
      refine w_body2 Try.func19 rfl rfl ?_
      repeat' ((fail_if_success (show SWp _ _ (Code.seq (Code.region 3 _ _) _) _ _ _)); (fail_if_success (show SWp _ _ (Code.region 3 _ _) _ _ _)); first | apply w_seq | apply w_region | apply o_nil | (apply o_g tyOk; exact rfl; exact rfl) | (apply o_not; exact rfl; exact rfl) | (apply o_call; exact rfl; exact rfl; (focus (first | exact rfl | assumption)); exact rfl; (focus (exact ⟨_, validWindow_any w _, by repeat (first | with_reducible exact Take.nil | with_reducible apply Take.c | with_reducible apply Take.drop)⟩)); rintro _ _ ⟨rfl, rfl⟩) | (apply w_dF; exact rfl; (focus (first | exact ‹_› | with_reducible exact rfl | omega))) | apply thenS_normal | apply w_skip | ((with_reducible apply Sd.mk); (first | exact True.intro | omega | (constructor <;> first | omega | (unfold maxLen; omega)) | (unfold maxLen; omega))))
      rename_i h0
      repeat' (first | apply w_seq | apply w_region | apply o_nil | (apply o_g tyOk; exact rfl; exact rfl) | (apply o_call; exact rfl; exact rfl; (focus (first | exact rfl | assumption)); exact rfl; (focus (exact ⟨_, hT _, by repeat (first | with_reducible exact Take.nil | with_reducible apply Take.c | with_reducible apply Take.drop)⟩)); rintro _ _ ⟨AT, rfl, rfl⟩) | (apply w_false; exact rfl) | apply thenS_normal | apply w_skip | apply w_block | ((with_reducible apply Sd.mk); (first | exact True.intro | omega | (constructor <;> first | omega | (unfold maxLen; omega)) | (unfold maxLen; omega))))
      refine w_loop (S := Nat × Nat × List Pc × Value × SH) (fun x => [(0, S l), (1, I w), (6, cpS AT (tbl l w 273)), (8, x.2.2.2.1), (9, I x.1)]) (fun x => x.2.2.2.2)
        (fun x => x.1 ≤ l.length ∧ l.length ≤ x.2.1 + x.1 ∧ x.2.2.1 ++ grd l w x.2.1 x.1 = grd l w l.length 0 ∧ x.2.2.1.length ≤ x.1 ∧ IsPs ((AT, cpB (tbl l w 273) false) :: h0) x.2.2.1 x.2.2.2.1 x.2.2.2.2) (fun x => l.length - x.1)
        (0, l.length, [], _, _) ⟨by simp, by simp, rfl, by simp, .inl ⟨rfl, rfl, rfl⟩⟩ (by repeat' (first | exact trivial | refine ⟨rfl, ?_⟩ | refine ⟨congrArg some ?_, ?_⟩)) (by repeat (first | with_reducible exact Take.nil | with_reducible apply Take.c | ((with_reducible apply Take.cE); (first | exact rfl | (apply blkE; (focus (first | exact rfl | exact recs_snocE rfl | exact map_snocE rfl | exact congrArg (fun v => [v]) (gslE rfl rfl (by first | rfl | exact ‹_› | omega | (simp ; first | done | omega)) (by first | rfl | exact ‹_› | omega | (simp ; first | done | omega)) rfl)))))) | with_reducible apply Take.drop)) ?_
      rintro ⟨i, f, ps, v, q⟩ ⟨hi, hif, hwk, hpl, hps⟩
      dsimp only at hi hif hwk hpl hps ⊢
      by_cases hil : i < l.length
      · obtain ⟨f, rfl⟩ : ∃ m, f = m + 1 := ⟨f - 1, by omega⟩
        rw [grd, if_pos hil] at hwk
        have hft := (gpc_occ hw hn hil).fits hw.2
        have hgt := tbl_get (w := w) (m := 273) hil
        have hb : 0 ≤ (tbl l w 273)[i]!.1 ∧ (tbl l w 273)[i]!.1 ≤ 273 ∧ ((i : Int) + (tbl l w 273)[i]!.1 ≤ l.length) := by
          by_cases h0 : (tbl l w 273)[i]!.1 = 0
          · omega
          · have : gpc l w i = ((tbl l w 273)[i]!.1, (tbl l w 273)[i]!.2, 0) := by unfold gpc; rw [← hgt, if_neg h0]
            rw [this] at hft
            obtain ⟨g1, g2, g3⟩ := hft
            dsimp only at g2 g3
            rcases g1 with g | g <;> dsimp only at g <;> omega
        have step : ∀ (t : Pc) (m : Nat), gpc l w i = t → t.1 = (m : Int) → ps ++ t :: grd l w f (i + m) = grd l w l.length 0 ∧ 1 ≤ m ∧ i + m ≤ l.length := fun t m e e1 => by
          rw [e, e1, Int.toNat_natCast] at hwk
          rw [e] at hft
          exact ⟨hwk, by omega, by omega⟩
        have hp0 : (tbl l w 273)[i]!.1 = 0 → gpc l w i = litP l i := fun h0 => by unfold gpc; rw [← hgt, if_pos h0]
        have hp1 : ¬ (tbl l w 273)[i]!.1 = 0 → gpc l w i = ((tbl l w 273)[i]!.1, (tbl l w 273)[i]!.2, 0) := fun h0 => by unfold gpc; rw [← hgt, if_neg h0]
        obtain ⟨m, hm⟩ : ∃ m : Nat, (tbl l w 273)[i]!.1 = (m : Int) := ⟨_, (Int.toNat_of_nonneg (by omega)).symm⟩
        rcases hps with ⟨rfl, rfl, rfl⟩ | ⟨A2, rfl, rfl⟩
        · repeat' (first | apply w_seq | apply w_region | apply o_nil | (apply w_draw; (focus (kernel_rfl)); (focus (kernel_rfl))) | (apply o_g tyOk; exact rfl; exact rfl) | (apply o_ar tyOk; exact rfl; exact rfl) | (apply o_load tyOk; (iterate 3 exact rfl); (focus (exact pk))) | (apply o_loads tyOk; (iterate 3 exact rfl); (focus (exact pk))) | (apply o_stores tyOk; (iterate 4 exact rfl); (focus (exact ⟨rfl⟩)); (focus (exact up))) | (apply o_alloc tyOk; iterate 5 exact rfl) | (apply o_build tyOk; exact rfl; exact rfl; (focus (first | with_reducible exact pl38)); exact rfl; (focus (repeat (first | exact BuildR.nil | (apply BuildR.one; exact rfl; exact rfl; (first | (focus ((repeat (first | exact SetAt.zero | apply SetAt.succ)); done)) | exact setAt_bytes (by omega) (by omega) | exact setAt_mapZ (by omega) | exact setAt_map (by omega))) | (apply BuildR.agg; exact rfl; exact rfl; (first | exact putAt_all rfl | exact putAt_recZ (fun _ => rfl) (by omega) | exact putAt_rec (fun _ => rfl) (by omega)))))); exact rfl) | (apply o_buildSlice tyOk; (iterate 5 exact rfl); (focus (decide)); exact rfl; (focus (decide)); (focus (repeat (first | exact CatR.nil | exact CatR.last rfl | (apply CatR.one; exact rfl; exact rfl) | (apply CatR.agg; exact rfl)))); exact rfl) | (apply o_append_nil tyOk; (iterate 5 exact rfl); (focus (exact ⟨by decide⟩)); (focus (exact pk))) | (apply w_dT; exact rfl; (focus (first | exact ‹_› | with_reducible exact rfl | omega))) | (apply w_if; exact rfl; all_goals intro hc) | apply thenS_normal | apply blockS_normal | apply w_skip | apply w_block | ((with_reducible apply Sd.mk); (first | exact True.intro | omega | (constructor <;> first | omega | (unfold maxLen; omega)) | (unfold maxLen; omega))) | ((with_reducible apply Ln.mk); (first | rfl | exact ‹_› | omega | (simp ; first | done | omega))) | ((with_reducible apply Wr.mk); (first | exact IntWalk.i64_in _ (by omega) | exact IntWalk.u8_in _ (by omega) | exact IntWalk.u32_in _ (by omega) | exact IntWalk.u64_in _ (by omega) | exact IntKind.wrap_u8 _ | exact IntKind.wrap_u32 _ | rfl)) | ((with_reducible apply Ce.mk); (first | rfl | exact ‹_› | exact cell_recZ (fun _ => rfl) (by omega) (by decide) rfl | exact cell_rec (fun _ => rfl) (by omega) (by decide) rfl | exact cell_bytes (by omega) | exact cell_mapZ (by omega) | exact cell_map (by omega))) | ((with_reducible apply Pu.mk); (first | exact putAt_all rfl | exact putAt_recZ (fun _ => rfl) (by omega) | exact putAt_rec (fun _ => rfl) (by omega))) | ((with_reducible apply Su.mk); (first | exact subAt_all | exact subAt_recZ (fun _ => rfl) (by omega) | exact subAt_rec (fun _ => rfl) (by omega))) | exact True.intro | exact Or.inl rfl | apply And.intro | intro A | exact rfl)
          · obtain ⟨s1, s2, s3⟩ := step _ 1 (hp0 hc) rfl
            exact ⟨(i + 1, f, [litP l i], gsl A 0 (3 * 1) 1 3, (A, ⟨recs pcC [litP l i], false⟩) :: (AT, cpB (tbl l w 273) false) :: h0), ⟨s3, by show l.length ≤ f + (i + 1); omega, s1, by show 1 ≤ i + 1; omega, .inr ⟨A, rfl, rfl⟩⟩, by show l.length - (i + 1) < l.length - i; omega, (by repeat' (first | exact trivial | refine ⟨rfl, ?_⟩ | refine ⟨congrArg some ?_, ?_⟩)), (by repeat (first | with_reducible exact Take.nil | with_reducible apply Take.c | ((with_reducible apply Take.cE); (first | exact rfl | (apply blkE; (focus (first | exact rfl | exact recs_snocE rfl | exact map_snocE rfl | exact congrArg (fun v => [v]) (gslE rfl rfl (by first | rfl | exact ‹_› | omega | (simp ; first | done | omega)) (by first | rfl | exact ‹_› | omega | (simp ; first | done | omega)) rfl)))))) | with_reducible apply Take.drop))⟩
          · obtain ⟨s1, s2, s3⟩ := step _ m (hp1 hc) hm
            rw [show (i : Int) + (tbl l w 273)[i]!.1 = ((i + m : Nat) : Int) by omega]
            exact ⟨(i + m, f, [((tbl l w 273)[i]!.1, (tbl l w 273)[i]!.2, 0)], gsl A 0 (3 * 1) 1 3, (A, ⟨recs pcC [((tbl l w 273)[i]!.1, (tbl l w 273)[i]!.2, 0)], false⟩) :: (AT, cpB (tbl l w 273) false) :: h0), ⟨s3, by show l.length ≤ f + (i + m); omega, s1, by show 1 ≤ i + m; omega, .inr ⟨A, rfl, rfl⟩⟩, by show l.length - (i + m) < l.length - i; omega, (by repeat' (first | exact trivial | refine ⟨rfl, ?_⟩ | refine ⟨congrArg some ?_, ?_⟩)), (by repeat (first | with_reducible exact Take.nil | with_reducible apply Take.c | ((with_reducible apply Take.cE); (first | exact rfl | (apply blkE; (focus (first | exact rfl | exact recs_snocE rfl | exact map_snocE rfl | exact congrArg (fun v => [v]) (gslE rfl rfl (by first | rfl | exact ‹_› | omega | (simp ; first | done | omega)) (by first | rfl | exact ‹_› | omega | (simp ; first | done | omega)) rfl)))))) | with_reducible apply Take.drop))⟩
        · repeat' (first | apply w_seq | apply w_region | apply o_nil | (apply w_draw; (focus (kernel_rfl)); (focus (kernel_rfl))) | (apply o_g tyOk; exact rfl; exact rfl) | (apply o_ar tyOk; exact rfl; exact rfl) | (apply o_load tyOk; (iterate 3 exact rfl); (focus (exact pk))) | (apply o_loads tyOk; (iterate 3 exact rfl); (focus (exact pk))) | (apply o_stores tyOk; (iterate 4 exact rfl); (focus (exact ⟨rfl⟩)); (focus (exact up))) | (apply o_alloc tyOk; iterate 5 exact rfl) | (apply o_build tyOk; exact rfl; exact rfl; (focus (first | with_reducible exact pl38)); exact rfl; (focus (repeat (first | exact BuildR.nil | (apply BuildR.one; exact rfl; exact rfl; (first | (focus ((repeat (first | exact SetAt.zero | apply SetAt.succ)); done)) | exact setAt_bytes (by omega) (by omega) | exact setAt_mapZ (by omega) | exact setAt_map (by omega))) | (apply BuildR.agg; exact rfl; exact rfl; (first | exact putAt_all rfl | exact putAt_recZ (fun _ => rfl) (by omega) | exact putAt_rec (fun _ => rfl) (by omega)))))); exact rfl) | (apply o_buildSlice tyOk; (iterate 5 exact rfl); (focus (decide)); exact rfl; (focus (decide)); (focus (repeat (first | exact CatR.nil | exact CatR.last rfl | (apply CatR.one; exact rfl; exact rfl) | (apply CatR.agg; exact rfl)))); exact rfl) | (apply o_append tyOk; (iterate 5 exact rfl); (focus (exact ⟨by decide⟩)); (focus (exact up)); (focus (exact pk))) | (apply w_dT; exact rfl; (focus (first | exact ‹_› | with_reducible exact rfl | omega))) | (apply w_if; exact rfl; all_goals intro hc) | apply thenS_normal | apply blockS_normal | apply w_skip | apply w_block | ((with_reducible apply Sd.mk); (first | exact True.intro | omega | (constructor <;> first | omega | (unfold maxLen; omega)) | (unfold maxLen; omega))) | ((with_reducible apply Ln.mk); (first | rfl | exact ‹_› | omega | (simp ; first | done | omega))) | ((with_reducible apply Wr.mk); (first | exact IntWalk.i64_in _ (by omega) | exact IntWalk.u8_in _ (by omega) | exact IntWalk.u32_in _ (by omega) | exact IntWalk.u64_in _ (by omega) | exact IntKind.wrap_u8 _ | exact IntKind.wrap_u32 _ | rfl)) | ((with_reducible apply Ce.mk); (first | rfl | exact ‹_› | exact cell_recZ (fun _ => rfl) (by omega) (by decide) rfl | exact cell_rec (fun _ => rfl) (by omega) (by decide) rfl | exact cell_bytes (by omega) | exact cell_mapZ (by omega) | exact cell_map (by omega))) | ((with_reducible apply Pu.mk); (first | exact putAt_all rfl | exact putAt_recZ (fun _ => rfl) (by omega) | exact putAt_rec (fun _ => rfl) (by omega))) | ((with_reducible apply Su.mk); (first | exact subAt_all | exact subAt_recZ (fun _ => rfl) (by omega) | exact subAt_rec (fun _ => rfl) (by omega))) | exact True.intro | exact Or.inl rfl | apply And.intro | intro A | exact rfl)
          · obtain ⟨s1, s2, s3⟩ := step _ 1 (hp0 hc) rfl
            exact ⟨(i + 1, f, ps ++ [litP l i], gsl A2 0 (3 * (ps ++ [litP l i]).length) (ps ++ [litP l i]).length 3, (A2, ⟨recs pcC (ps ++ [litP l i]), false⟩) :: (AT, cpB (tbl l w 273) false) :: h0), ⟨s3, by show l.length ≤ f + (i + 1); omega, by rw [List.append_assoc]; exact s1, by show (ps ++ [_]).length ≤ i + 1; rw [List.length_append, List.length_singleton]; omega, .inr ⟨A2, rfl, rfl⟩⟩, by show l.length - (i + 1) < l.length - i; omega, ⟨rfl, rfl, rfl, congrArg some (gslE rfl rfl (by simp; try omega) (by simp) rfl), rfl, trivial⟩, (by repeat (first | with_reducible exact Take.nil | with_reducible apply Take.c | ((with_reducible apply Take.cE); (first | exact rfl | (apply blkE; (focus (first | exact rfl | exact recs_snocE rfl | exact map_snocE rfl | exact congrArg (fun v => [v]) (gslE rfl rfl (by first | rfl | exact ‹_› | omega | (simp ; first | done | omega)) (by first | rfl | exact ‹_› | omega | (simp ; first | done | omega)) rfl)))))) | with_reducible apply Take.drop))⟩
          · obtain ⟨s1, s2, s3⟩ := step _ m (hp1 hc) hm
            rw [show (i : Int) + (tbl l w 273)[i]!.1 = ((i + m : Nat) : Int) by omega]
            exact ⟨(i + m, f, ps ++ [((tbl l w 273)[i]!.1, (tbl l w 273)[i]!.2, 0)], gsl A2 0 (3 * (ps ++ [((tbl l w 273)[i]!.1, (tbl l w 273)[i]!.2, (0 : Int))]).length) (ps ++ [((tbl l w 273)[i]!.1, (tbl l w 273)[i]!.2, (0 : Int))]).length 3, (A2, ⟨recs pcC (ps ++ [((tbl l w 273)[i]!.1, (tbl l w 273)[i]!.2, 0)]), false⟩) :: (AT, cpB (tbl l w 273) false) :: h0), ⟨s3, by show l.length ≤ f + (i + m); omega, by rw [List.append_assoc]; exact s1, by show (ps ++ [_]).length ≤ i + m; rw [List.length_append, List.length_singleton]; omega, .inr ⟨A2, rfl, rfl⟩⟩, by show l.length - (i + m) < l.length - i; omega, ⟨rfl, rfl, rfl, congrArg some (gslE rfl rfl (by simp; try omega) (by simp) rfl), rfl, trivial⟩, (by repeat (first | with_reducible exact Take.nil | with_reducible apply Take.c | ((with_reducible apply Take.cE); (first | exact rfl | (apply blkE; (focus (first | exact rfl | exact recs_snocE rfl | exact map_snocE rfl | exact congrArg (fun v => [v]) (gslE rfl rfl (by first | rfl | exact ‹_› | omega | (simp ; first | done | omega)) (by first | rfl | exact ‹_› | omega | (simp ; first | done | omega)) rfl)))))) | with_reducible apply Take.drop))⟩
      · obtain rfl : i = l.length := by omega
        have hw0 : grd l w f l.length = [] := by
          cases f with
          | zero => rfl
          | succ f => rw [grd, if_neg (Nat.lt_irrefl _)]
        rw [hw0, List.append_nil] at hwk
        subst hwk
        rcases hps with ⟨e, rfl, rfl⟩ | ⟨A2, rfl, rfl⟩
        · repeat' (first | apply w_seq | apply w_region | apply o_nil | (apply o_g tyOk; exact rfl; exact rfl) | (apply w_dF; exact rfl; (focus (first | exact ‹_› | with_reducible exact rfl | omega))) | apply thenS_normal | apply thenS_exit | apply blockS_exit | apply w_ret | apply w_exit | ((with_reducible apply Sd.mk); (first | exact True.intro | omega | (constructor <;> first | omega | (unfold maxLen; omega)) | (unfold maxLen; omega))))
          (apply s_fin; (exact (show ResS _ _ _ _ [_, _] from ⟨rfl, ⟨rfl, trivial⟩⟩)); (focus (exact ⟨_, rfl, .inl ⟨e, rfl, rfl⟩⟩)); (focus (repeat (first | with_reducible exact Take.nil | with_reducible apply Take.c | ((with_reducible apply Take.cE); (first | exact rfl | (apply blkE; (focus (first | exact rfl | exact recs_snocE rfl | exact map_snocE rfl | exact congrArg (fun v => [v]) (gslE rfl rfl (by first | rfl | exact ‹_› | omega | (simp ; first | done | omega)) (by first | rfl | exact ‹_› | omega | (simp ; first | done | omega)) rfl)))))) | with_reducible apply Take.drop))))
        · repeat' (first | apply w_seq | apply w_region | apply o_nil | (apply o_g tyOk; exact rfl; exact rfl) | (apply w_dF; exact rfl; (focus (first | exact ‹_› | with_reducible exact rfl | omega))) | apply thenS_normal | apply thenS_exit | apply blockS_exit | apply w_ret | apply w_exit | ((with_reducible apply Sd.mk); (first | exact True.intro | omega | (constructor <;> first | omega | (unfold maxLen; omega)) | (unfold maxLen; omega))))
          (apply s_fin; (exact (show ResS _ _ _ _ [_, _] from ⟨rfl, ⟨rfl, trivial⟩⟩)); (focus (exact ⟨_, rfl, .inr ⟨A2, rfl, rfl⟩⟩)); (focus (repeat (first | with_reducible exact Take.nil | with_reducible apply Take.c | ((with_reducible apply Take.cE); (first | exact rfl | (apply blkE; (focus (first | exact rfl | exact recs_snocE rfl | exact map_snocE rfl | exact congrArg (fun v => [v]) (gslE rfl rfl (by first | rfl | exact ‹_› | omega | (simp ; first | done | omega)) (by first | rfl | exact ‹_› | omega | (simp ; first | done | omega)) rfl)))))) | with_reducible apply Take.drop))))
    · have hT : ∀ h, SRun Try.prog 46 [S l, I w, I 273] h fun r q => r = .tuple #[.slice none 0 0, I 9] ∧ q = h := fun h =>
        (Table_any l w 273 h hl).mono fun r q g => by
          rcases g with ⟨_, g, _⟩ | ⟨_, g⟩
          · exact absurd g hn
          · rwa [if_pos hv] at g
      refine w_body2 Try.func19 rfl rfl ?_
      repeat' (first | apply w_seq | apply w_region | apply o_nil | (apply o_g tyOk; exact rfl; exact rfl) | (apply o_not; exact rfl; exact rfl) | (apply o_call; exact rfl; exact rfl; (focus (first | exact rfl | assumption)); exact rfl; (focus (exact ⟨_, validWindow_any w _, by repeat (first | with_reducible exact Take.nil | with_reducible apply Take.c | with_reducible apply Take.drop)⟩)); rintro _ _ ⟨rfl, rfl⟩) | (apply o_call; exact rfl; exact rfl; (focus (first | exact rfl | assumption)); exact rfl; (focus (exact ⟨_, hT _, by repeat (first | with_reducible exact Take.nil | with_reducible apply Take.c | with_reducible apply Take.drop)⟩)); rintro _ _ ⟨rfl, rfl⟩) | (apply w_true; exact rfl) | (apply w_dF; exact rfl; (focus (first | exact ‹_› | with_reducible exact rfl | omega))) | apply thenS_normal | apply thenS_ret | apply w_skip | apply w_ret | ((with_reducible apply Sd.mk); (first | exact True.intro | omega | (constructor <;> first | omega | (unfold maxLen; omega)) | (unfold maxLen; omega))))
      all_goals first
        | (apply s_fin; (exact (show ResS _ _ _ _ [_, _] from ⟨rfl, ⟨rfl, trivial⟩⟩)); (focus (exact ⟨_, by unfold greedy; rw [if_pos hw, if_neg hn]; rfl, .inl ⟨by unfold greedy; rw [if_pos hw, if_neg hn], rfl, rfl⟩⟩)); (focus (repeat (first | with_reducible exact Take.nil | with_reducible apply Take.c | ((with_reducible apply Take.cE); (first | exact rfl | (apply blkE; (focus (first | exact rfl | exact recs_snocE rfl | exact map_snocE rfl | exact congrArg (fun v => [v]) (gslE rfl rfl (by first | rfl | exact ‹_› | omega | (simp ; first | done | omega)) (by first | rfl | exact ‹_› | omega | (simp ; first | done | omega)) rfl)))))) | with_reducible apply Take.drop))))
        | (exfalso; simp_all; done)
  · refine w_body2 Try.func19 rfl rfl ?_
    repeat' (first | apply w_seq | apply w_region | apply o_nil | (apply o_g tyOk; exact rfl; exact rfl) | (apply o_not; exact rfl; exact rfl) | (apply o_call; exact rfl; exact rfl; (focus (first | exact rfl | assumption)); exact rfl; (focus (exact ⟨_, validWindow_any w _, by repeat (first | with_reducible exact Take.nil | with_reducible apply Take.c | with_reducible apply Take.drop)⟩)); rintro _ _ ⟨rfl, rfl⟩) | (apply w_dT; exact rfl; (focus (first | exact ‹_› | with_reducible exact rfl | omega))) | apply thenS_normal | apply thenS_ret | apply w_ret | ((with_reducible apply Sd.mk); (first | exact True.intro | omega | (constructor <;> first | omega | (unfold maxLen; omega)) | (unfold maxLen; omega))))
    all_goals first
      | (apply s_fin; (exact (show ResS _ _ _ _ [_, _] from ⟨rfl, ⟨rfl, trivial⟩⟩)); (focus (exact ⟨_, by unfold greedy; rw [if_neg hw]; rfl, .inl ⟨by unfold greedy; rw [if_neg hw], rfl, rfl⟩⟩)); (focus (repeat (first | with_reducible exact Take.nil | with_reducible apply Take.c | ((with_reducible apply Take.cE); (first | exact rfl | (apply blkE; (focus (first | exact rfl | exact recs_snocE rfl | exact map_snocE rfl | exact congrArg (fun v => [v]) (gslE rfl rfl (by first | rfl | exact ‹_› | omega | (simp ; first | done | omega)) (by first | rfl | exact ‹_› | omega | (simp ; first | done | omega)) rfl)))))) | with_reducible apply Take.drop))))
      | (exfalso; simp_all; done)
end Go.Proofs.Ytgooffiipnkmiaa
end
section
set_option linter.unusedVariables false
set_option linter.unusedSimpArgs false
set_option maxRecDepth 4000
namespace Go.Proofs.Ytgooffiipnkmiaa
open Go.Gh Go.RowKit

theorem IsPs.has {h q : SH} {ps : List Pc} {v : Value} (k : IsPs h ps v q) : Has q (recs pcC ps) 3 ps.length v ∧ Take q h := by
  rcases k with ⟨rfl, rfl, rfl⟩ | ⟨A, rfl, rfl⟩
  · exact ⟨⟨none, 0, rfl, fun g => absurd rfl g⟩, (by repeat (first | with_reducible exact Take.nil | with_reducible apply Take.c | ((with_reducible apply Take.cE); (first | exact rfl | (apply blkE; (focus (first | exact rfl | exact recs_snocE rfl | exact map_snocE rfl | exact congrArg (fun v => [v]) (gslE rfl rfl (by first | rfl | exact ‹_› | omega | (simp ; first | done | omega)) (by first | rfl | exact ‹_› | omega | (simp ; first | done | omega)) rfl)))))) | with_reducible apply Take.drop))⟩
  · exact ⟨⟨_, _, rfl, fun _ => ⟨A, false, _, rfl, .head⟩⟩, (by repeat (first | with_reducible exact Take.nil | with_reducible apply Take.c | ((with_reducible apply Take.cE); (first | exact rfl | (apply blkE; (focus (first | exact rfl | exact recs_snocE rfl | exact map_snocE rfl | exact congrArg (fun v => [v]) (gslE rfl rfl (by first | rfl | exact ‹_› | omega | (simp ; first | done | omega)) (by first | rfl | exact ‹_› | omega | (simp ; first | done | omega)) rfl)))))) | with_reducible apply Take.drop))⟩
end Go.Proofs.Ytgooffiipnkmiaa
end
section
set_option linter.unusedVariables false
set_option linter.unusedSimpArgs false
set_option maxRecDepth 4000
namespace Go.Gh
open Go.RowKit Go.ChangeShapes

theorem vrel_const {φ : Nat → Loc} {L : Lens} : ∀ {as0 : List Value}, as0.all constOk = true → VRel φ L as0 as0.toArray
  | as0, h => ⟨by simp, fun i v hi => ⟨v, by simpa using hi, Val.const ((List.all_eq_true.1 h) v (List.mem_of_getElem? hi))⟩⟩

/-- A contract over arguments without addresses, as the model's calls. -/
theorem calls_of {P : Program} {f : FuncId} {as0 : List Value} (h : SRun P f as0 [] fun r _ => r = B true) (hc : as0.all constOk = true) (W : World) :
    Calls P f as0.toArray W fun e W' => e = .returned (.bool true) ∧ Below W.heap.size W W' := by
  unfold SRun at h
  have h1 := h [] (.start (fun x hx => (by cases hx)) List.nodup_nil)
  unfold Run at h1
  have h2 := h1 W.heap.size W (fun _ => ⟨0, 0, 0, false⟩) (lens []) (fun _ => ⟨0, 0, 0, false⟩) W as0.toArray (.refl _ _)
    ⟨Below.refl _ _, Nat.le_refl _, fun A g hA => (by cases hA), fun A g hA => (by cases hA), fun A A' g _ hA => (by cases hA)⟩ (vrel_const hc)
  refine h2.mono ?_
  rintro e W' ⟨φ', r, H', v, g1, g2, rfl, g4, q, rfl, g5⟩
  cases g4
  exact ⟨rfl, g2.below⟩

section
variable {H : Type} {enc : TypeId × Value → H} {P : Program}
theorem trodAll_below (hl : laidOutB P = true) {W W' : World} (hb : Below W.heap.size W W') : ∀ {ts : List TypeId} {vs : List Value} {ds : List (DataW H)} {ps : List MemPlace},
    (ts.all fun t => P.readableRec t && decide (t < P.types.size)) = true → DataW.TrodAll enc P W 0 (fun _ => true) true ts vs ds ps → (∀ x ∈ ps, x.block < W.heap.size) →
    DataW.TrodAll enc P W' 0 (fun b => decide (b < W.heap.size)) true ts vs ds ps := by
  intro ts
  induction ts with
  | nil => intro vs ds ps _ h _; cases vs <;> cases ds <;> first | exact h | exact h.elim
  | cons t ts ih =>
    intro vs ds ps hr h hlt
    simp only [List.all_cons, Bool.and_eq_true, decide_eq_true_eq] at hr
    cases vs with
    | nil => exact h.elim
    | cons v vs =>
      cases ds with
      | nil => exact h.elim
      | cons d ds =>
        obtain ⟨p, q, h1, h2, rfl⟩ := h
        exact ⟨p, q, Below.trod hl hr.1.1 hr.1.2 h1 hb (fun x hx => hlt x (List.mem_append_left _ hx)), ih (by simpa using hr.2) h2 (fun x hx => hlt x (List.mem_append_right _ hx)), rfl⟩

/-- The end of a law: it returned true, only new blocks came. -/
theorem post_law {f : Func} {s : ChangeSpec} {W W' : World} {args : Array Value} {ds gs : List (DataW H)} {before : List MemPlace} {tb : TypeId} (hl : laidOutB P = true)
    (hW : DataW.Whole enc P f.params.toList s.vars false W args.toList ds gs before) (hv : s.vars = []) (hr : (f.params.toList.all fun t => P.readableRec t && decide (t < P.types.size)) = true)
    (ht : f.resultTypes = #[tb]) (hk : P.underlying tb = some .bool) (hs : (s.fn H ds).results = [.lit (.bool true)] ∧ (s.fn H ds).args = ds ∧ (s.fn H ds).vars = []) (hb : Below W.heap.size W W') :
    s.post enc P f false true false false W args (.bool true) W' := by
  have hlt : ∀ p ∈ before, p.block < W.heap.size := fun p hp => hW.lt p hp
  have hW1 := hW
  obtain ⟨p, q, h1, h2, h3, h4, h5⟩ := hW1
  rw [hv] at h2
  have hg : gs = [] ∧ q = [] := by
    cases gs with
    | nil => exact ⟨rfl, h2⟩
    | cons g gs => exact h2.elim
  obtain ⟨rfl, rfl⟩ := hg
  rw [List.append_nil] at h3
  subst h3
  refine ⟨ds, [], before, [], before, [], hW, ?_, ?_, ?_, World.keptBut_mono (fun x hx => ⟨hx, .inr (.inl hx)⟩) (hb.frame (· ∈ before)), fun h => by cases h⟩
  · rw [List.append_nil, hs.1, ht]
    exact ⟨[], [], shut_bool hk true, rfl, rfl⟩
  · rw [List.append_nil, hs.2.1]
    exact trodAll_below hl hb hr h1 hlt
  · rw [List.append_nil, hs.2.2, hv]; rfl
end
end Go.Gh
namespace Go.Gh
open Go.RowKit
theorem wf_i64 {n : Int} (h : (Lit.int .i64 n).wf = true) : -9223372036854775808 ≤ n ∧ n ≤ 9223372036854775807 := by simp [Lit.wf, IntKind.min, IntKind.max, IntKind.signed, IntKind.bits] at h; omega
theorem len_max {l : List UInt8} (h : (⟨⟨l⟩⟩ : ByteArray).size ≤ maxLen) : l.length ≤ 9223372036854775807 := by
  have : (⟨⟨l⟩⟩ : ByteArray).size = l.length := rfl
  unfold maxLen at h; omega
end Go.Gh
end
section
set_option linter.unusedVariables false
set_option linter.unusedSimpArgs false
set_option maxRecDepth 4000
namespace Go.Gh
open Go.RowKit Go.ChangeShapes Go.WideShapes

/-- A block that comes in, with the world it lies in. -/
structure CB (W : World) (e : Loc × Blk) : Prop where
  ro : e.2.ro = true
  mp : e.1.mp = false
  ex : ∃ c T fz, W.heap[e.1.b]? = some (.cells c T fz) ∧ c.size = e.1.size ∧ e.1.base + e.2.cells.length ≤ c.size ∧ ∀ i v, e.2.cells[i]? = some v → c[e.1.base + i]? = some v ∧ constOk v = true
/-- An argument: its blocks; its ghost by the number of its first block. -/
structure Arg (W : World) (v : Value) (es : List (Loc × Blk)) (g : Nat → Value) : Prop where
  cb : ∀ e ∈ es, CB W e
  val : ∀ (φ : Nat → Loc) (L : Lens) (k : Nat), (∀ (j : Nat) e, es[j]? = some e → φ (k + j) = e.1 ∧ L (k + j) = some e.2.cells.length) → Val φ L (g k) v
inductive ArgAll (W : World) : Nat → List Value → List (Loc × Blk) → List Value → Prop
  | nil {k} : ArgAll W k [] [] []
  | cons {k v vs es es' g as0} (h : Arg W v es g) (r : ArgAll W (k + es.length) vs es' as0) : ArgAll W k (v :: vs) (es ++ es') (g k :: as0)
theorem ArgAll.cb {W : World} {k : Nat} {vs : List Value} {es : List (Loc × Blk)} {as0 : List Value} (h : ArgAll W k vs es as0) : ∀ e ∈ es, CB W e := by
  induction h with
  | nil => intro e he; cases he
  | cons h _ ih =>
    intro e he
    rcases List.mem_append.1 he with he | he
    · exact h.cb e he
    · exact ih e he
theorem ArgAll.rel {W : World} {k : Nat} {vs : List Value} {es : List (Loc × Blk)} {as0 : List Value} (h : ArgAll W k vs es as0) (φ : Nat → Loc) (L : Lens)
    (hφ : ∀ (j : Nat) e, es[j]? = some e → φ (k + j) = e.1 ∧ L (k + j) = some e.2.cells.length) : vs.length = as0.length ∧ ∀ (i : Nat) a, as0[i]? = some a → ∃ v, vs[i]? = some v ∧ Val φ L a v := by
  induction h with
  | nil => exact ⟨rfl, fun i a h => by simp at h⟩
  | @cons k v vs es es' g as0 h _ ih =>
    have h1 := h.val φ L k fun j e he => hφ j e (by rw [List.getElem?_append_left (List.getElem?_eq_some_iff.1 he).1]; exact he)
    obtain ⟨h2, h3⟩ := ih fun j e he => by
      have := hφ (es.length + j) e (by rw [List.getElem?_append_right (by omega), show es.length + j - es.length = j by omega]; exact he)
      rwa [show k + (es.length + j) = k + es.length + j by omega] at this
    refine ⟨by simp [h2], fun i a hi => ?_⟩
    cases i with
    | zero => simp only [List.getElem?_cons_zero, Option.some.injEq] at hi; subst hi; exact ⟨v, rfl, h1⟩
    | succ i => obtain ⟨u, g1, g2⟩ := h3 i a (by simpa using hi); exact ⟨u, by simpa using g1, g2⟩

/-- How an element of a slice reads. -/
structure Elem {H : Type} (enc : TypeId × Value → H) (P : Program) (e : TypeId) {α : Type} (f : α → List Value) (w : Nat) (ok : α → Prop) : Prop where
  cells : P.cellsOf e = w
  pos : 0 < w
  len : ∀ y, (f y).length = w
  cst : ∀ y, ∀ v ∈ f y, constOk v = true
  rd : ∀ {W : World} {base : Nat} {sp : Nat → Bool} {held : Bool} {n : Nat} {cs : List Value} {x : DataW H × List MemPlace}, DataW.trod enc P W base sp held n e cs = some x → ∃ y, cs = f y ∧ ok y

section
variable {H : Type} {enc : TypeId × Value → H} {P : Program} {W : World} {α : Type} {f : α → List Value} {w : Nat} {ok : α → Prop}
/-- The fields of a struct from an offset on. -/
structure Flds {H : Type} (enc : TypeId × Value → H) (P : Program) (fs : List Field) (o : Nat) {α : Type} (f : α → List Value) (w : Nat) (ok : α → Prop) : Prop where
  len : ∀ y, (f y).length = w
  cst : ∀ y, ∀ v ∈ f y, constOk v = true
  rd : ∀ {W : World} {base : Nat} {sp : Nat → Bool} {held : Bool} {n : Nat} {cs : List Value}, cs.length = o + w → (∀ fl ∈ fs, ∃ x, DataW.trod enc P W base sp held n fl.type ((cs.drop fl.offset).take (P.cellsOf fl.type)) = some x) → ∃ y, cs.drop o = f y ∧ ok y
theorem Flds.last {fl : Field} {o : Nat} (ho : fl.offset = o) (E : Elem enc P fl.type f w ok) : Flds enc P [fl] o f w ok :=
  ⟨E.len, E.cst, fun {W base sp held n cs} hl h => by
    obtain ⟨x, hx⟩ := h fl (by simp)
    rw [ho, E.cells, List.take_of_length_le (by rw [List.length_drop]; omega)] at hx
    exact E.rd hx⟩
theorem Flds.cons {β : Type} {g : β → List Value} {w2 : Nat} {ok2 : β → Prop} {fl : Field} {fs : List Field} {o : Nat} (ho : fl.offset = o) (E : Elem enc P fl.type f w ok) (r : Flds enc P fs (o + w) g w2 ok2) :
    Flds enc P (fl :: fs) o (fun y : α × β => f y.1 ++ g y.2) (w + w2) (fun y => ok y.1 ∧ ok2 y.2) :=
  ⟨fun y => by rw [List.length_append, E.len, r.len], fun y v hv => by
    rcases List.mem_append.1 hv with hv | hv
    · exact E.cst _ _ hv
    · exact r.cst _ _ hv, fun {W base sp held n cs} hl h => by
    obtain ⟨x, hx⟩ := h fl (by simp)
    rw [ho, E.cells] at hx
    obtain ⟨y1, h1, k1⟩ := E.rd hx
    obtain ⟨y2, h2, k2⟩ := r.rd (by omega) (fun z hz => h z (by simp [hz]))
    refine ⟨(y1, y2), ?_, k1, k2⟩
    dsimp only
    rw [← h1, ← h2, ← List.drop_drop, List.take_append_drop]⟩
end
end Go.Gh
end
section
set_option linter.unusedVariables false
set_option linter.unusedSimpArgs false
set_option maxRecDepth 4000
namespace Go.Proofs.Ytgooffiipnkmiaa
open Go.Gh Go.RowKit

def cst (c : Cst) (l : List UInt8) (w : Int) : Int := costs c (parse c l w).1
section
variable {c : Cst} {l : List UInt8} {w : Int} (hc : vC c) (hw : 1 ≤ w ∧ w ≤ 4096) (hn : l.length ≤ 4096)
include hc hw hn
end
end Go.Proofs.Ytgooffiipnkmiaa
end
section
set_option linter.unusedVariables false
set_option linter.unusedSimpArgs false
set_option maxRecDepth 4000
namespace Go.Proofs.Ytgooffiipnkmiaa
open Go.Gh Go.RowKit

/-- A literal for each byte. -/
def allLit (l : List UInt8) : Nat → Nat → List Pc
  | 0, _ => []
  | f + 1, i => litP l i :: allLit l f (i + 1)
theorem allLit_cov {l : List UInt8} {w : Int} : ∀ (f i : Nat), i + f = l.length → Cov l w i (allLit l f i)
  | 0, i, h => by show i = l.length; omega
  | f + 1, i, h => ⟨.inl ⟨by omega, rfl⟩, allLit_cov f (i + 1) (by omega)⟩
theorem GreedyH (l : List UInt8) (w : Int) (hw : 1 ≤ w ∧ w ≤ 4096) (hn : l.length ≤ 4096) (h : SH) : SRun Try.prog 19 [S l, I w] h fun r q => ∃ v, r = .tuple #[v, I 0] ∧ Has q (recs pcC (greedy l w).1) 3 (greedy l w).1.length v ∧ Take q h := by
  have := Greedy_any l w h (by omega)
  rw [(greedy_cov hw hn).2] at this
  refine this.mono ?_
  rintro r q ⟨v, rfl, hi⟩
  exact ⟨v, rfl, hi.has⟩
end Go.Proofs.Ytgooffiipnkmiaa
end
section
set_option linter.unusedVariables false
set_option linter.unusedSimpArgs false
set_option maxRecDepth 4000
namespace Go.Proofs.Ytgooffiipnkmiaa
open Go.Gh Go.RowKit

theorem byt_bat {l : List UInt8} {i : Nat} (h : i < l.length) : byt (bat l (i : Int)) = l[i] := by
  unfold byt bat
  rw [Int.toNat_natCast, Int.toNat_natCast, List.getD_eq_getElem?_getD, List.getElem?_eq_getElem h, Option.getD_some, UInt8.ofNat_toNat]
theorem bat_inj {l : List UInt8} {i j : Nat} (hi : i < l.length) (hj : j < l.length) (h : bat l (i : Int) = bat l (j : Int)) : l[i] = l[j] := by
  rw [← byt_bat hi, ← byt_bat hj, h]
theorem copyN_take {l : List UInt8} {d : Nat} (hd : 1 ≤ d) : ∀ (n i : Nat), d ≤ i → i + n ≤ l.length → same l i d n → copyN d n (l.take i) = l.take (i + n)
  | 0, i, _, _, _ => rfl
  | n + 1, i, h1, h2, h3 => by
    have hl : (l.take i).length = i := by rw [List.length_take]; omega
    have e : (l.take i)[(l.take i).length - d]! = l[i]'(by omega) := by
      rw [getElem!_pos _ _ (by omega), List.getElem_take]
      have := h3 0 (by omega)
      simp only [Nat.add_zero] at this
      simp only [hl]
      exact bat_inj (by omega) (by omega) this
    rw [copyN, e, List.take_append_getElem (by omega), copyN_take hd n (i + 1) (by omega) (by omega) (fun k hk => by
      have := h3 (k + 1) (by omega)
      rwa [show i - d + (k + 1) = i + 1 - d + k by omega, show i + (k + 1) = i + 1 + k by omega] at this)]
    congr 1; omega
theorem cov_bytes {l : List UInt8} {w : Int} : ∀ {ps : List Pc} {i : Nat}, Cov l w i ps → bytesOk ps
  | [], _, _ => fun t ht => by cases ht
  | t :: r, i, h => fun u hu => by
    rcases List.mem_cons.1 hu with rfl | hu
    · rcases h.1 with ⟨_, rfl⟩ | ⟨n, d, rfl, _⟩
      · have := bat_lo l i; have := bat_hi l i; show 0 ≤ bat l i ∧ bat l i ≤ 255; omega
      · exact ⟨Int.le_refl _, by show (0 : Int) ≤ 255; omega⟩
    · exact cov_bytes h.2 u hu
end Go.Proofs.Ytgooffiipnkmiaa
end
section
set_option linter.unusedVariables false
set_option linter.unusedSimpArgs false
set_option maxRecDepth 4000
namespace Go.Proofs.Ytgooffiipnkmiaa
open Go.Gh Go.RowKit

/-- A piece is written. -/
def wst (s : Ms × Enc) (t : Pc) : Ms × Enc :=
  if t.2.1 = 0 then
    ({ s.1 with K := (tenc 0 1 s.1.K s.2 1).1, P := (benc s.1.P s.1.c (tenc 0 1 s.1.K s.2 1).2 t.2.2).1, c := t.2.2 }, (benc s.1.P s.1.c (tenc 0 1 s.1.K s.2 1).2 t.2.2).2)
  else
    ({ s.1 with K := (tenc 1 1 s.1.K s.2 1).1, L := (nenc s.1.L (tenc 1 1 s.1.K s.2 1).2 (t.1 - 2)).1, D := (nenc s.1.D (nenc s.1.L (tenc 1 1 s.1.K s.2 1).2 (t.1 - 2)).2 (t.2.1 - 1)).1 },
      (nenc s.1.D (nenc s.1.L (tenc 1 1 s.1.K s.2 1).2 (t.1 - 2)).2 (t.2.1 - 1)).2)
def wrun (l : List Pc) (s : Ms × Enc) : Ms × Enc := l.foldl wst s
theorem wrun_cons (t : Pc) (l : List Pc) (s : Ms × Enc) : wrun (t :: l) s = wrun l (wst s t) := rfl
abbrev vPb (t : Pc) : Prop := vP t ∧ 0 ≤ t.2.2 ∧ t.2.2 ≤ 255
def psum : List Pc → Nat
  | [] => 0
  | t :: r => t.1.toNat + psum r
theorem wst_ok {n : Nat} {s : Ms × Enc} {t : Pc} (hx : MsOk s.1) (hok : EncOk n s.2) (ht : vPb t) : MsOk (wst s t).1 ∧ EncOk (n + 137 * t.1.toNat) (wst s t).2 := by
  obtain ⟨hv, hy⟩ := ht
  unfold wst
  split
  · have h1 := tenc_ok (v := 0) (k := 1) (t := s.1.K) (j := 1) hok
    have h2 := benc_ok (v := t.2.2) h1.1 hx.P hx.c
    exact ⟨⟨h1.2.trans hx.K, h2.2, hy, hx.L, hx.D⟩, h2.1.mono (by rcases hv with g | g <;> omega)⟩
  · have h1 := tenc_ok (v := 1) (k := 1) (t := s.1.K) (j := 1) hok
    have h2 := nenc_ok (t := s.1.L) h1.1 (t.1 - 2)
    have h3 := nenc_ok (t := s.1.D) h2.1 (t.2.1 - 1)
    exact ⟨⟨h1.2.trans hx.K, hx.P, hx.c, h2.2.trans hx.L, h3.2.trans hx.D⟩, h3.1.mono (by rcases hv with g | g <;> omega)⟩
theorem wrun_ok : ∀ {l : List Pc} {n : Nat} {s : Ms × Enc}, MsOk s.1 → EncOk n s.2 → (∀ t ∈ l, vPb t) → MsOk (wrun l s).1 ∧ EncOk (n + 137 * psum l) (wrun l s).2
  | [], n, s, hx, hok, _ => ⟨hx, hok⟩
  | t :: r, n, s, hx, hok, ht => by
    have h1 := wst_ok hx hok (ht t (by simp))
    have h2 := wrun_ok (l := r) h1.1 h1.2 (fun u hu => ht u (by simp [hu]))
    rw [wrun_cons]
    exact ⟨h2.1, h2.2.mono (by show _ ≤ n + 137 * (t.1.toNat + psum r); omega)⟩
theorem EncT.add {n : Nat} {h p : SH} {a : Option Nat} {e : Enc} {x : Nat × Blk} (hb : EncT n h a e p) : ∃ p', EncT n (x :: h) a e p' ∧ Take (x :: p) p' := by
  cases hb with
  | nil _ _ ha => exact ⟨_, .nil _ _ ha, .cons (.tail .head) .nil⟩
  | some _ _ _ _ ha ho => exact ⟨_, .some _ _ _ _ ha ho, .cons (.tail .head) (.cons (.tail .head) .nil)⟩
theorem Take.up8 {X A B C D E F G H : Nat × Blk} {h : SH} : Take (X :: A :: B :: C :: D :: E :: F :: G :: H :: h) (A :: B :: C :: D :: E :: F :: G :: H :: X :: h) :=
  .cons (.tail .head) (.cons (.tail .head) (.cons (.tail .head) (.cons (.tail .head) (.cons (.tail .head) (.cons (.tail .head) (.cons (.tail .head) (.cons (.tail .head) .nil)))))))
theorem Take.dn8 {X A B C D E F G H : Nat × Blk} {h : SH} : Take (A :: B :: C :: D :: E :: F :: G :: H :: X :: h) (A :: B :: C :: D :: E :: F :: G :: H :: h) :=
  .cons .head (.cons .head (.cons .head (.cons .head (.cons .head (.cons .head (.cons .head (.cons .head (.drop .nil))))))))
theorem EncT.add8 {n : Nat} {a : Mad} {x : Ms} {h p : SH} {e : Enc} {y : Nat × Blk} (hb : EncT n (msB a x h) none e p) : ∃ p', EncT n (msB a x (y :: h)) none e p' ∧ Take (y :: p) p' := by
  obtain ⟨p1, h1, t1⟩ := hb.add (x := y)
  obtain ⟨p2, h2, t2⟩ := h1.re Take.up8
  exact ⟨p2, h2, t1.trans t2⟩
theorem pk3 {a : Mad} {n A s c : Nat} {x : Ms} {bA bS bC : Blk} {h p : SH} {e : Enc} (hb : EncT n (msB a x ((A, bA) :: (s, bS) :: (c, bC) :: h)) none e p) : (∃ p1, Pick p A bA p1) ∧ (∃ p1, Pick p s bS p1) ∧ ∃ p1, Pick p c bC p1 :=
  ⟨hb.pick (.tail (.tail (.tail (.tail (.tail (.tail (.tail (.tail .head)))))))), hb.pick (.tail (.tail (.tail (.tail (.tail (.tail (.tail (.tail (.tail .head))))))))), hb.pick (.tail (.tail (.tail (.tail (.tail (.tail (.tail (.tail (.tail (.tail .head)))))))))) ⟩
theorem write_any (a : Mad) (n s c m : Nat) (x : Ms) (e : Enc) (t : Pc) (h p : SH) (hb : EncT n (msB a x ((s, ⟨setC a, false⟩) :: (c, ⟨[gptr n 0 3], false⟩) :: h)) none e p) (hx : MsOk x) (hok : EncOk m e) (hm : m + 800 ≤ 999000) (ht : vPb t) :
    SRun Try.prog 27 [pcV t, gptr s 0 4, gptr c 0 1] p fun r q => r = .tuple #[] ∧ EncT n (msB a (wst (x, e) t).1 ((s, ⟨setC a, false⟩) :: (c, ⟨[gptr n 0 3], false⟩) :: h)) none (wst (x, e) t).2 q := by
  refine srun_post ?_
  obtain ⟨hv, hy⟩ := ht
  obtain ⟨l, d, y⟩ := t
  dsimp only at hv hy
  refine w_body3 Try.func27 rfl rfl ?_
  repeat' ((fail_if_success (show SWp _ _ (Code.seq (Code.region 1 _ _) _) _ _ _)); (fail_if_success (show SWp _ _ (Code.region 1 _ _) _ _ _)); first | apply w_seq | apply w_region | apply o_nil | (apply o_box (tt := tyT); iterate 5 exact rfl) | apply thenS_normal | intro A)
  obtain ⟨p1, hb1, t1⟩ := hb.add8 (y := (A, (⟨pcC (l, d, y), false⟩ : Blk)))
  obtain ⟨⟨pA, hA⟩, ⟨pS, hS⟩, ⟨pC, hC⟩⟩ := pk3 hb1
  refine SWp.take (b := [(1, gptr s 0 4), (2, gptr c 0 1), (3, gptr A 0 3)]) (by repeat' (first | exact trivial | refine ⟨rfl, ?_⟩ | refine ⟨congrArg some ?_, ?_⟩)) t1 ?_
  unfold wst
  by_cases h0 : d = 0
  · rw [if_pos h0]
    have hK := (kEncW a n m x e 0 _ p1 hb1 hx hok (by omega)).mono fun _ q g => And.intro g (pk3 g)
    have ok1 := tenc_ok (v := 0) (k := 1) (t := x.K) (j := 1) hok
    have hB := fun q g => (bEncW a n (m + 2) { x with K := (tenc 0 1 x.K e 1).1 } (tenc 0 1 x.K e 1).2 y ((A, (⟨pcC (l, d, y), false⟩ : Blk)) :: (s, ⟨setC a, false⟩) :: (c, ⟨[gptr n 0 3], false⟩) :: h) q g ⟨ok1.2.trans hx.K, hx.P, hx.c, hx.L, hx.D⟩ (ok1.1.mono (by omega)) (by omega) hy)
    generalize tenc 0 1 x.K e 1 = T at *
    dsimp only at hB ⊢
    generalize benc x.P x.c T.2 y = W at *
    repeat' (first | apply w_seq | apply w_region | apply o_nil | (apply o_g tyOk; exact rfl; exact rfl) | (apply o_load tyOk; (iterate 3 exact rfl); (focus (exact pk))) | (apply o_call; exact rfl; exact rfl; (focus (first | exact rfl | assumption)); exact rfl; (focus (exact ⟨_, hK, by repeat (first | with_reducible exact Take.nil | with_reducible apply Take.c | with_reducible apply Take.drop)⟩)); rintro _ _ ⟨hb2, ⟨pA2, hA2⟩, ⟨pS2, hS2⟩, ⟨pC2, hC2⟩⟩) | (apply o_call; exact rfl; exact rfl; (focus (first | exact rfl | assumption)); exact rfl; (focus (exact ⟨_, hB _ hb2, by repeat (first | with_reducible exact Take.nil | with_reducible apply Take.c | with_reducible apply Take.drop)⟩)); rintro _ _ hb3) | (apply w_dT; exact rfl; (focus (first | exact ‹_› | with_reducible exact rfl | omega))) | apply thenS_normal | apply thenS_ret | apply w_ret | ((with_reducible apply Sd.mk); (first | exact True.intro | omega | (constructor <;> first | omega | (unfold maxLen; omega)) | (unfold maxLen; omega))) | ((with_reducible apply Ln.mk); (first | rfl | exact ‹_› | omega | (simp ; first | done | omega))) | ((with_reducible apply Ce.mk); (first | rfl | exact ‹_› | exact cell_recZ (fun _ => rfl) (by omega) (by decide) rfl | exact cell_rec (fun _ => rfl) (by omega) (by decide) rfl | exact cell_bytes (by omega) | exact cell_mapZ (by omega) | exact cell_map (by omega))) | exact True.intro | exact rfl)
    all_goals first
      | (exfalso; omega)
      | (apply s_fin; (exact (show ResS _ _ _ _ [] from trivial)); (focus (exact (hb3.re Take.dn8).imp fun _ g => ⟨⟨rfl, g.1⟩, g.2⟩)); (focus (repeat (first | with_reducible exact Take.nil | with_reducible apply Take.c | ((with_reducible apply Take.cE); (first | exact rfl | (apply blkE; (focus (first | exact rfl | exact recs_snocE rfl | exact map_snocE rfl | exact congrArg (fun v => [v]) (gslE rfl rfl (by first | rfl | exact ‹_› | omega | (simp ; first | done | omega)) (by first | rfl | exact ‹_› | omega | (simp ; first | done | omega)) rfl)))))) | with_reducible apply Take.drop))))
      | trace_state
  · rw [if_neg h0]
    have hK := (kEncW a n m x e 1 _ p1 hb1 hx hok (by omega)).mono fun _ q g => And.intro g (pk3 g)
    have ok1 := tenc_ok (v := 1) (k := 1) (t := x.K) (j := 1) hok
    have ok2 := nenc_ok (t := x.L) ok1.1 (l - 2)
    have hL := fun q g => (lEncW a n (m + 2) { x with K := (tenc 1 1 x.K e 1).1 } (tenc 1 1 x.K e 1).2 (l - 2) ((A, (⟨pcC (l, d, y), false⟩ : Blk)) :: (s, ⟨setC a, false⟩) :: (c, ⟨[gptr n 0 3], false⟩) :: h) q g ⟨ok1.2.trans hx.K, hx.P, hx.c, hx.L, hx.D⟩ (ok1.1.mono (by omega)) (by omega)).mono fun _ q g => And.intro g (pk3 g)
    have hD := fun q g => (dEncW a n (m + 138) { x with K := (tenc 1 1 x.K e 1).1, L := (nenc x.L (tenc 1 1 x.K e 1).2 (l - 2)).1 } (nenc x.L (tenc 1 1 x.K e 1).2 (l - 2)).2 (d - 1) ((A, (⟨pcC (l, d, y), false⟩ : Blk)) :: (s, ⟨setC a, false⟩) :: (c, ⟨[gptr n 0 3], false⟩) :: h) q g ⟨ok1.2.trans hx.K, hx.P, hx.c, ok2.2.trans hx.L, hx.D⟩ (ok2.1.mono (by omega)) (by omega))
    generalize tenc 1 1 x.K e 1 = T at *
    dsimp only at hL hD ⊢
    generalize nenc x.L T.2 (l - 2) = V at *
    generalize nenc x.D V.2 (d - 1) = W at *
    have hdl : 1 ≤ d ∧ d ≤ 4096 ∧ 2 ≤ l ∧ l ≤ 273 := by rcases hv with g | g <;> (dsimp only at g; omega)
    repeat' (first | apply w_seq | apply w_region | apply o_nil | (apply o_g tyOk; exact rfl; exact rfl) | (apply o_ar tyOk; exact rfl; exact rfl) | (apply o_load tyOk; (iterate 3 exact rfl); (focus (exact pk))) | (apply o_call; exact rfl; exact rfl; (focus (first | exact rfl | assumption)); exact rfl; (focus (exact ⟨_, hK, by repeat (first | with_reducible exact Take.nil | with_reducible apply Take.c | with_reducible apply Take.drop)⟩)); rintro _ _ ⟨hb2, ⟨pA2, hA2⟩, ⟨pS2, hS2⟩, ⟨pC2, hC2⟩⟩) | (apply o_call; exact rfl; exact rfl; (focus (first | exact rfl | assumption)); exact rfl; (focus (exact ⟨_, hL _ hb2, by repeat (first | with_reducible exact Take.nil | with_reducible apply Take.c | with_reducible apply Take.drop)⟩)); rintro _ _ ⟨hb3, ⟨pA3, hA3⟩, ⟨pS3, hS3⟩, ⟨pC3, hC3⟩⟩) | (apply o_call; exact rfl; exact rfl; (focus (first | exact rfl | assumption)); exact rfl; (focus (exact ⟨_, hD _ hb3, by repeat (first | with_reducible exact Take.nil | with_reducible apply Take.c | with_reducible apply Take.drop)⟩)); rintro _ _ hb4) | (apply w_dF; exact rfl; (focus (first | exact ‹_› | with_reducible exact rfl | omega))) | apply thenS_normal | apply w_skip | ((with_reducible apply Sd.mk); (first | exact True.intro | omega | (constructor <;> first | omega | (unfold maxLen; omega)) | (unfold maxLen; omega))) | ((with_reducible apply Ln.mk); (first | rfl | exact ‹_› | omega | (simp ; first | done | omega))) | ((with_reducible apply Wr.mk); (first | exact IntWalk.i64_in _ (by omega) | exact IntWalk.u8_in _ (by omega) | exact IntWalk.u32_in _ (by omega) | exact IntWalk.u64_in _ (by omega) | exact IntKind.wrap_u8 _ | exact IntKind.wrap_u32 _ | rfl)) | ((with_reducible apply Ce.mk); (first | rfl | exact ‹_› | exact cell_recZ (fun _ => rfl) (by omega) (by decide) rfl | exact cell_rec (fun _ => rfl) (by omega) (by decide) rfl | exact cell_bytes (by omega) | exact cell_mapZ (by omega) | exact cell_map (by omega))) | exact True.intro | exact rfl)
    all_goals first
      | (exfalso; omega)
      | (apply s_finN; (exact (show ResS _ _ _ _ [] from trivial)); (focus (exact (hb4.re Take.dn8).imp fun _ g => ⟨⟨rfl, g.1⟩, g.2⟩)); (focus (repeat (first | with_reducible exact Take.nil | with_reducible apply Take.c | ((with_reducible apply Take.cE); (first | exact rfl | (apply blkE; (focus (first | exact rfl | exact recs_snocE rfl | exact map_snocE rfl | exact congrArg (fun v => [v]) (gslE rfl rfl (by first | rfl | exact ‹_› | omega | (simp ; first | done | omega)) (by first | rfl | exact ‹_› | omega | (simp ; first | done | omega)) rfl)))))) | with_reducible apply Take.drop))))
      | trace_state
end Go.Proofs.Ytgooffiipnkmiaa
end
section
set_option linter.unusedVariables false
set_option linter.unusedSimpArgs false
set_option maxRecDepth 4000
namespace Go.Proofs.Ytgooffiipnkmiaa
open Go.Gh Go.RowKit

def lcst : Cst := ⟨9, 12, 1, 1⟩
theorem lcst_ok : vC lcst := by unfold vC one1 lcst; decide
def pcs (l : List UInt8) : List Pc := (parse lcst l 4096).1
theorem pcs_cov {l : List UInt8} (hl : l.length ≤ 4096) : Cov l 4096 0 (pcs l) := parse_cov lcst_ok (by decide) hl
theorem pcs_err (l : List UInt8) : (parse lcst l 4096).2 = if 4096 < l.length then 9 else 0 := by
  unfold parse
  rw [if_pos ⟨lcst_ok, by decide⟩]
  split <;> rfl
theorem cov_vPb {l : List UInt8} {w : Int} (hw : w ≤ 4096) {ps : List Pc} {i : Nat} (h : Cov l w i ps) : ∀ t ∈ ps, vPb t := fun t ht => ⟨cov_vPs hw h t ht, cov_bytes h t ht⟩
theorem cov_psum {l : List UInt8} {w : Int} (hw : w ≤ 4096) : ∀ {ps : List Pc} {i : Nat}, Cov l w i ps → i + psum ps = l.length
  | [], i, h => by show i + 0 = _; have : i = l.length := h; omega
  | t :: r, i, h => by
    have h1 := cov_psum hw h.2
    show i + (t.1.toNat + psum r) = _
    omega
theorem Pieces_any (l : List UInt8) (h : SH) (hl : l.length ≤ 9223372036854775807) : SRun Try.prog 11 [S l] h fun r q =>
    ∃ v, r = .tuple #[v, I (if 4096 < l.length then 9 else 0)] ∧ Has q (recs pcC (pcs l)) 3 (pcs l).length v ∧ Take q h := by
  have hP : ∀ h, SRun Try.prog 22 [csV ⟨9, 12, 1, 1⟩, S l, I 4096] h fun r q => ∃ v, r = .tuple #[v, I (if 4096 < l.length then 9 else 0)] ∧ Has q (recs pcC (pcs l)) 3 (pcs l).length v ∧ Take q h :=
    fun h => (Parse_any lcst l 4096 h hl).mono fun r q ⟨v, g1, g2⟩ => ⟨v, by rw [g1, pcs_err], g2.has⟩
  generalize pcs l = L at *
  generalize (if 4096 < l.length then (9 : Int) else 0) = E at *
  refine w_body1 Try.func11 rfl rfl ?_
  repeat' (first | apply w_seq | apply w_region | apply o_nil | (apply o_g tyOk; exact rfl; exact rfl) | (apply o_build tyOk; exact rfl; exact rfl; (focus (first | with_reducible exact pl46)); exact rfl; (focus (repeat (first | exact BuildR.nil | (apply BuildR.one; exact rfl; exact rfl; (first | (focus ((repeat (first | exact SetAt.zero | apply SetAt.succ)); done)) | exact setAt_bytes (by omega) (by omega) | exact setAt_mapZ (by omega) | exact setAt_map (by omega))) | (apply BuildR.agg; exact rfl; exact rfl; (first | exact putAt_all rfl | exact putAt_recZ (fun _ => rfl) (by omega) | exact putAt_rec (fun _ => rfl) (by omega)))))); exact rfl) | (apply o_call; exact rfl; exact rfl; (focus (first | exact rfl | assumption)); exact rfl; (focus (exact ⟨_, hP _, by repeat (first | with_reducible exact Take.nil | with_reducible apply Take.c | with_reducible apply Take.drop)⟩)); rintro _ _ ⟨v, rfl, hv, ht⟩) | apply thenS_normal | apply w_ret | ((with_reducible apply Sd.mk); (first | exact True.intro | omega | (constructor <;> first | omega | (unfold maxLen; omega)) | (unfold maxLen; omega))))
  (apply s_fin; (exact (show ResS _ _ _ _ [_, _] from ⟨rfl, ⟨rfl, trivial⟩⟩)); (focus (exact ⟨v, rfl, hv, ht⟩)); (focus (repeat (first | with_reducible exact Take.nil | with_reducible apply Take.c | ((with_reducible apply Take.cE); (first | exact rfl | (apply blkE; (focus (first | exact rfl | exact recs_snocE rfl | exact map_snocE rfl | exact congrArg (fun v => [v]) (gslE rfl rfl (by first | rfl | exact ‹_› | omega | (simp ; first | done | omega)) (by first | rfl | exact ‹_› | omega | (simp ; first | done | omega)) rfl)))))) | with_reducible apply Take.drop))))
theorem psum_app (a b : List Pc) : psum (a ++ b) = psum a + psum b := by
  induction a with
  | nil => exact (Nat.zero_add _).symm
  | cons t r ih => show t.1.toNat + psum (r ++ b) = t.1.toNat + psum r + psum b; omega
theorem wrun_snoc (l : List Pc) (t : Pc) (s : Ms × Enc) : wrun (l ++ [t]) s = wst (wrun l s) t := by unfold wrun; rw [List.foldl_append]; rfl
def zs0 : Ms × Enc := (ms0, encZ)
/-- The bytes of a text of n bytes that is written as some pieces. -/
def wrt (n : Nat) (ps : List Pc) : List UInt8 := vnum n ++ fin (wrun ps zs0).2
/-- What Encode gives. -/
def lzE (l : List UInt8) : List UInt8 × Int := if 4096 < l.length then ([], 9) else (if l = [] then vnum 0 else wrt l.length (pcs l), 0)
theorem ztake_bang {α : Type} [Inhabited α] {l : List α} {i : Nat} (h : i < l.length) : l.take (i + 1) = l.take i ++ [l[i]!] := by
  rw [getElem!_pos l i h]; exact (List.take_append_getElem h).symm
theorem psum_all {l : List Pc} {i : Nat} : psum (l.take i) ≤ psum l := by
  have h1 := psum_app (l.take i) (l.drop i)
  rw [List.take_append_drop] at h1
  omega
theorem wrunT_ok {ps : List Pc} (hv : ∀ t ∈ ps, vPb t) (i : Nat) : MsOk (wrun (ps.take i) zs0).1 ∧ EncOk (137 * psum ps) (wrun (ps.take i) zs0).2 := by
  have h := wrun_ok (l := ps.take i) (s := zs0) ms0_ok encZ_ok (fun t ht => hv t (List.mem_of_mem_take ht))
  have := psum_all (l := ps) (i := i)
  exact ⟨h.1, h.2.mono (by omega)⟩
abbrev WF (s c : Nat) : Value := .func (.func 27) ⟨[]⟩ ⟨[gptr s 0 4, gptr c 0 1]⟩
theorem Encode_any' (l : List UInt8) (h : SH) (hl : l.length ≤ 9223372036854775807) : SRun Try.prog 13 [S l] h fun r q => r = .tuple #[S (lzE l).1, I (lzE l).2] ∧ q = h := by
  have hP := fun h => Pieces_any l h hl
  have hN := fun h => Number_any (l.length : Int) h (by omega)
  by_cases hbig : 4096 < l.length
  · rw [show lzE l = ([], 9) from if_pos hbig]
    simp only [if_pos hbig] at hP
    refine w_body1 Try.func13 rfl rfl ?_
    repeat' (first | apply w_seq | apply w_region | apply o_nil | (apply o_g tyOk; exact rfl; exact rfl) | (apply o_call; exact rfl; exact rfl; (focus (first | exact rfl | assumption)); exact rfl; (focus (exact ⟨_, hP _, by repeat (first | with_reducible exact Take.nil | with_reducible apply Take.c | with_reducible apply Take.drop)⟩)); rintro _ _ ⟨v, rfl, hv, ht⟩) | (apply w_true; exact rfl) | apply thenS_normal | apply thenS_ret | apply w_ret | ((with_reducible apply Sd.mk); (first | exact True.intro | omega | (constructor <;> first | omega | (unfold maxLen; omega)) | (unfold maxLen; omega))))
    all_goals first
      | (exfalso; omega)
      | (apply s_fin; (exact (show ResS _ _ _ _ [_, _] from ⟨rfl, ⟨rfl, trivial⟩⟩)); (focus (exact ⟨rfl, rfl⟩)); (focus (repeat (first | with_reducible exact Take.nil | exact ht | with_reducible apply Take.c | ((with_reducible apply Take.cE); (first | exact rfl | (apply blkE; (focus (first | exact rfl | exact recs_snocE rfl | exact map_snocE rfl | exact congrArg (fun v => [v]) (gslE rfl rfl (by first | rfl | exact ‹_› | omega | (simp ; first | done | omega)) (by first | rfl | exact ‹_› | omega | (simp ; first | done | omega)) rfl)))))) | with_reducible apply Take.drop))))
      | trace_state
  · simp only [if_neg hbig] at hP
    by_cases h0 : l = []
    · subst h0
      rw [show lzE [] = (vnum 0, 0) from rfl]
      refine w_body1 Try.func13 rfl rfl ?_
      repeat' (first | apply w_seq | apply w_region | apply o_nil | (apply o_g tyOk; exact rfl; exact rfl) | (apply o_call; exact rfl; exact rfl; (focus (first | exact rfl | assumption)); exact rfl; (focus (exact ⟨_, hP _, by repeat (first | with_reducible exact Take.nil | with_reducible apply Take.c | with_reducible apply Take.drop)⟩)); rintro _ _ ⟨v, rfl, hv, ht⟩) | (apply o_call; exact rfl; exact rfl; (focus (first | exact rfl | assumption)); exact rfl; (focus (exact ⟨_, hN _, by repeat (first | with_reducible exact Take.nil | with_reducible apply Take.c | with_reducible apply Take.drop)⟩)); rintro _ _ ⟨rfl, rfl⟩) | (apply w_true; exact rfl) | (apply w_false; exact rfl) | apply thenS_normal | apply thenS_ret | apply w_skip | apply w_ret | ((with_reducible apply Sd.mk); (first | exact True.intro | omega | (constructor <;> first | omega | (unfold maxLen; omega)) | (unfold maxLen; omega))))
      all_goals first
        | contradiction
        | (apply s_fin; (exact (show ResS _ _ _ _ [_, _] from ⟨rfl, ⟨rfl, trivial⟩⟩)); (focus (exact ⟨rfl, rfl⟩)); (focus (repeat (first | with_reducible exact Take.nil | exact ht | with_reducible apply Take.c | ((with_reducible apply Take.cE); (first | exact rfl | (apply blkE; (focus (first | exact rfl | exact recs_snocE rfl | exact map_snocE rfl | exact congrArg (fun v => [v]) (gslE rfl rfl (by first | rfl | exact ‹_› | omega | (simp ; first | done | omega)) (by first | rfl | exact ‹_› | omega | (simp ; first | done | omega)) rfl)))))) | with_reducible apply Take.drop))))
        | trace_state
    · rw [show lzE l = (wrt l.length (pcs l), 0) by unfold lzE; rw [if_neg hbig, if_neg h0]]
      have hcv := pcs_cov (l := l) (by omega)
      have hvp := cov_vPb (by omega) hcv
      have hps := cov_psum (by omega) hcv
      have hl0 : l.length ≠ 0 := fun g => h0 (List.length_eq_zero_iff.1 g)
      have hpl := cov_short (by omega) hcv
      unfold wrt
      generalize pcs l = ps at *
      have hpn : ps.length ≠ 0 := fun g => by
        rw [List.length_eq_zero_iff.1 g] at hps
        exact hl0 (by rw [← hps]; rfl)
      refine w_body1 Try.func13 rfl rfl ?_
      repeat' (first | apply w_seq | apply w_region | apply o_nil | (apply o_g tyOk; exact rfl; exact rfl) | (apply o_store tyOk; (iterate 4 exact rfl); (focus (exact up))) | (apply o_stores tyOk; (iterate 4 exact rfl); (focus (exact ⟨rfl⟩)); (focus (exact up))) | (apply o_alloc tyOk; iterate 5 exact rfl) | (apply o_makeFunc; iterate 3 exact rfl) | (apply o_call; exact rfl; exact rfl; (focus (first | exact rfl | assumption)); exact rfl; (focus (exact ⟨_, hP _, by repeat (first | with_reducible exact Take.nil | with_reducible apply Take.c | with_reducible apply Take.drop)⟩)); rintro _ _ ⟨v, rfl, ⟨ad, fl, rfl, hh⟩, ht⟩) | (apply o_call; exact rfl; exact rfl; (focus (first | exact rfl | assumption)); exact rfl; (focus (exact ⟨_, hN _, by repeat (first | with_reducible exact Take.nil | with_reducible apply Take.c | with_reducible apply Take.drop)⟩)); rintro _ _ ⟨rfl, rfl⟩) | (apply o_call; exact rfl; exact rfl; (focus (first | exact rfl | assumption)); exact rfl; (focus (exact ⟨_, newSet_any _, by repeat (first | with_reducible exact Take.nil | with_reducible apply Take.c | with_reducible apply Take.drop)⟩)); rintro _ _ ⟨a, rfl, rfl⟩) | (apply o_call; exact rfl; exact rfl; (focus (first | exact rfl | assumption)); exact rfl; (focus (exact ⟨_, NewEncoderT _, by repeat (first | with_reducible exact Take.nil | with_reducible apply Take.c | with_reducible apply Take.drop)⟩)); rintro _ _ ⟨n, rfl, rfl⟩) | (apply w_false; exact rfl) | (apply w_dF; exact rfl; (focus (first | exact ‹_› | with_reducible exact rfl | omega))) | apply thenS_normal | apply w_skip | apply w_block | ((with_reducible apply Sd.mk); (first | exact True.intro | omega | (constructor <;> first | omega | (unfold maxLen; omega)) | (unfold maxLen; omega))) | ((with_reducible apply Ln.mk); (first | rfl | exact ‹_› | omega | (simp ; first | done | omega))) | ((with_reducible apply Se.mk); (first | (focus ((repeat (first | exact SetAt.zero | apply SetAt.succ)); done)) | exact setAt_bytes (by omega) (by omega) | exact setAt_mapZ (by omega) | exact setAt_map (by omega))) | ((with_reducible apply Pu.mk); (first | exact putAt_all rfl | exact putAt_recZ (fun _ => rfl) (by omega) | exact putAt_rec (fun _ => rfl) (by omega))) | exact True.intro | intro A)
      all_goals first | contradiction | skip
      rename_i q0 s
      refine w_loop (S := Nat × SH) (fun x => [(6, S (vnum l.length)), (8, gptr A 0 1), (9, WF s A), (29, .slice ad ps.length fl), (30, I ps.length), (31, I x.1)]) (fun x => x.2)
        (fun x => x.1 ≤ ps.length ∧ EncT n (msB a (wrun (ps.take x.1) zs0).1 ((s, ⟨setC a, false⟩) :: (A, ⟨[gptr n 0 3], false⟩) :: q0)) none (wrun (ps.take x.1) zs0).2 x.2) (fun x => ps.length - x.1)
        (0, (n, ⟨encC (.slice none 0 0) 0 4294967295, false⟩) :: msB a ms0 ((s, ⟨setC a, false⟩) :: (A, ⟨[gptr n 0 3], false⟩) :: q0)) ⟨Nat.zero_le _, .nil _ _ rfl⟩ (by repeat' (first | exact trivial | refine ⟨rfl, ?_⟩ | refine ⟨congrArg some ?_, ?_⟩)) (by repeat (first | with_reducible exact Take.nil | with_reducible apply Take.c | ((with_reducible apply Take.cE); (first | exact rfl | (apply blkE; (focus (first | exact rfl | exact recs_snocE rfl | exact map_snocE rfl | exact congrArg (fun v => [v]) (gslE rfl rfl (by first | rfl | exact ‹_› | omega | (simp ; first | done | omega)) (by first | rfl | exact ‹_› | omega | (simp ; first | done | omega)) rfl)))))) | with_reducible apply Take.drop)) ?_
      rintro ⟨i, p⟩ ⟨hi, hb⟩
      dsimp only at hi hb ⊢
      have hok := wrunT_ok hvp i
      obtain ⟨pC, hpC⟩ : ∃ p1, Pick p A ⟨[gptr n 0 3], false⟩ p1 := hb.pick (.tail (.tail (.tail (.tail (.tail (.tail (.tail (.tail (.tail .head)))))))))
      by_cases hil : i < ps.length
      · obtain ⟨A', ro, h1, rfl, hp⟩ := hh (by omega)
        obtain ⟨pA, hpA⟩ := hb.pick (.tail (.tail (.tail (.tail (.tail (.tail (.tail (.tail (.tail (.tail hp))))))))))
        have hW : ∀ A2 b2, SRun Try.prog 27 [pcV ps[i]!, gptr s 0 4, gptr A 0 1] ((A2, b2) :: p) fun r q => r = .tuple #[] ∧ EncT n (msB a (wrun (ps.take (i + 1)) zs0).1 ((s, ⟨setC a, false⟩) :: (A, ⟨[gptr n 0 3], false⟩) :: q0)) none (wrun (ps.take (i + 1)) zs0).2 q := fun A2 b2 => by
          rw [ztake_bang hil, wrun_snoc]
          exact (write_any a n s A _ _ _ ps[i]! q0 p hb hok.1 hok.2 (by omega) (hvp _ (bang_mem hil))).take (.drop .nil)
        repeat' (first | apply w_seq | apply w_region | apply o_nil | (apply o_g tyOk; exact rfl; exact rfl) | (apply o_ar tyOk; exact rfl; exact rfl) | (apply o_loads tyOk; (iterate 3 exact rfl); (focus (exact pk))) | (apply o_stores tyOk; (iterate 4 exact rfl); (focus (exact ⟨rfl⟩)); (focus (exact up))) | (apply o_alloc tyOk; iterate 5 exact rfl) | (apply o_call; exact rfl; exact rfl; (focus (first | exact rfl | assumption)); exact rfl; (focus (exact ⟨_, hW _ _, by repeat (first | with_reducible exact Take.nil | with_reducible apply Take.c | with_reducible apply Take.drop)⟩)); rintro _ _ ⟨rfl, hb2⟩) | (apply w_dT; exact rfl; (focus (first | exact ‹_› | with_reducible exact rfl | omega))) | apply thenS_normal | apply blockS_normal | apply w_skip | apply w_block | ((with_reducible apply Sd.mk); (first | exact True.intro | omega | (constructor <;> first | omega | (unfold maxLen; omega)) | (unfold maxLen; omega))) | ((with_reducible apply Ln.mk); (first | rfl | exact ‹_› | omega | (simp ; first | done | omega))) | ((with_reducible apply Wr.mk); (first | exact IntWalk.i64_in _ (by omega) | exact IntWalk.u8_in _ (by omega) | exact IntWalk.u32_in _ (by omega) | exact IntWalk.u64_in _ (by omega) | exact IntKind.wrap_u8 _ | exact IntKind.wrap_u32 _ | rfl)) | ((with_reducible apply Pu.mk); (first | exact putAt_all rfl | exact putAt_recZ (fun _ => rfl) (by omega) | exact putAt_rec (fun _ => rfl) (by omega))) | ((with_reducible apply Su.mk); (first | exact subAt_all | exact subAt_recZ (fun _ => rfl) (by omega) | exact subAt_rec (fun _ => rfl) (by omega))) | exact True.intro | intro A | exact rfl)
        all_goals first
          | (exfalso; omega)
          | exact ⟨(i + 1, _), ⟨hil, hb2⟩, by show ps.length - (i + 1) < ps.length - i; omega, (by repeat' (first | exact trivial | refine ⟨rfl, ?_⟩ | refine ⟨congrArg some ?_, ?_⟩)), Take.nil⟩
          | trace_state
      · obtain rfl : i = ps.length := by omega
        rw [List.take_length] at hb hok
        have hs1 := vnum_len (n := (l.length : Int)) (by omega)
        have hs2 := (vk_ok (n := (l.length : Int)) (by omega)).2
        have hs3 : (fin (wrun ps zs0).2).length = (wrun ps zs0).2.out.length + 4 := by simp [fin, tail4]
        have hs4 := hok.2.out
        have hF := Finish_any n (wrun ps zs0).2 p hb.b.r (by omega) hok.2.low
        generalize fin (wrun ps zs0).2 = F at *
        repeat' (first | apply w_seq | apply w_region | apply o_nil | (apply o_g tyOk; exact rfl; exact rfl) | (apply o_load tyOk; (iterate 3 exact rfl); (focus (exact pk))) | (apply o_call; exact rfl; exact rfl; (focus (first | exact rfl | assumption)); exact rfl; (focus (exact ⟨_, hF, by repeat (first | with_reducible exact Take.nil | exact hb.b.take.trans (.drop (.drop (.drop (.drop (.drop (.drop (.drop (.drop (.drop (.drop ht)))))))))) | with_reducible apply Take.c | with_reducible apply Take.drop)⟩)); rintro _ _ ⟨rfl, rfl⟩) | (apply w_dF; exact rfl; (focus (first | exact ‹_› | with_reducible exact rfl | omega))) | apply thenS_normal | apply thenS_exit | apply blockS_exit | apply w_ret | apply w_exit | ((with_reducible apply Sd.mk); (first | exact True.intro | omega | (constructor <;> first | omega | (unfold maxLen; omega)) | (unfold maxLen; omega))) | ((with_reducible apply Ln.mk); (first | rfl | exact ‹_› | omega | (simp ; first | done | omega))) | ((with_reducible apply Ce.mk); (first | rfl | exact ‹_› | exact cell_recZ (fun _ => rfl) (by omega) (by decide) rfl | exact cell_rec (fun _ => rfl) (by omega) (by decide) rfl | exact cell_bytes (by omega) | exact cell_mapZ (by omega) | exact cell_map (by omega))) | exact True.intro | exact rfl)
        all_goals first
          | (exfalso; omega)
          | (apply s_fin; (exact (show ResS _ _ _ _ [_, _] from ⟨rfl, ⟨rfl, trivial⟩⟩)); (focus (exact ⟨rfl, rfl⟩)); (focus (repeat (first | with_reducible exact Take.nil | exact hb.b.take.trans (.drop (.drop (.drop (.drop (.drop (.drop (.drop (.drop (.drop (.drop ht)))))))))) | with_reducible apply Take.c | ((with_reducible apply Take.cE); (first | exact rfl | (apply blkE; (focus (first | exact rfl | exact recs_snocE rfl | exact map_snocE rfl | exact congrArg (fun v => [v]) (gslE rfl rfl (by first | rfl | exact ‹_› | omega | (simp ; first | done | omega)) (by first | rfl | exact ‹_› | omega | (simp ; first | done | omega)) rfl)))))) | with_reducible apply Take.drop))))
          | trace_state
end Go.Proofs.Ytgooffiipnkmiaa
end
section
set_option linter.unusedVariables false
set_option linter.unusedSimpArgs false
set_option maxRecDepth 4000
namespace Go.Proofs.Ytgooffiipnkmiaa
open Go.Gh Go.RowKit

theorem rdN_ok (l : List UInt8) (m : Int) : (rdN l m).2.1.length ≤ l.length ∧ ((rdN l m).2.2 = 0 → 0 ≤ (rdN l m).1 ∧ (rdN l m).1 ≤ m) := by
  unfold rdN
  split
  · exact ⟨Nat.le_refl _, fun h => absurd h (by show ¬ (12 : Int) = 0; decide)⟩
  · split
    · exact ⟨Nat.le_refl _, fun h => absurd h (by show ¬ (2 : Int) = 0; decide)⟩
    · dsimp only
      rw [List.length_drop]
      omega
end Go.Proofs.Ytgooffiipnkmiaa
end
section
set_option linter.unusedVariables false
set_option linter.unusedSimpArgs false
set_option maxRecDepth 4000
namespace Go.Proofs.Ytgooffiipnkmiaa
open Go.Gh Go.RowKit

theorem ndec_ok {t : List Int} {d : Dec} (h : DecOk d) (ht : t.length = 64) : DecOk (ndec t d).2.1 ∧ (ndec t d).1.length = 64 := by
  obtain ⟨h1, h2, h3⟩ := tdec_ok (k := 6) (t := t) (j := 1) h
  refine ⟨?_, h2.trans ht⟩
  show DecOk (if _ then _ else _)
  split
  · exact h1
  · exact ddir_ok h1 _
end Go.Proofs.Ytgooffiipnkmiaa
end
