/- The ghost heap: append, cuts of slices and arrays, conversions, equality of structs. -/
import Derived.Test.YtinfmojbdaiogaaGhE
set_option linter.unusedVariables false
set_option linter.unusedSimpArgs false
set_option maxRecDepth 4000
namespace Go.Gh
open Go.RowKit

theorem run_append_room' {P : Program} (w : World) (t ty e : TypeId) (i : TypeInfo) (ht : P.underlying t = some (.slice e)) (hi : P.info? e = some i)
    (b sLen sCap : Nat) {c : Array Value} {T : TypeId} {fz : Nat × Nat} (hg : w.heap[b]? = some (.cells c T fz)) (hfz : ∀ i, i < c.size → ¬ (fz.1 ≤ i ∧ i < fz.2))
    (a : Addr) (m k : Nat) (news : List Value) (hl : news.length = m * i.size) (hnews : ∀ j u, news[j]? = some u → w.cell? (a.add j) = some u) (h1 : ∀ u ∈ news, u.oneCell' = true)
    (hroom : sLen + m ≤ sCap) (hfit : sLen * i.size + news.length ≤ c.size) :
    (Builtin.append_ #[t, t] ty #[.slice (some ⟨b, 0, none⟩) sLen sCap, .slice (some a) m k]).run P w =
      .ok (.slice (some ⟨b, 0, none⟩) (sLen + m) sCap) (w.setCells b (sLen * i.size) news) := by
  have hf := run_firstCells_some (P := P) w i.size m a m k news hl hnews
  have hst := run_storeCells_in (P := P) hg hfit hfz h1
  simp [Builtin.append_, run_underlying ht, sizeOf, typeInfo, hi, Builtin.lenOf, hroom, hf, Addr.add_lit, hst]

section
variable {P : Program} {N : Fr} {ops : Array Oper} {Q : Post} {rest : List Oper} {o : Oper} {a : AF} {H : Heap}

theorem exec_append {ρ : Operand → Value} {t u : TypeId} {x y : Operand} {v : Value} {w w' : World} (ho : o.op = .call { callee := .builtin .append, args := #[x, y], argTypes := #[t, u] })
    (hr : (Builtin.append_ #[t, u] o.type #[ρ x, ρ y]).run P w = .ok v w') : (execOp ρ o).run P w = .ok (.value v) w' := by
  unfold execOp
  simp only [ho, resolve, invoke, builtin, Sem.run_bind, Sem.run_pure, Result.andThen_ok, List.map_toArray, List.map_cons, List.map_nil, hr]

theorem slc_cells {B0 : Nat} {w0 : World} {φ : Nat → Loc} {w : World} (_r : Rel B0 w0 φ H w) {A off n len fl : Nat} {g : Blk} (hA : H[A]? = some (some g)) (hn : g.cells.length = n)
    {u : Value} (hu : Val φ (lens H) (gsl A off n len fl) u) :
    ∃ cap, u = .slice (some ⟨(φ A).b, (φ A).base + off, none⟩) len cap ∧ len ≤ cap ∧ cap ≤ maxLen ∧ (fl ≠ 0 → (φ A).base + off + cap * fl ≤ (φ A).size) ∧ (φ A).mp = false := by
  cases hu with
  | slc _ _ _ m _ _ cap c hL hv hc hm h =>
    rw [lens_of hA] at hL
    simp only [Option.some.injEq] at hL
    obtain ⟨h1, h2⟩ := h (by omega)
    exact ⟨cap, by rw [h1], hc, hm, h2⟩

theorem vrel_one {φ : Nat → Loc} {L : Lens} {vs us : List Value} (h : VRel φ L vs us.toArray) (h1 : vs.all one = true) : ∀ u ∈ us, u.oneCell' = true := by
  intro u hu
  obtain ⟨i, hi, rfl⟩ := List.getElem_of_mem hu
  have hvl : i < vs.length := by have := h.size; simp at this; omega
  obtain ⟨v', k1, k2⟩ := h.get i vs[i] (by simp [hvl])
  have := (one_rel k2 ((List.all_eq_true.1 h1) vs[i] (List.getElem_mem hvl))).1
  rw [show v' = us[i] from by simp [hi] at k1; exact k1.symm] at this
  exact this

/-- append of a slice to a slice of the ghost's own; its block grows. -/
theorem e_append (T : TypeId) (x y : Operand) {A n len A2 off2 n2 m fl2 E s b : Nat} {z : Value} {cells news : List Value} {g2 : Blk}
    (ho : o.op = .call { callee := .builtin .append, args := #[x, y], argTypes := #[T, T] }) (hx : ev a x = some (gsl A 0 n len s)) (hy : ev a y = some (gsl A2 off2 n2 m fl2))
    (hT : P.underlying T = some (.slice E)) (hI : tinf P E = some (some z, s, b)) (hzs : z.cells.size = s) (hs : 0 < s)
    (hA : H[A]? = some (some ⟨cells, false⟩)) (hn : cells.length = n) (hfull : len * s = n) (hA2 : H[A2]? = some (some g2)) (hn2 : g2.cells.length = n2)
    (hl : news.length = m * s) (hc : ∀ (i : Nat) v, news[i]? = some v → g2.cells[off2 + i]? = some v) (h1 : news.all one = true)
    (hb : (len + m) * b ≤ 140737488355328) (h63 : len + m ≤ maxLen)
    : AEff P N o a H (gsl A 0 (n + m * s) (len + m) s) (H.set A (some ⟨cells ++ news, false⟩)) := by
  refine eff_value (fun B0 w0 φ w ac r hf => ?_)
  obtain ⟨cap, hu, hlc, hcm, hsz, hmp⟩ := slc_cells r hA hn (ev_rel hf hx)
  obtain ⟨cap2, hu2, _, _, _, hmp2⟩ := slc_cells r hA2 hn2 (ev_rel hf hy)
  obtain ⟨us, hus, hucell⟩ := cells_rel r hA2 hmp2 off2 hc
  obtain ⟨olds, hold, hocell⟩ := cells_rel r hA hmp 0 (vs := cells) (fun i v h => by simpa using h)
  obtain ⟨c, T', fz, k1, k2, k3, k4, k5⟩ := (r.blk A _ hA).ex hmp
  obtain ⟨_, hbase⟩ := r.own A _ hA rfl
  obtain ⟨i, hi, e1, e2, e3⟩ := tinf_some hI
  subst e2 e3
  simp only at k3 k5
  rw [hbase] at hu k3 hocell
  simp only [Nat.add_zero] at hu hocell
  have hsz' := hsz (by omega)
  rw [hbase] at hsz'
  simp only [Nat.zero_add] at hsz'
  have hul : us.length = m * i.size := by have := hus.size; simp at this; omega
  have hol : olds.length = len * i.size := by have := hold.size; simp at this; omega
  have hone := vrel_one hus h1
  have hAlt := (List.getElem?_eq_some_iff.1 hA).1
  by_cases hroom : len + m ≤ cap
  · have hfit : len * i.size + us.length ≤ c.size := by
      rw [hul, k2, ← Nat.add_mul]; exact Nat.le_trans (Nat.mul_le_mul_right _ hroom) hsz'
    have hrun := run_append_room' (P := P) w T o.type E i hT hi (φ A).b len cap k1 (k4 rfl) _ m cap2 us hul hucell hone hroom hfit
    have hw := wrote_setCells us w (φ A).b (len * i.size) c T' fz k1
    have key := rel_set (w' := w.setCells (φ A).b (len * i.size) us) (g' := ⟨cells ++ news, false⟩) (l' := φ A) r hA rfl hw.os hw.tape hw.output (by rw [hw.size]; exact Nat.le_refl _) (fun k _ hk => hw.oth k hk) (.inl rfl) hbase hmp hmp hw.block (by rw [size_writesA]; exact k2)
      (by rw [size_writesA]; simp only [List.length_append]; omega) (by rw [size_writesA]; exact k4 rfl) (by
        by_cases hm0 : m = 0
        · subst hm0; exact .inl ⟨by simp at hl; simp [hl], rfl⟩
        · refine .inr ?_
          simp only [List.length_append]
          have : 0 < m * i.size := Nat.mul_pos (by omega) hs
          omega) (fun q v hq => ?_)
    · refine ⟨_, .slice (some ⟨(φ A).b, 0, none⟩) (len + m) cap, _, key.1, key.2, ?_, exec_append ho (by rw [hu, hu2]; exact hrun)⟩
      refine .slc _ _ _ (n + m * i.size) _ _ _ _ ?_ (Nat.le_refl _) hroom hcm (fun _ => ⟨by rw [upd_same, hbase], fun _ => by rw [upd_same, hbase]; omega, by rw [upd_same]; exact hmp⟩)
      rw [lens_set_eq hAlt]; simp [hn, hl]
    · have hext : Ext φ (lens H) (upd φ A (φ A)) (lens (H.set A (some ⟨cells ++ news, false⟩))) := by
        intro A' n' hn'
        by_cases e : A' = A
        · subst e
          rw [lens_of hA] at hn'
          simp only [Option.some.injEq] at hn'
          refine ⟨_, lens_set_eq hAlt, ?_⟩
          simp only [List.length_append]
          by_cases hz0 : news.length = 0
          · exact .inl ⟨by omega, by rw [upd_same]⟩
          · exact .inr ⟨by omega, fun h => by rw [hmp] at h; cases h⟩
        · exact ⟨n', by rw [lens_set_ne e]; exact hn', .inl ⟨rfl, upd_ne e⟩⟩
      rw [get_writesA _ _ _ _ hfit]
      simp only at hq
      by_cases hql : q < cells.length
      · rw [List.getElem?_append_left hql] at hq
        rw [if_neg (by omega)]
        obtain ⟨v', g3, g4⟩ := k5 q v hq
        rw [hbase, Nat.zero_add] at g3
        exact ⟨v', g3, g4.mono hext⟩
      · rw [List.getElem?_append_right (by omega)] at hq
        obtain ⟨v', g3, g4⟩ := hus.get _ v hq
        have hlt := (Array.getElem?_eq_some_iff.1 g3).1
        simp only [List.size_toArray] at hlt
        refine ⟨v', ?_, g4.mono hext⟩
        rw [if_pos (by omega), hfull, ← hn]
        simpa using g3
  · have hrun := run_append_grow (P := P) w T o.type E i z hT hi e1 ⟨(φ A).b, 0, none⟩ len cap olds hol (fun j v h => hocell j v h) _ m cap2 us hul hucell (by omega)
      (by unfold maxLen at h63; omega) (growslice_fits (by omega) hb)
    have hge : len + m ≤ grownCap w (len + m) cap E := grownCap_ge w _ _ _
    have hcs : (olds.toArray ++ us.toArray ++ Builtin.zeroCells z.cells (grownCap w (len + m) cap E - (len + m))).size = grownCap w (len + m) cap E * i.size := by
      simp only [Array.size_append, List.size_toArray, size_zeroCells, hzs, hol, hul, ← Nat.add_mul]
      congr 1; omega
    have hle : cells.length + news.length ≤ grownCap w (len + m) cap E * i.size := by
      rw [hl, hn, ← hfull, ← Nat.add_mul]; exact Nat.mul_le_mul_right _ hge
    have key := rel_set (w' := w.drew.alloc (.cells (olds.toArray ++ us.toArray ++ Builtin.zeroCells z.cells (grownCap w (len + m) cap E - (len + m))) E)) (g' := ⟨cells ++ news, false⟩)
      (l' := ⟨w.heap.size, 0, grownCap w (len + m) cap E * i.size, false⟩) (T := E) (fz := (0, 0)) r hA rfl rfl rfl rfl (by simp) (fun k hk _ => by exact heap_alloc_old w.drew (.cells (olds.toArray ++ us.toArray ++ Builtin.zeroCells z.cells (grownCap w (len + m) cap E - (len + m))) E) hk) (.inr (Nat.le_refl _)) rfl rfl hmp
      (heap_alloc_new w.drew _) hcs (by simp only [List.length_append]; rw [hcs]; exact hle) (fun i _ h => by simp at h) (by
        refine .inr ?_
        simp only [List.length_append]
        have : 0 < m * i.size := Nat.mul_pos (by omega) hs
        omega) (fun q v hq => ?_)
    · refine ⟨_, .slice (some ⟨w.heap.size, 0, none⟩) (len + m) (grownCap w (len + m) cap E), _, key.1, key.2, ?_, exec_append ho (by rw [hu, hu2]; exact hrun)⟩
      refine .slc _ _ _ (n + m * i.size) _ _ _ _ ?_ (Nat.le_refl _) hge (grownCap_le_maxLen w _ _ _ h63) (fun _ => ⟨by rw [upd_same], fun _ => by rw [upd_same]; simp, by rw [upd_same]⟩)
      rw [lens_set_eq hAlt]; simp [hn, hl]
    · have hext : Ext φ (lens H) (upd φ A ⟨w.heap.size, 0, grownCap w (len + m) cap E * i.size, false⟩) (lens (H.set A (some ⟨cells ++ news, false⟩))) := by
        intro A' n' hn'
        by_cases e : A' = A
        · subst e
          rw [lens_of hA] at hn'
          simp only [Option.some.injEq] at hn'
          refine ⟨_, lens_set_eq hAlt, .inr ⟨?_, fun h => by rw [hmp] at h; cases h⟩⟩
          simp only [List.length_append]
          have : 0 < m * i.size := Nat.mul_pos (by omega) hs
          omega
        · exact ⟨n', by rw [lens_set_ne e]; exact hn', .inl ⟨rfl, upd_ne e⟩⟩
      simp only at hq
      have hql : q < cells.length + news.length := by have := (List.getElem?_eq_some_iff.1 hq).1; simpa using this
      rw [Array.getElem?_append_left (by simp; omega)]
      rcases Nat.lt_or_ge q cells.length with h' | h'
      · rw [List.getElem?_append_left h'] at hq
        obtain ⟨v', g3, g4⟩ := hold.get q v hq
        refine ⟨v', ?_, g4.mono hext⟩
        rw [Array.getElem?_append_left (by have := hold.size; omega)]; exact g3
      · rw [List.getElem?_append_right h'] at hq
        obtain ⟨v', g3, g4⟩ := hus.get _ v hq
        refine ⟨v', ?_, g4.mono hext⟩
        rw [Array.getElem?_append_right (by have := hold.size; omega)]
        have := hold.size
        rw [this]; exact g3

/-- append of something to nil: a new block. -/
theorem e_append_nil (T : TypeId) (x y : Operand) {A2 off2 n2 m fl2 E s b : Nat} {z : Value} {news : List Value} {g2 : Blk}
    (ho : o.op = .call { callee := .builtin .append, args := #[x, y], argTypes := #[T, T] }) (hx : ev a x = some (.slice none 0 0)) (hy : ev a y = some (gsl A2 off2 n2 m fl2))
    (hT : P.underlying T = some (.slice E)) (hI : tinf P E = some (some z, s, b)) (hzs : z.cells.size = s) (hs : 0 < s) (hA2 : H[A2]? = some (some g2)) (hn2 : g2.cells.length = n2)
    (hl : news.length = m * s) (hc : ∀ (i : Nat) v, news[i]? = some v → g2.cells[off2 + i]? = some v)
    (hm : 0 < m) (hb : m * b ≤ 281474976710656) (h63 : m ≤ maxLen)
    {A0 : Nat} {H' : Heap} (hpl : Place H A0 H' ⟨news, false⟩) : AEff P N o a H (gsl A0 0 (m * s) m s) H' := by
  refine eff_value (fun B0 w0 φ w ac r hf => ?_)
  obtain ⟨cap2, hu2, _, _, _, hmp2⟩ := slc_cells r hA2 hn2 (ev_rel hf hy)
  have hu : ac.eval x = .slice none 0 0 := Val.det rfl (ev_rel hf hx)
  obtain ⟨us, hus, hucell⟩ := cells_rel r hA2 hmp2 off2 hc
  obtain ⟨i, hi, e1, e2, e3⟩ := tinf_some hI
  subst e2 e3
  have hul : us.length = m * i.size := by have := hus.size; simp at this; omega
  have hrun := run_append_nil (P := P) w T o.type E i z hT hi e1 _ m cap2 us hul hucell hm (by unfold maxLen at h63; omega) hb
  have hge : m ≤ grownCap w m 0 E := grownCap_ge w _ _ _
  have hcs : (us.toArray ++ Builtin.zeroCells z.cells (grownCap w m 0 E - m)).size = grownCap w m 0 E * i.size := by
    simp only [Array.size_append, List.size_toArray, size_zeroCells, hzs, hul, ← Nat.add_mul]
    congr 1; omega
  obtain ⟨g1, g2⟩ := rel_new (w' := w.drew.alloc (.cells (us.toArray ++ Builtin.zeroCells z.cells (grownCap w m 0 E - m)) E)) r (ro := false) (fz := (0, 0)) hpl hus rfl rfl rfl rfl
    (by rw [hcs, List.size_toArray, hul]; exact Nat.mul_le_mul_right _ hge) (fun q hq => by rw [Array.getElem?_append_left hq]) (fun i _ h => by simp at h)
  refine ⟨_, .slice (some ⟨w.heap.size, 0, none⟩) m (grownCap w m 0 E), _, g1, g2, ?_, exec_append ho (by rw [hu, hu2]; exact hrun)⟩
  refine .slc _ _ _ (m * i.size) _ _ _ _ ?_ (Nat.le_refl _) hge (grownCap_le_maxLen w _ _ _ h63) (fun _ => ⟨by rw [upd_same], fun _ => by rw [upd_same]; simp [hcs], by rw [upd_same]⟩)
  rw [hpl.lens]; simp [hl]

/-- append of nothing. -/
theorem a_append_none (T : TypeId) (x y : Operand) {A n len fl E s b : Nat} {z : Option Value} {g : Blk}
    (ho : o.op = .call { callee := .builtin .append, args := #[x, y], argTypes := #[T, T] }) (hx : ev a x = some (gsl A 0 n len fl)) (hy : ev a y = some (.slice none 0 0))
    (hT : P.underlying T = some (.slice E)) (hI : tinf P E = some (z, s, b)) (hA : H[A]? = some (some g)) (hn : g.cells.length = n) : APure P N o a H (gsl A 0 n len fl) := by
  refine ⟨fun B0 w0 φ w ac r hf => ?_⟩
  have hvr := ev_rel hf hx
  obtain ⟨cap, hu, hlc, hcm, hsz, _⟩ := slc_cells r hA hn hvr
  have hu2 : ac.eval y = .slice none 0 0 := Val.det rfl (ev_rel hf hy)
  refine ⟨ac.eval x, hvr, fun w _ => exec_append ho ?_⟩
  obtain ⟨i, hi, e1, e2, e3⟩ := tinf_some hI
  rw [hu, hu2]
  simp [Builtin.append_, run_underlying hT, sizeOf, typeInfo, hi, Builtin.lenOf, hlc, Builtin.firstCells, storeCells]

/-- A cut of a slice: x[lo:hi]; the result is not empty, or begins where x begins. -/
theorem a_cut (T : TypeId) (x lo hi : Operand) {A off n len fl E s b : Nat} {z : Option Value} {j k : IntKind} {i h : Int} (ho : o.op = .slice T x (some lo) (some hi) none) (hx : ev a x = some (gsl A off n len fl))
    (hlo : ev a lo = some (.int j i)) (hhi : ev a hi = some (.int k h)) (hT : P.underlying T = some (.slice E)) (hI : tinf P E = some (z, s, b)) (h1 : 0 ≤ i ∧ i ≤ h ∧ h ≤ len) (h2 : i < h ∨ i = 0) : APure P N o a H (gsl A (off + i.toNat * s) n (h - i).toNat 0) := by
  refine ⟨fun B0 w0 φ w ac r hf => ?_⟩
  have hu := ev_rel hf hx
  have e2 := (ev_rel hf hlo).scalar rfl
  have e3 := (ev_rel hf hhi).scalar rfl
  generalize hv : ac.eval x = u at hu
  cases hu with
  | slc _ _ _ m _ _ cap c hL hle hc hm hh =>
    refine ⟨.slice (some (c.add (i.toNat * s))) (h.toNat - i.toNat) (cap - i.toNat), ?_, fun w _ => ?_⟩
    · rw [show h.toNat - i.toNat = (h - i).toNat from by omega]
      exact .slc _ _ _ m _ _ _ _ hL hle (by omega) (by omega) (fun e => ⟨by rw [(hh e).1, addr_add, Nat.add_assoc], fun q => absurd rfl q, (hh e).2.2⟩)
    · unfold execOp
      simp only [ho, hv, e2, e3, Instr.sliceAt, Instr.slice, Option.map_some, Option.map_none, Sem.run_bind, run_underlying hT, Result.andThen_ok, Instr.sliceBounds, Instr.sliceBound, asIntOf, Sem.run_pure,
        Sem.run_ite, if_pos (show 0 ≤ h ∧ h ≤ (cap : Int) from ⟨by omega, by omega⟩), if_pos (show 0 ≤ i ∧ i ≤ (h.toNat : Int) from ⟨h1.1, by omega⟩), run_sizeOf hI]
      congr 3
      split
      · rename_i he
        have hi0 : i.toNat = 0 := by omega
        rw [hi0, Nat.zero_mul]; simp [Addr.add]
      · rfl

theorem a_cutfrom (T : TypeId) (x lo : Operand) {A off n len fl E s b : Nat} {z : Option Value} {j : IntKind} {i : Int} (ho : o.op = .slice T x (some lo) none none) (hx : ev a x = some (gsl A off n len fl))
    (hlo : ev a lo = some (.int j i)) (hT : P.underlying T = some (.slice E)) (hI : tinf P E = some (z, s, b)) (h1 : 0 ≤ i ∧ i ≤ len) (h2 : i < len ∨ i = 0) : APure P N o a H (gsl A (off + i.toNat * s) n (len - i.toNat) 0) := by
  refine ⟨fun B0 w0 φ w ac r hf => ?_⟩
  have hu := ev_rel hf hx
  have e2 := (ev_rel hf hlo).scalar rfl
  generalize hv : ac.eval x = u at hu
  cases hu with
  | slc _ _ _ m _ _ cap c hL hle hc hm hh =>
    refine ⟨.slice (some (c.add (i.toNat * s))) (len - i.toNat) (cap - i.toNat), ?_, fun w _ => ?_⟩
    · exact .slc _ _ _ m _ _ _ _ hL hle (by omega) (by omega) (fun e => ⟨by rw [(hh e).1, addr_add, Nat.add_assoc], fun q => absurd rfl q, (hh e).2.2⟩)
    · unfold execOp
      simp only [ho, hv, e2, Instr.sliceAt, Instr.slice, Option.map_some, Option.map_none, Sem.run_bind, run_underlying hT, Result.andThen_ok, Instr.sliceBounds, Instr.sliceBound, asIntOf, Sem.run_pure,
        Sem.run_ite, if_pos (show 0 ≤ i ∧ i ≤ (len : Int) from ⟨h1.1, by omega⟩), run_sizeOf hI]
      congr 3
      split
      · rename_i he
        have hi0 : i.toNat = 0 := by omega
        rw [hi0, Nat.zero_mul]; simp [Addr.add]
      · rfl

theorem a_cutto (T : TypeId) (x hi : Operand) {A off n len fl E s b : Nat} {z : Option Value} {k : IntKind} {h : Int} (ho : o.op = .slice T x none (some hi) none) (hx : ev a x = some (gsl A off n len fl))
    (hhi : ev a hi = some (.int k h)) (hT : P.underlying T = some (.slice E)) (hI : tinf P E = some (z, s, b)) (h1 : 0 ≤ h ∧ h ≤ len) : APure P N o a H (gsl A off n h.toNat 0) := by
  refine ⟨fun B0 w0 φ w ac r hf => ?_⟩
  have hu := ev_rel hf hx
  have e3 := (ev_rel hf hhi).scalar rfl
  generalize hv : ac.eval x = u at hu
  cases hu with
  | slc _ _ _ m _ _ cap c hL hle hc hm hh =>
    refine ⟨.slice (some c) h.toNat cap, .slc _ _ _ m _ _ _ _ hL hle (by omega) (by omega) (fun e => ⟨(hh e).1, fun q => absurd rfl q, (hh e).2.2⟩), fun w _ => ?_⟩
    unfold execOp
    simp only [ho, hv, e3, Instr.sliceAt, Instr.slice, Option.map_some, Option.map_none, Sem.run_bind, run_underlying hT, Result.andThen_ok, Instr.sliceBounds, Instr.sliceBound, asIntOf, Sem.run_pure,
      Sem.run_ite, if_pos (show 0 ≤ h ∧ h ≤ (cap : Int) from ⟨by omega, by omega⟩), run_sizeOf hI, Nat.zero_mul]
    simp [Addr.add]

/-- x[lo:] of nothing. -/
theorem a_cutend (T : TypeId) (x lo : Operand) {A off n len fl E s b : Nat} {z : Option Value} {j : IntKind} {i : Int} (ho : o.op = .slice T x (some lo) none none) (hx : ev a x = some (gsl A off n len fl))
    (hlo : ev a lo = some (.int j i)) (hT : P.underlying T = some (.slice E)) (hI : tinf P E = some (z, s, b)) (h1 : i = len) : APure P N o a H sempty := by
  refine ⟨fun B0 w0 φ w ac r hf => ?_⟩
  have hu := ev_rel hf hx
  have e2 := (ev_rel hf hlo).scalar rfl
  generalize hv : ac.eval x = u at hu
  cases hu with
  | slc _ _ _ m _ _ cap c hL hle hc hm hh =>
    refine ⟨.slice (some (if cap = i.toNat then c else c.add (i.toNat * s))) 0 (cap - i.toNat), .sdead _ _ (by omega), fun w _ => ?_⟩
    unfold execOp
    simp only [ho, hv, e2, Instr.sliceAt, Instr.slice, Option.map_some, Option.map_none, Sem.run_bind, run_underlying hT, Result.andThen_ok, Instr.sliceBounds, Instr.sliceBound, asIntOf, Sem.run_pure,
      Sem.run_ite, if_pos (show 0 ≤ i ∧ i ≤ (len : Int) from ⟨by omega, by omega⟩), run_sizeOf hI]
    congr 3
    · split <;> rfl
    · omega

/-- A whole array behind a pointer as a slice. -/
theorem a_arrall (T : TypeId) (x : Operand) {A off n len E s b : Nat} {z : Option Value} (ho : o.op = .slice T x none none none) (hx : ev a x = some (gptr A off n))
    (hT : P.underlying T = some (.array len E)) (hI : tinf P E = some (z, s, b)) (hm : len ≤ maxLen) : APure P N o a H (gsl A off n len 0) := by
  refine ⟨fun B0 w0 φ w ac r hf => ?_⟩
  have hu := ev_rel hf hx
  generalize hv : ac.eval x = u at hu
  cases hu with
  | ptr _ _ _ q c hL hle hh =>
    refine ⟨.slice (some c) len len, .slc _ _ _ q _ _ _ _ hL hle (Nat.le_refl _) hm (fun e => ⟨(hh e).1, fun q => absurd rfl q, (hh e).2⟩), fun w _ => ?_⟩
    unfold execOp
    simp only [ho, hv, Instr.sliceAt, Option.map_none, Sem.run_bind, run_underlying hT, Result.andThen_ok, Instr.sureAddr, Instr.sliceBounds, Sem.run_pure, run_sizeOf hI, Nat.zero_mul]
    simp [Addr.add]

/-- The head of an array behind a pointer as a slice. -/
theorem a_arrto (T : TypeId) (x y : Operand) {A off n len E s b : Nat} {z : Option Value} {k : IntKind} {h : Int} (ho : o.op = .slice T x none (some y) none) (hx : ev a x = some (gptr A off n)) (hy : ev a y = some (.int k h))
    (hT : P.underlying T = some (.array len E)) (hI : tinf P E = some (z, s, b)) (h1 : 0 ≤ h ∧ h ≤ len) (hm : len ≤ maxLen) : APure P N o a H (gsl A off n h.toNat 0) := by
  refine ⟨fun B0 w0 φ w ac r hf => ?_⟩
  have hu := ev_rel hf hx
  have e3 := (ev_rel hf hy).scalar rfl
  generalize hv : ac.eval x = u at hu
  cases hu with
  | ptr _ _ _ q c hL hle hh =>
    refine ⟨.slice (some c) h.toNat len, .slc _ _ _ q _ _ _ _ hL hle (by omega) hm (fun e => ⟨(hh e).1, fun q => absurd rfl q, (hh e).2⟩), fun w _ => ?_⟩
    unfold execOp
    simp only [ho, hv, e3, Instr.sliceAt, Option.map_none, Option.map_some, Sem.run_bind, run_underlying hT, Result.andThen_ok, Instr.sureAddr, Instr.sliceBounds, Instr.sliceBound, asIntOf, Sem.run_pure,
      Sem.run_ite, if_pos h1, run_sizeOf hI, Nat.zero_mul]
    simp [Addr.add]

/-- A byte as a cell. -/
abbrev byteV (b : UInt8) : Value := .int .u8 b.toNat
abbrev bytesV (l : List UInt8) : List Value := l.map byteV

theorem foldl_bytes (l : List UInt8) (r : ByteArray) : (l.map fun b => (b.toNat : Int)).foldl (fun r n => r.push (UInt8.ofNat n.toNat)) r = ⟨⟨r.data.toList ++ l⟩⟩ := by
  induction l generalizing r with
  | nil => cases r; simp
  | cons b l ih =>
    simp only [List.map_cons, List.foldl_cons]
    rw [ih]
    congr 2
    show (r.data.push _).toList ++ l = _
    simp

/-- string(bytes) -/
theorem a_toString (T U : TypeId) (x : Operand) {A off n len fl E : Nat} {g : Blk} {l : List UInt8} (ho : o.op = .convert T U x) (hx : ev a x = some (gsl A off n len fl))
    (hT : P.underlying T = some (.slice E)) (hE : P.underlying E = some (.int .u8)) (hU : P.underlying U = some .string) (hA : H[A]? = some (some g)) (hn : g.cells.length = n)
    (hl : l.length = len) (hc : ∀ (i : Nat) v, (bytesV l)[i]? = some v → g.cells[off + i]? = some v) : APure P N o a H (S l) := by
  refine ⟨fun B0 w0 φ w ac r hf => ?_⟩
  obtain ⟨cap, hu, hlc, hcm, hsz, hmp⟩ := slc_cells r hA hn (ev_rel hf hx)
  obtain ⟨us, hus, hucell⟩ := cells_rel r hA hmp off hc
  have hus' : us = bytesV l := by
    apply List.ext_getElem?
    intro i
    cases hb : (bytesV l)[i]? with
    | none => have := hus.size; simp at this hb; simp; omega
    | some v =>
      obtain ⟨v', g1, g2⟩ := hus.get i v hb
      have hv : scalar v = true := by
        have := (List.getElem?_eq_some_iff.1 hb).2
        simp at this
        rw [← this]; rfl
      rw [g2.scalar hv] at g1
      simpa using g1
  subst hus'
  refine ⟨S l, .str _, fun w1 hb => ?_⟩
  have hload := run_loadCells_list (P := P) w1 _ _ (cells_later r hA _ hb hucell)
  rw [List.length_map, hl] at hload
  have hrun := run_bytesToString (P := P) w1 _ len cap (l.map fun b => (b.toNat : Int)) (by rw [hload, List.map_map]; rfl)
  rw [foldl_bytes] at hrun
  unfold execOp
  simp only [ho, hu, convert, Sem.run_bind, run_underlying hT, run_underlying hU, run_underlying hE, Result.andThen_ok, hrun, Sem.run_pure]
  rfl

/-- string(bytes), all bytes of a block -/
theorem a_toString0 (T U : TypeId) (x : Operand) {A n len fl E : Nat} {ro : Bool} {l : List UInt8} (ho : o.op = .convert T U x) (hx : ev a x = some (gsl A 0 n len fl))
    (hT : P.underlying T = some (.slice E)) (hE : P.underlying E = some (.int .u8)) (hU : P.underlying U = some .string) (hA : H[A]? = some (some ⟨bytesV l, ro⟩)) (hn : l.length = n)
    (hl : l.length = len) : APure P N o a H (S l) :=
  a_toString T U x ho hx hT hE hU hA (by simpa using hn) hl (fun i v h => by simpa using h)

theorem a_toString_nil (T U : TypeId) (x : Operand) {E : Nat} (ho : o.op = .convert T U x) (hx : ev a x = some (.slice none 0 0))
    (hT : P.underlying T = some (.slice E)) (hE : P.underlying E = some (.int .u8)) (hU : P.underlying U = some .string) : APure P N o a H (S []) := by
  refine ⟨fun B0 w0 φ w ac r hf => ?_⟩
  have hu : ac.eval x = .slice none 0 0 := Val.det rfl (ev_rel hf hx)
  refine ⟨S [], .str _, fun w _ => ?_⟩
  unfold execOp
  simp only [ho, hu, convert, Sem.run_bind, run_underlying hT, run_underlying hU, run_underlying hE, Result.andThen_ok, Conv.bytesToString, Sem.run_pure]
  rfl

/-- []byte(string) -/
theorem e_toBytes (T U : TypeId) (x : Operand) {E : Nat} {l : List UInt8} (ho : o.op = .convert T U x) (hx : ev a x = some (S l))
    (hT : P.underlying T = some .string) (hU : P.underlying U = some (.slice E)) (hE : P.underlying E = some (.int .u8)) (h63 : l.length ≤ maxLen)
    {A0 : Nat} {H' : Heap} (hpl : Place H A0 H' ⟨bytesV l, false⟩) : AEff P N o a H (gsl A0 0 l.length l.length 1) H' := by
  refine eff_value (fun B0 w0 φ w ac r hf => ?_)
  have hu := (ev_rel hf hx).scalar rfl
  have hrun := run_bytes_of_string (P := P) w T U E ⟨⟨l⟩⟩ hT hU hE
  have hs : (⟨⟨l⟩⟩ : ByteArray).size = l.length := rfl
  rw [hs] at hrun
  have hge : l.length ≤ grownCap w l.length 0 E := grownCap_ge w _ _ _
  have hrow : bytesRow ⟨⟨l⟩⟩ (grownCap w l.length 0 E) = (bytesV l).toArray ++ Array.replicate (grownCap w l.length 0 E - l.length) (.int .u8 0) := by
    unfold bytesRow
    rw [hs]
    congr 1
    simp
  have hsz : (bytesRow ⟨⟨l⟩⟩ (grownCap w l.length 0 E)).size = grownCap w l.length 0 E := by rw [hrow]; simp; omega
  have hv : VRel φ (lens H) (bytesV l) (bytesV l).toArray := ⟨by simp, fun i v hi => ⟨v, by simpa using hi, by
    have := (List.getElem?_eq_some_iff.1 hi).2
    simp at this
    rw [← this]; exact .int _ _⟩⟩
  obtain ⟨g1, g2⟩ := rel_new (w' := w.drew.alloc (.cells (bytesRow ⟨⟨l⟩⟩ (grownCap w l.length 0 E)) E ((bytesRow ⟨⟨l⟩⟩ (grownCap w l.length 0 E)).size, (bytesRow ⟨⟨l⟩⟩ (grownCap w l.length 0 E)).size + 1))) r (ro := false) hpl hv rfl rfl rfl rfl
    (by rw [hsz]; simpa using hge) (fun q hq => by rw [hrow, Array.getElem?_append_left hq]) (fun q hq h => by simp only at h; omega)
  refine ⟨_, .slice (some ⟨w.heap.size, 0, none⟩) l.length (grownCap w l.length 0 E), _, g1, g2, ?_, ?_⟩
  · refine .slc _ _ _ l.length _ _ _ _ ?_ (Nat.le_refl _) hge (grownCap_le_maxLen w _ _ _ h63) (fun _ => ⟨by rw [upd_same], fun _ => by rw [upd_same]; simp [hsz], by rw [upd_same]⟩)
    rw [hpl.lens]; simp
  · unfold execOp
    simp only [ho, hu, Sem.run_bind, hrun, Result.andThen_ok, Sem.run_pure]

end
end Go.Gh
