/- The ghost heap: forgetting and renaming of blocks. -/
import Derived.Test.YtmdhpbolbebflaaGhG
set_option linter.unusedVariables false
set_option linter.unusedSimpArgs false
namespace Go.Gh
open Go.RowKit

theorem CloV.mono {n m : Nat} {v : Value} (h : CloV n v) (hnm : n ≤ m) : CloV m v := fun φ L φ2 L2 u e hu => h φ L φ2 L2 u (fun A hA => e A (by omega)) hu
theorem clo_const {n : Nat} {v : Value} (h : constOk v = true) : CloV n v := fun φ L φ2 L2 u _ hu => by rw [Val.det h hu]; exact Val.const h
theorem clo_int {n : Nat} {k : IntKind} {i : Int} : CloV n (.int k i) := clo_const rfl
theorem clo_bool {n : Nat} {b : Bool} : CloV n (.bool b) := clo_const rfl
theorem clo_str {n : Nat} {s : ByteArray} : CloV n (.string s) := clo_const rfl
theorem clo_snil {n : Nat} : CloV n (.slice none 0 0) := clo_const rfl
theorem clo_pnil {n : Nat} : CloV n (.pointer none) := clo_const rfl
theorem clo_ptr {n A o m : Nat} (h : A < n) : CloV n (gptr A o m) := by
  intro φ L φ2 L2 u e hu
  cases hu with
  | ptr _ _ _ q c hL hv h' =>
    obtain ⟨e1, e2⟩ := e A h
    exact .ptr A o m q c (e1.trans hL) hv (fun x => by rw [e2]; exact h' x)
theorem clo_slc {n A o m len fl : Nat} (h : A < n) : CloV n (gsl A o m len fl) := by
  intro φ L φ2 L2 u e hu
  cases hu with
  | slc _ _ _ q _ _ cap c hL hv hc hm h' =>
    obtain ⟨e1, e2⟩ := e A h
    exact .slc A o m q len fl cap c (e1.trans hL) hv hc hm (fun x => by rw [e2]; exact h' x)
theorem clo_sempty {n : Nat} : CloV n sempty := by
  intro φ L φ2 L2 u e hu
  cases hu with
  | sdead c cap hm => exact .sdead c cap hm
theorem clo_agg {n : Nat} {vs : List Value} (h : ∀ v ∈ vs, CloV n v) : CloV n (.agg vs.toArray) := by
  intro φ L φ2 L2 u e hu
  cases hu with
  | agg _ b k1 k2 => exact .agg _ b k1 (fun i p q => h _ (by simp) φ L φ2 L2 _ e (k2 i p q))
theorem clo_tuple {n : Nat} {vs : List Value} (h : ∀ v ∈ vs, CloV n v) : CloV n (.tuple vs.toArray) := by
  intro φ L φ2 L2 u e hu
  cases hu with
  | tuple _ b k1 k2 => exact .tuple _ b k1 (fun i p q => h _ (by simp) φ L φ2 L2 _ e (k2 i p q))

theorem clo_map {n : Nat} {α : Type} {l : List α} {f : α → Value} (h : ∀ x, constOk (f x) = true) : ∀ v ∈ l.map f, CloV n v := by
  intro v hv
  obtain ⟨x, _, rfl⟩ := List.mem_map.1 hv
  exact clo_const (h x)

theorem CloH.get {H : Heap} (h : CloH H) {A : Nat} {g : Blk} (hA : H[A]? = some g) : ∀ v ∈ g.cells, CloV H.length v := fun v hv => h A g v hA hv
theorem CloH.set {H : Heap} (h : CloH H) {A : Nat} {cells : List Value} {ro : Bool} (hc : ∀ v ∈ cells, CloV H.length v) : CloH (H.set A ⟨cells, ro⟩) := by
  intro B g v hB hv
  rw [List.length_set]
  by_cases e : B = A
  · subst e
    have hlt : B < H.length := by have := (List.getElem?_eq_some_iff.1 hB).1; simpa using this
    rw [List.getElem?_set_self hlt] at hB
    simp only [Option.some.injEq] at hB
    subst hB
    exact hc v hv
  · rw [List.getElem?_set_ne (by omega)] at hB
    exact h B g v hB hv
theorem CloH.add {H : Heap} (h : CloH H) {cells : List Value} {ro : Bool} (hc : ∀ v ∈ cells, CloV (H.length + 1) v) : CloH (H ++ [⟨cells, ro⟩]) := by
  intro B g v hB hv
  rw [List.length_append, List.length_singleton]
  rcases Nat.lt_or_ge B H.length with hlt | hge
  · rw [List.getElem?_append_left hlt] at hB
    exact (h B g v hB hv).mono (by omega)
  · have hlt2 := (List.getElem?_eq_some_iff.1 hB).1
    simp only [List.length_append, List.length_singleton] at hlt2
    obtain rfl : B = H.length := by omega
    simp only [List.getElem?_concat_length, Option.some.injEq] at hB
    subst hB
    exact hc v hv

/-- v2 in the renamed heap is what v was in the old one. -/
def Ren (σ : Nat → Nat) (n : Nat) (v2 v : Value) : Prop :=
  ∀ φ L φ2 L2 u, (∀ A, A < n → L2 A = L (σ A) ∧ φ2 A = φ (σ A)) → Val φ L v u → Val φ2 L2 v2 u

theorem ren_clo {σ : Nat → Nat} {n m : Nat} {v : Value} (h : CloV m v) (hm : m ≤ n) (hid : ∀ A, A < m → σ A = A) : Ren σ n v v :=
  fun φ L φ2 L2 u e hu => h φ L φ2 L2 u (fun A hA => by have := e A (by omega); rwa [hid A hA] at this) hu
theorem ren_slc {σ : Nat → Nat} {n A B o m len fl : Nat} (h : A < n) (hB : σ A = B) : Ren σ n (gsl A o m len fl) (gsl B o m len fl) := by
  intro φ L φ2 L2 u e hu
  cases hu with
  | slc _ _ _ q _ _ cap c hL hv hc hm h' =>
    obtain ⟨e1, e2⟩ := e A h
    rw [hB] at e1 e2
    exact .slc A o m q len fl cap c (e1.trans hL) hv hc hm (fun x => by rw [e2]; exact h' x)
theorem ren_ptr {σ : Nat → Nat} {n A B o m : Nat} (h : A < n) (hB : σ A = B) : Ren σ n (gptr A o m) (gptr B o m) := by
  intro φ L φ2 L2 u e hu
  cases hu with
  | ptr _ _ _ q c hL hv h' =>
    obtain ⟨e1, e2⟩ := e A h
    rw [hB] at e1 e2
    exact .ptr A o m q c (e1.trans hL) hv (fun x => by rw [e2]; exact h' x)

section
variable {N : Fr} {a a2 : AF} {H H2 : Heap}

theorem keep_ren (σ : Nat → Nat) (h1 : ∀ A, A < H2.length → σ A < H.length) (hinj : ∀ A A', A < H2.length → A' < H2.length → σ A = σ A' → A = A')
    (hid : ∀ A, A < N.n0 → σ A = A) (hn0 : N.n0 ≤ H2.length)
    (hb : ∀ (A : Nat) (g2 : Blk), H2[A]? = some g2 → ∃ g, H[σ A]? = some g ∧ g.ro = g2.ro ∧ g.cells.length = g2.cells.length ∧
      ∀ (i : Nat) (v2 : Value), g2.cells[i]? = some v2 → ∃ v, g.cells[i]? = some v ∧ Ren σ H2.length v2 v)
    (ha : ∀ t v2, get a2 t = some v2 → ∃ v, get a t = some v ∧ Ren σ H2.length v2 v) : Keep N a H a2 H2 := by
  refine ⟨fun B0 w0 φ w ac r hf => ?_⟩
  have hl : ∀ A, A < H2.length → lens H2 A = lens H (σ A) := by
    intro A hA
    obtain ⟨g, e1, _, e3, _⟩ := hb A H2[A] (List.getElem?_eq_getElem hA)
    rw [lens_of e1, lens_of (List.getElem?_eq_getElem hA), e3]
  have key : ∀ A, A < H2.length → lens H2 A = lens H (σ A) ∧ (fun B => φ (σ B)) A = φ (σ A) := fun A hA => ⟨hl A hA, rfl⟩
  refine ⟨fun A => φ (σ A), ⟨r.below, r.b0, fun A g2 hA => ?_, fun A g2 hA hro => ?_, fun A A' g2 hA hro hA' he => ?_⟩, ⟨hf.defers, hf.size, fun t v2 ht => ?_⟩, fun A hA => ?_⟩
  · obtain ⟨g, e1, e2, e3, e4⟩ := hb A g2 hA
    obtain ⟨c, T, fz, k1, k2, k3, k4, k5⟩ := (r.blk (σ A) g e1).ex
    refine ⟨c, T, fz, k1, k2, by rw [← e3]; exact k3, fun h => k4 (by rw [e2]; exact h), fun i v2 hi => ?_⟩
    obtain ⟨v, f1, f2⟩ := e4 i v2 hi
    obtain ⟨v', g1, g2⟩ := k5 i v f1
    exact ⟨v', g1, f2 φ (lens H) _ (lens H2) v' key g2⟩
  · obtain ⟨g, e1, e2, _, _⟩ := hb A g2 hA
    exact r.own (σ A) g e1 (by rw [e2]; exact hro)
  · obtain ⟨g, e1, e2, _, _⟩ := hb A g2 hA
    exact hinj A' A hA' (List.getElem?_eq_some_iff.1 hA).1 (r.inj (σ A) (σ A') g e1 (by rw [e2]; exact hro) (h1 A' hA') he)
  · obtain ⟨v, e1, e2⟩ := ha t v2 ht
    obtain ⟨v', g1, g2⟩ := hf.slot t v e1
    exact ⟨v', g1, e2 φ (lens H) _ (lens H2) v' key g2⟩
  · simp only
    rw [hid A hA, hl A (by omega), hid A hA]
    exact ⟨rfl, rfl⟩

/-- Every binding of the first frame is one of the second, and its blocks lie below n. -/
def SubC (n : Nat) : AF → AF → Prop
  | [], _ => True
  | (t, v) :: r, a => get a t = some v ∧ CloV n v ∧ SubC n r a

theorem SubC.get {n : Nat} {b a : AF} (h : SubC n b a) : ∀ {t v}, get b t = some v → get a t = some v ∧ CloV n v := by
  induction b with
  | nil => intro t v hv; cases hv
  | cons x r ih =>
    obtain ⟨k, u⟩ := x
    intro t v hv
    rcases get_put hv with ⟨rfl, rfl⟩ | ⟨_, hv⟩
    · exact ⟨h.1, h.2.1⟩
    · exact ih h.2.2 hv

/-- The blocks behind the first ones are forgotten. -/
theorem keep_trunc {G : Heap} (hH : H = H2 ++ G) (hn0 : N.n0 ≤ H2.length) (hc : CloH H2) (hs : SubC H2.length a2 a) : Keep N a H a2 H2 := by
  subst hH
  refine keep_ren id (fun A hA => by simp; omega) (fun A A' _ _ h => h) (fun _ _ => rfl) hn0 (fun A g2 hA => ⟨g2, ?_, rfl, rfl, fun i v2 hi => ⟨v2, hi, ?_⟩⟩) (fun t v2 ht => ⟨v2, (hs.get ht).1, ?_⟩)
  · rw [id, List.getElem?_append_left (List.getElem?_eq_some_iff.1 hA).1]; exact hA
  · exact ren_clo (hc A g2 v2 hA (List.mem_of_getElem? hi)) (Nat.le_refl _) (fun _ _ => rfl)
  · exact ren_clo (hs.get ht).2 (Nat.le_refl _) (fun _ _ => rfl)

/-- Bindings after renaming. -/
def SubR (σ : Nat → Nat) (n : Nat) : AF → AF → Prop
  | [], _ => True
  | (t, v2) :: r, a => (∃ v, get a t = some v ∧ Ren σ n v2 v) ∧ SubR σ n r a
theorem SubR.get {σ : Nat → Nat} {n : Nat} {b a : AF} (h : SubR σ n b a) : ∀ {t v2}, get b t = some v2 → ∃ v, get a t = some v ∧ Ren σ n v2 v := by
  induction b with
  | nil => intro t v hv; cases hv
  | cons x r ih =>
    obtain ⟨k, u⟩ := x
    intro t v hv
    rcases get_put hv with ⟨rfl, rfl⟩ | ⟨_, hv⟩
    · exact h.1
    · exact ih h.2 hv

/-- One block behind the first ones is kept; it gets the next number. -/
def one1 (n k : Nat) : Nat → Nat := fun A => if A < n then A else k
theorem keep_one {H1 G : Heap} {k : Nat} {g : Blk} (hH : H = H1 ++ G) (hk : H1.length ≤ k) (hg : H[k]? = some g) (hn0 : N.n0 ≤ H1.length) (hc : CloH H1) (hgc : ∀ v ∈ g.cells, CloV H1.length v)
    (hs : SubR (one1 H1.length k) (H1.length + 1) a2 a) : Keep N a H a2 (H1 ++ [g]) := by
  have hid : ∀ A, A < H1.length → one1 H1.length k A = A := fun A hA => by simp [one1, hA]
  have hkl := (List.getElem?_eq_some_iff.1 hg).1
  refine keep_ren (one1 H1.length k) (fun A hA => ?_) (fun A A' hA hA' h => ?_) (fun A hA => hid A (by omega)) (by simp; omega) (fun A g2 hA => ?_) (fun t v2 ht => by
    rw [List.length_append, List.length_singleton]; exact hs.get ht)
  · unfold one1
    split
    · subst hH; simp; omega
    · exact hkl
  · simp only [List.length_append, List.length_singleton] at hA hA'
    unfold one1 at h
    split at h <;> split at h <;> omega
  · rcases Nat.lt_or_ge A H1.length with hlt | hge
    · rw [List.getElem?_append_left hlt] at hA
      refine ⟨g2, by rw [hid A hlt, hH, List.getElem?_append_left hlt]; exact hA, rfl, rfl, fun i v2 hi => ⟨v2, hi, ?_⟩⟩
      exact ren_clo (hc A g2 v2 hA (List.mem_of_getElem? hi)) (by simp) hid
    · have hlt2 := (List.getElem?_eq_some_iff.1 hA).1
      simp only [List.length_append, List.length_singleton] at hlt2
      obtain rfl : A = H1.length := by omega
      simp only [List.getElem?_concat_length, Option.some.injEq] at hA
      subst hA
      refine ⟨g, by simp only [one1, Nat.lt_irrefl, if_false]; exact hg, rfl, rfl, fun i v2 hi => ⟨v2, hi, ?_⟩⟩
      exact ren_clo (hgc v2 (List.mem_of_getElem? hi)) (by simp) hid

end
end Go.Gh
