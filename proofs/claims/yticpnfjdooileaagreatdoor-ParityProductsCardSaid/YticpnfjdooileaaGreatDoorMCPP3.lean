/- Parts of the proof: FrP, E1. -/
import Derived.Deep.SlicePairs
import Derived.Test.YticpnfjdooileaaGreatDoorMCPP1
import Derived.Test.YticpnfjdooileaaGreatDoorMCPP2
section
/- The frame: slices of polynomials, opened. -/
namespace Go.Proofs.YticpnfjdooileaaGreatDoor.Fr
open Go.ChangeShapes Go.WideShapes Go.ChangeAt Go.RowKit Go.Deep Go.Proofs.Tg Go.Gr Go.Mo
set_option maxRecDepth 100000
section
variable {H : Type} {enc : TypeId × Value → H} {W : World}
theorem ints_of {fuel : Nat} {v : Value} {x : DataW H × List MemPlace} (h : DataW.trod enc Tryz.prog W 0 (fun _ => true) true fuel 33 [v] = some x) : ∃ A xs c, v = .slice A xs.length c ∧ Ints W A xs := by
  rcases open_ints Tryz.underlying33 Tryz.underlying3 cellsInt h with ⟨h1, _⟩ | ⟨a, l, c, zs, h1, _, hl, hm, hz, _, hx, _⟩
  · injection h1 with h1
    exact ⟨none, [], 0, h1, Sl.nil _ _ _⟩
  · injection h1 with h1
    simp only [if_true] at hz
    have hlen : (zs.take l).length = l := by rw [List.length_take]; omega
    refine ⟨some a, zs.take l, c, by rw [hlen, h1], by simp, fun hn => ⟨a, rfl, ?_, ?_⟩⟩
    · rw [hlen] at hn
      exact World.block_lt_of_cell? W _ (hx 0 (by omega))
    · intro j u hu
      have hj : j < l := by
        have := (List.getElem?_eq_some_iff.1 hu).1
        rw [List.length_map, hlen] at this
        exact this
      have e : u = .int .i64 (zs.getD j 0) := by
        rw [List.getElem?_map, List.getElem?_take, if_pos hj] at hu
        simp only [List.getElem?_eq_getElem (show j < zs.length by omega), Option.map_some] at hu
        injection hu with hu
        rw [← hu]
        simp [vi, show j < zs.length by omega]
      rw [e]
      exact hx j (by omega)
/-- Cells two by two. -/
theorem sl_two {α : Type} (f : α → List Value) (hf : ∀ x, (f x).length = 2) (q : Nat → α) (a : Addr) (n : Nat) (h : ∀ i, i < n → ∃ v0 v1, f (q i) = [v0, v1] ∧ W.cell? (a.add (i * 2)) = some v0 ∧ W.cell? (a.add (i * 2 + 1)) = some v1) :
    Sl W (some a) n 2 (((List.range n).map q).flatMap f) := by
  have hlen : (((List.range n).map q).flatMap f).length = n * 2 := by
    have : ∀ l : List α, (l.flatMap f).length = l.length * 2 := by
      intro l
      induction l with
      | nil => rfl
      | cons x l ih => rw [List.flatMap_cons, List.length_append, ih, hf, List.length_cons]; omega
    rw [this]; simp
  refine ⟨hlen, fun hn => ⟨a, rfl, ?_, ?_⟩⟩
  · obtain ⟨_, _, _, h1, _⟩ := h 0 hn
    exact World.block_lt_of_cell? W (a.add (0 * 2)) h1
  · intro j u hu
    have hj : j < n * 2 := by rw [← hlen]; exact (List.getElem?_eq_some_iff.1 hu).1
    obtain ⟨v0, v1, h0, h1, h2⟩ := h (j / 2) (by omega)
    have hg := flat_get f 2 hf ((List.range n).map q) (j / 2) (j % 2) (by simp; omega) (by omega)
    rw [show j / 2 * 2 + j % 2 = j by omega, hu] at hg
    have : j % 2 = 0 ∨ j % 2 = 1 := by omega
    rcases this with e | e
    · rw [e] at hg
      simp [h0] at hg
      rw [hg, show j = j / 2 * 2 by omega]; exact h1
    · rw [e] at hg
      simp [h0] at hg
      rw [hg, show j = j / 2 * 2 + 1 by omega]; exact h2
theorem cellsTerm : Tryz.prog.cellsOf 54 = 2 := by kernel_rfl
theorem cellsPoly : Tryz.prog.cellsOf 36 = 2 := by kernel_rfl
theorem cellsStr : Tryz.prog.cellsOf 9 = 1 := by kernel_rfl
theorem cellsTerms : Tryz.prog.cellsOf 34 = 1 := by kernel_rfl
instance : Inhabited TV := ⟨⟨⟨#[]⟩, none, 0, []⟩⟩
instance : Inhabited PVal := ⟨⟨0, none, 0, []⟩⟩
theorem terms_of {fuel : Nat} {v : Value} {x : DataW H × List MemPlace} (h : DataW.trod enc Tryz.prog W 0 (fun _ => true) true fuel 34 [v] = some x) : ∃ T tv c, v = .slice T tv.length c ∧ TermsAt W T tv := by
  rcases open_slice_pairs Tryz.underlying34 Tryz.underlying54 cellsTerm rfl rfl cellsStr cellsRow h with ⟨h1, _⟩ | ⟨a, l, c, m, n, V0, V1, D0, D1, P0, P1, h1, _, hl, _, hm, _, hx⟩
  · injection h1 with h1
    exact ⟨none, [], 0, h1, TermsAt.nil _ _⟩
  · injection h1 with h1
    simp only [if_true] at hm
    obtain ⟨q, hq⟩ := choose_lt (n := l) (p := fun i (t : TV) => (TV.cells t = [V0 i, V1 i]) ∧ Ints W t.adr t.exps) (fun i hi => by
      obtain ⟨_, _, g0, g1⟩ := hx i (by omega)
      obtain ⟨s, e0, _⟩ := DataW.trod_string Tryz.underlying9 g0
      obtain ⟨A, xs, d, e1, hA⟩ := ints_of g1
      injection e0 with e0
      exact ⟨⟨s, A, d, xs⟩, by rw [e0, e1]; rfl, hA⟩)
    refine ⟨some a, (List.range l).map q, c, by simp [h1], ?_, fun t ht => ?_⟩
    · have := sl_two TV.cells (fun _ => rfl) q a l (fun i hi => by
        obtain ⟨c0, c1, _, _⟩ := hx i (by omega)
        exact ⟨V0 i, V1 i, (hq i hi).1, c0, c1⟩)
      simpa using this
    · obtain ⟨i, hi, rfl⟩ := List.mem_map.1 ht
      exact (hq i (List.mem_range.1 hi)).2
theorem polys_of {fuel : Nat} {v : Value} {x : DataW H × List MemPlace} (h : DataW.trod enc Tryz.prog W 0 (fun _ => true) true fuel 22 [v] = some x) : ∃ L ps c, v = .slice L ps.length c ∧ PolysAt W L ps := by
  rcases open_slice_pairs Tryz.underlying22 Tryz.underlying36 cellsPoly rfl rfl cellsInt cellsTerms h with ⟨h1, _⟩ | ⟨a, l, c, m, n, V0, V1, D0, D1, P0, P1, h1, _, hl, _, hm, _, hx⟩
  · injection h1 with h1
    exact ⟨none, [], 0, h1, Sl.nil _ _ _, fun p hp => by cases hp⟩
  · injection h1 with h1
    simp only [if_true] at hm
    obtain ⟨q, hq⟩ := choose_lt (n := l) (p := fun i (t : PVal) => (PVal.cells t = [V0 i, V1 i]) ∧ TermsAt W t.adr t.tv) (fun i hi => by
      obtain ⟨_, _, g0, g1⟩ := hx i (by omega)
      obtain ⟨s, e0, _⟩ := DataW.trod_int Tryz.underlying3 g0
      obtain ⟨A, xs, d, e1, hA⟩ := terms_of g1
      injection e0 with e0
      exact ⟨⟨s, A, d, xs⟩, by rw [e0, e1]; rfl, hA⟩)
    refine ⟨some a, (List.range l).map q, c, by simp [h1], ?_, fun t ht => ?_⟩
    · have := sl_two PVal.cells (fun _ => rfl) q a l (fun i hi => by
        obtain ⟨c0, c1, _, _⟩ := hx i (by omega)
        exact ⟨V0 i, V1 i, (hq i hi).1, c0, c1⟩)
      simpa using this
    · obtain ⟨i, hi, rfl⟩ := List.mem_map.1 ht
      exact (hq i (List.mem_range.1 hi)).2
theorem open_polys {v : Value} {d : DataW H} {ps : List MemPlace} {b0 : Nat} (hval : Value.okWide Tryz.prog W .any b0 22 v) (h : DataW.Trod enc Tryz.prog W 0 (fun _ => true) true 22 v d ps) :
    ∃ L pl c, v = .slice L pl.length c ∧ PolysAt W L pl := by
  obtain ⟨V, len, cap, rfl⟩ := okWide_slice Tryz.underlying22 hval
  obtain ⟨fuel, h⟩ := h
  have hcs : (Value.slice V len cap).cells.toList = [.slice V len cap] := by simp [Value.cells]
  rw [hcs] at h
  exact polys_of h
end
end Go.Proofs.YticpnfjdooileaaGreatDoor.Fr
end
section
/- Vectors of bits: the reduced row echelon form of a space is the list of its reduced vectors. Plain numbers. -/
namespace Go.Ev
/-- Sums of elements of a list. -/
inductive Span (vs : List Nat) : Nat → Prop
  | zero : Span vs 0
  | add {x v : Nat} : Span vs x → v ∈ vs → Span vs (x ^^^ v)
theorem Span.mem {vs : List Nat} {v : Nat} (h : v ∈ vs) : Span vs v := by
  have := Span.add (Span.zero (vs := vs)) h
  rwa [Nat.zero_xor] at this
theorem Span.xor {vs : List Nat} {x y : Nat} (hx : Span vs x) (hy : Span vs y) : Span vs (x ^^^ y) := by
  induction hy with
  | zero => rwa [Nat.xor_zero]
  | add _ hv ih => rw [← Nat.xor_assoc]; exact ih.add hv
theorem Span.sub {vs us : List Nat} (h : ∀ v ∈ vs, Span us v) {x : Nat} (hx : Span vs x) : Span us x := by
  induction hx with
  | zero => exact .zero
  | add _ hv ih => exact ih.xor (h _ hv)
structure Space (V : Nat → Prop) (n : Nat) : Prop where
  lt : ∀ x, V x → x < 2 ^ n
  xor : ∀ x y, V x → V y → V (x ^^^ y)
/-- The state of the elimination before column i: r rows are done, row j has its first bit at p j. -/
structure EInv (V : Nat → Prop) (i : Nat) (vs : List Nat) (r : Nat) (p : Nat → Nat) : Prop where
  hr : r ≤ vs.length
  hV : ∀ v ∈ vs, V v
  span : ∀ x, V x → Span vs x
  lt : ∀ j, j < r → p j < i
  mono : ∀ j k, j < k → k < r → p j < p k
  bit : ∀ j k, j < r → k < vs.length → (vs.getD k 0).testBit (p j) = decide (k = j)
  low : ∀ j, j < r → ∀ b, b < p j → (vs.getD j 0).testBit b = false
  zero : ∀ k, r ≤ k → k < vs.length → ∀ b, b < i → (vs.getD k 0).testBit b = false
theorem EInv.start {V : Nat → Prop} {vs : List Nat} (hV : ∀ v ∈ vs, V v) (hs : ∀ x, V x → Span vs x) : EInv V 0 vs 0 (fun _ => 0) :=
  ⟨Nat.zero_le _, hV, hs, fun j h => absurd h (by omega), fun j k _ h => absurd h (by omega), fun j k h => absurd h (by omega), fun j h => absurd h (by omega), fun k _ _ b h => absurd h (by omega)⟩
theorem EInv.skip {V : Nat → Prop} {i r : Nat} {vs : List Nat} {p : Nat → Nat} (h : EInv V i vs r p) (hz : ∀ k, r ≤ k → k < vs.length → (vs.getD k 0).testBit i = false) : EInv V (i + 1) vs r p := by
  refine ⟨h.hr, h.hV, h.span, fun j hj => by have := h.lt j hj; omega, h.mono, h.bit, h.low, fun k hk hl b hb => ?_⟩
  by_cases e : b = i
  · subst e; exact hz k hk hl
  · exact h.zero k hk hl b (by omega)
/-- Two rows are exchanged. -/
def swp (vs : List Nat) (r q : Nat) : List Nat := (vs.set r (vs.getD q 0)).set q (vs.getD r 0)
theorem getD_set (vs : List Nat) (i k : Nat) (x : Nat) (hi : i < vs.length) : (vs.set i x).getD k 0 = if k = i then x else vs.getD k 0 := by
  simp only [List.getD_eq_getElem?_getD, List.getElem?_set]
  by_cases h : i = k
  · subst h; simp [hi]
  · simp [h, Ne.symm h]
theorem swp_get (vs : List Nat) {r q : Nat} (hr : r < vs.length) (hq : q < vs.length) (k : Nat) : (swp vs r q).getD k 0 = vs.getD (if k = q then r else if k = r then q else k) 0 := by
  unfold swp
  rw [getD_set _ _ _ _ (by simpa using hq), getD_set _ _ _ _ hr]
  by_cases h1 : k = q
  · simp [h1]
  · rw [if_neg h1, if_neg h1]
    by_cases h2 : k = r
    · rw [if_pos h2, if_pos h2]
    · rw [if_neg h2, if_neg h2]
theorem swp_len (vs : List Nat) (r q : Nat) : (swp vs r q).length = vs.length := by simp [swp]
theorem mem_getD {vs : List Nat} {v : Nat} : v ∈ vs ↔ ∃ k, k < vs.length ∧ vs.getD k 0 = v := by
  rw [List.mem_iff_getElem]
  constructor
  · rintro ⟨k, hk, e⟩
    exact ⟨k, hk, by rw [List.getD_eq_getElem?_getD, List.getElem?_eq_getElem hk, Option.getD_some]; exact e⟩
  · rintro ⟨k, hk, e⟩
    exact ⟨k, hk, by rw [List.getD_eq_getElem?_getD, List.getElem?_eq_getElem hk, Option.getD_some] at e; exact e⟩
theorem EInv.swap {V : Nat → Prop} {i r q : Nat} {vs : List Nat} {p : Nat → Nat} (h : EInv V i vs r p) (hrq : r ≤ q) (hq : q < vs.length) : EInv V i (swp vs r q) r p := by
  have hrl : r < vs.length := by omega
  have hg := swp_get vs hrl hq
  have hsw : ∀ k, k < vs.length → (if k = q then r else if k = r then q else k) < vs.length := by intro k hk; split; exact hrl; split; exact hq; exact hk
  refine ⟨by rw [swp_len]; exact h.hr, ?_, ?_, h.lt, h.mono, ?_, ?_, ?_⟩
  · intro v hv
    obtain ⟨k, hk, rfl⟩ := mem_getD.1 hv
    rw [swp_len] at hk
    rw [hg]
    exact h.hV _ (mem_getD.2 ⟨_, hsw k hk, rfl⟩)
  · intro x hx
    refine Span.sub (fun v hv => ?_) (h.span x hx)
    obtain ⟨k, hk, rfl⟩ := mem_getD.1 hv
    refine Span.mem (mem_getD.2 ⟨_, by rw [swp_len]; exact hsw k hk, ?_⟩)
    rw [hg]
    congr 1
    by_cases h1 : k = q
    · subst h1; by_cases h2 : r = k <;> simp [h2]
    · by_cases h2 : k = r <;> simp [h1, h2]
  · intro j k hj hk
    rw [swp_len] at hk
    rw [hg, h.bit j _ hj (hsw k hk)]
    by_cases h1 : k = q
    · subst h1; simp; omega
    · by_cases h2 : k = r
      · subst h2; simp [h1]; omega
      · simp [h1, h2]
  · intro j hj b hb
    rw [hg, if_neg (by omega), if_neg (by omega)]
    exact h.low j hj b hb
  · intro k hk hl b hb
    rw [swp_len] at hl
    rw [hg]
    refine h.zero _ ?_ (hsw k hl) b hb
    split
    · exact Nat.le_refl _
    · split <;> omega
/-- The rows before k but r have lost the bit i. -/
def elim (vs : List Nat) (i r k : Nat) : List Nat := (List.range vs.length).map fun j => if j < k ∧ j ≠ r ∧ (vs.getD j 0).testBit i = true then vs.getD j 0 ^^^ vs.getD r 0 else vs.getD j 0
theorem elim_len (vs : List Nat) (i r k : Nat) : (elim vs i r k).length = vs.length := by simp [elim]
theorem elim_get (vs : List Nat) (i r k j : Nat) (hj : j < vs.length) : (elim vs i r k).getD j 0 = if j < k ∧ j ≠ r ∧ (vs.getD j 0).testBit i = true then vs.getD j 0 ^^^ vs.getD r 0 else vs.getD j 0 := by
  unfold elim
  rw [List.getD_eq_getElem?_getD, List.getElem?_map, List.getElem?_range hj]; rfl
theorem ext_getD {a b : List Nat} (hl : a.length = b.length) (h : ∀ j, j < a.length → a.getD j 0 = b.getD j 0) : a = b := by
  refine List.ext_getElem hl fun j h1 h2 => ?_
  have := h j h1
  rwa [List.getD_eq_getElem?_getD, List.getD_eq_getElem?_getD, List.getElem?_eq_getElem h1, List.getElem?_eq_getElem h2] at this
theorem elim_zero (vs : List Nat) (i r : Nat) : elim vs i r 0 = vs :=
  ext_getD (elim_len _ _ _ _) fun j hj => by rw [elim_len] at hj; rw [elim_get _ _ _ _ _ hj, if_neg (by omega)]
theorem elim_skip (vs : List Nat) (i r k : Nat) (h : ¬ (k ≠ r ∧ (vs.getD k 0).testBit i = true)) : elim vs i r (k + 1) = elim vs i r k :=
  ext_getD (by rw [elim_len, elim_len]) fun j hj => by
    rw [elim_len] at hj
    rw [elim_get _ _ _ _ _ hj, elim_get _ _ _ _ _ hj]
    by_cases e : j = k
    · subst e; rw [if_neg (fun h' => h h'.2), if_neg (by omega)]
    · by_cases h2 : j < k
      · simp [h2, show j < k + 1 by omega]
      · simp [h2, show ¬ j < k + 1 by omega]
theorem elim_put (vs : List Nat) (i r k : Nat) (hk : k < vs.length) (h : k ≠ r ∧ (vs.getD k 0).testBit i = true) : elim vs i r (k + 1) = (elim vs i r k).set k (vs.getD k 0 ^^^ vs.getD r 0) :=
  ext_getD (by rw [List.length_set, elim_len, elim_len]) fun j hj => by
    rw [elim_len] at hj
    rw [getD_set _ _ _ _ (by rw [elim_len]; exact hk), elim_get _ _ _ _ _ hj, elim_get _ _ _ _ _ hj]
    by_cases e : j = k
    · subst e; rw [if_pos ⟨by omega, h⟩, if_pos rfl]
    · by_cases h2 : j < k
      · simp [h2, e, show j < k + 1 by omega]
      · simp [h2, e, show ¬ j < k + 1 by omega]
theorem elim_self (vs : List Nat) (i r k : Nat) (hr : r < vs.length) : (elim vs i r k).getD r 0 = vs.getD r 0 := by
  rw [elim_get _ _ _ _ _ hr, if_neg (fun h => h.2.1 rfl)]
theorem EInv.elim {V : Nat → Prop} {n i r : Nat} {vs : List Nat} {p : Nat → Nat} (hS : Space V n) (h : EInv V i vs r p) (hr : r < vs.length) (hb : (vs.getD r 0).testBit i = true) :
    EInv V (i + 1) (Ev.elim vs i r vs.length) (r + 1) (fun j => if j = r then i else p j) := by
  have hg : ∀ k, k < vs.length → (Ev.elim vs i r vs.length).getD k 0 = if k ≠ r ∧ (vs.getD k 0).testBit i = true then vs.getD k 0 ^^^ vs.getD r 0 else vs.getD k 0 := by
    intro k hk
    rw [elim_get _ _ _ _ _ hk]
    simp [hk]
  have hbi : ∀ k, k < vs.length → ((Ev.elim vs i r vs.length).getD k 0).testBit i = decide (k = r) := by
    intro k hk
    rw [hg k hk]
    by_cases e : k = r
    · subst e; simpa using hb
    · by_cases e2 : (vs.getD k 0).testBit i = true
      · rw [if_pos ⟨e, e2⟩, Nat.testBit_xor, e2, hb]; simp [e]
      · rw [if_neg (fun h => e2 h.2)]; simp [e]; simpa using e2
  have hlow : ∀ k, k < vs.length → ∀ b, b < i → ((Ev.elim vs i r vs.length).getD k 0).testBit b = (vs.getD k 0).testBit b := by
    intro k hk b hbi'
    rw [hg k hk]
    split
    · rw [Nat.testBit_xor, h.zero r (Nat.le_refl _) hr b hbi']; simp
    · rfl
  refine ⟨by rw [elim_len]; omega, ?_, ?_, ?_, ?_, ?_, ?_, ?_⟩
  · intro v hv
    obtain ⟨k, hk, rfl⟩ := mem_getD.1 hv
    rw [elim_len] at hk
    rw [hg k hk]
    split
    · exact hS.xor _ _ (h.hV _ (mem_getD.2 ⟨k, hk, rfl⟩)) (h.hV _ (mem_getD.2 ⟨r, hr, rfl⟩))
    · exact h.hV _ (mem_getD.2 ⟨k, hk, rfl⟩)
  · intro x hx
    refine Span.sub (fun v hv => ?_) (h.span x hx)
    obtain ⟨k, hk, rfl⟩ := mem_getD.1 hv
    have hm : ∀ k, k < vs.length → Span (Ev.elim vs i r vs.length) ((Ev.elim vs i r vs.length).getD k 0) := fun k hk => Span.mem (mem_getD.2 ⟨k, by rw [elim_len]; exact hk, rfl⟩)
    have h1 := hm k hk
    have h2 := hm r hr
    rw [elim_self _ _ _ _ hr] at h2
    rw [hg k hk] at h1
    split at h1
    · have := h1.xor h2
      rwa [Nat.xor_assoc, Nat.xor_self, Nat.xor_zero] at this
    · exact h1
  · intro j hj
    show (if j = r then i else p j) < i + 1
    split
    · omega
    · have := h.lt j (by omega); omega
  · intro j k hjk hk
    show (if j = r then i else p j) < (if k = r then i else p k)
    rw [if_neg (by omega)]
    split
    · exact h.lt j (by omega)
    · exact h.mono j k hjk (by omega)
  · intro j k hj hk
    rw [elim_len] at hk
    show ((Ev.elim vs i r vs.length).getD k 0).testBit (if j = r then i else p j) = decide (k = j)
    split
    · rename_i e; rw [hbi k hk, e]
    · rw [hlow k hk _ (h.lt j (by omega)), h.bit j k (by omega) hk]
  · intro j hj b hbj
    have hbj : b < (if j = r then i else p j) := hbj
    by_cases e : j = r
    · subst e
      rw [if_pos rfl] at hbj
      rw [hlow j hr b hbj]
      exact h.zero j (Nat.le_refl _) hr b hbj
    · rw [if_neg e] at hbj
      have := h.lt j (by omega)
      rw [hlow j (by omega) b (by omega)]
      exact h.low j (by omega) b hbj
  · intro k hk hl b hbk
    rw [elim_len] at hl
    by_cases e : b = i
    · subst e; rw [hbi k hl]; simp; omega
    · rw [hlow k hl b (by omega)]
      exact h.zero k (by omega) hl b (by omega)
/-! What the last state says. -/
def Lead (x k : Nat) : Prop := x.testBit k = true ∧ ∀ b, b < k → x.testBit b = false
/-- The sum of the first m rows, row j taken where x has the bit p j. -/
def comb (vs : List Nat) (p : Nat → Nat) (x : Nat) : Nat → Nat
  | 0 => 0
  | m + 1 => comb vs p x m ^^^ (if x.testBit (p m) = true then vs.getD m 0 else 0)
theorem comb_zero (vs : List Nat) (p : Nat → Nat) : ∀ m, comb vs p 0 m = 0
  | 0 => rfl
  | m + 1 => by simp [comb, comb_zero vs p m]
theorem zero_of_bits {n x : Nat} (hx : x < 2 ^ n) (h : ∀ b, b < n → x.testBit b = false) : x = 0 := by
  refine Nat.eq_of_testBit_eq fun b => ?_
  rw [Nat.zero_testBit]
  by_cases hb : b < n
  · exact h b hb
  · exact Nat.testBit_lt_two_pow (Nat.lt_of_lt_of_le hx (Nat.pow_le_pow_right (by omega) (by omega)))
theorem comb_add {V : Nat → Prop} {n r : Nat} {vs : List Nat} {p : Nat → Nat} (h : EInv V n vs r p) (hS : Space V n) (x k : Nat) (hk : k < vs.length) :
    ∀ m, m ≤ r → comb vs p (x ^^^ vs.getD k 0) m = comb vs p x m ^^^ (if k < m then vs.getD k 0 else 0)
  | 0, _ => by simp [comb]
  | m + 1, hm => by
    have ih := comb_add h hS x k hk m (by omega)
    simp only [comb, ih, Nat.testBit_xor, h.bit m k (by omega) hk]
    by_cases e : k = m
    · subst e
      simp
      cases hx : x.testBit (p k)
      · simp
      · simp [Nat.xor_assoc]
    · by_cases hl : k < m
      · simp only [e, hl, show k < m + 1 by omega, decide_false, Bool.xor_false, if_true]
        rw [Nat.xor_assoc, Nat.xor_assoc, Nat.xor_comm (vs.getD k 0)]
      · simp [e, hl, show ¬ k < m + 1 by omega]
theorem comb_eq {V : Nat → Prop} {n r : Nat} {vs : List Nat} {p : Nat → Nat} (h : EInv V n vs r p) (hS : Space V n) {x : Nat} (hx : V x) : comb vs p x r = x := by
  have : ∀ y, Span vs y → comb vs p y r = y := by
    intro y hy
    induction hy with
    | zero => exact comb_zero _ _ _
    | add _ hv ih =>
      obtain ⟨k, hk, rfl⟩ := mem_getD.1 hv
      rw [comb_add h hS _ k hk r (Nat.le_refl _), ih]
      by_cases hl : k < r
      · rw [if_pos hl]
      · rw [if_neg hl, zero_of_bits (hS.lt _ (h.hV _ hv)) (h.zero k (by omega) hk)]
  exact this x (h.span x hx)
theorem comb_low {V : Nat → Prop} {n r : Nat} {vs : List Nat} {p : Nat → Nat} (h : EInv V n vs r p) (x b : Nat) : ∀ m, m ≤ r → (∀ j, j < m → x.testBit (p j) = true → b < p j) → (comb vs p x m).testBit b = false
  | 0, _, _ => by simp [comb]
  | m + 1, hm, hj => by
    rw [comb, Nat.testBit_xor, comb_low h x b m (by omega) (fun j h1 => hj j (by omega))]
    split
    · rename_i e
      rw [h.low m (by omega) b (hj m (by omega) e)]; rfl
    · simp
theorem exists_least {P : Nat → Prop} : ∀ {r : Nat}, (∃ j, j < r ∧ P j) → ∃ j, j < r ∧ P j ∧ ∀ k, k < j → ¬ P k
  | 0, ⟨j, h, _⟩ => absurd h (by omega)
  | r + 1, ⟨j, h, hp⟩ => by
    by_cases h2 : ∃ j, j < r ∧ P j
    · obtain ⟨k, h3, h4⟩ := exists_least h2
      exact ⟨k, by omega, h4⟩
    · have : j = r := by
        rcases Nat.lt_or_ge j r with h3 | h3
        · exact absurd ⟨j, h3, hp⟩ h2
        · omega
      subst this
      exact ⟨j, h, hp, fun k hk hpk => h2 ⟨k, hk, hpk⟩⟩
/-- Every vector of the space but 0 has its first bit where a row has. -/
theorem lead_of {V : Nat → Prop} {n r : Nat} {vs : List Nat} {p : Nat → Nat} (h : EInv V n vs r p) (hS : Space V n) {x : Nat} (hx : V x) (h0 : x ≠ 0) : ∃ j, j < r ∧ Lead x (p j) := by
  have hc := comb_eq h hS hx
  have hex : ∃ j, j < r ∧ x.testBit (p j) = true := by
    apply Classical.byContradiction
    intro hno
    apply h0
    rw [← hc]
    refine Nat.eq_of_testBit_eq fun b => ?_
    rw [Nat.zero_testBit]
    exact comb_low h x b r (Nat.le_refl _) (fun j h1 h2 => absurd ⟨j, h1, h2⟩ hno)
  obtain ⟨j, h1, h2, h3⟩ := exists_least hex
  refine ⟨j, h1, h2, fun b hb => ?_⟩
  rw [← hc]
  refine comb_low h x b r (Nat.le_refl _) (fun k hk hk2 => ?_)
  rcases Nat.lt_trichotomy k j with e | e | e
  · exact absurd hk2 (by simpa using h3 k e)
  · subst e; exact hb
  · have := h.mono j k e hk; omega
theorem row_lead {V : Nat → Prop} {n r : Nat} {vs : List Nat} {p : Nat → Nat} (h : EInv V n vs r p) {j : Nat} (hj : j < r) : Lead (vs.getD j 0) (p j) :=
  ⟨by rw [h.bit j j hj (by have := h.hr; omega)]; simp, h.low j hj⟩
theorem Lead.inj {x a b : Nat} (ha : Lead x a) (hb : Lead x b) : a = b := by
  rcases Nat.lt_trichotomy a b with h | h | h
  · have := hb.2 a h; rw [ha.1] at this; cases this
  · exact h
  · have := ha.2 b h; rw [hb.1] at this; cases this
/-- A vector that is 0 wherever another vector of the space has its first bit behind its own first bit. -/
def Red (V : Nat → Prop) (x : Nat) : Prop := ∀ t k l, V t → Lead t k → Lead x l → l < k → x.testBit k = false
theorem row_red {V : Nat → Prop} {n r : Nat} {vs : List Nat} {p : Nat → Nat} (h : EInv V n vs r p) (hS : Space V n) {j : Nat} (hj : j < r) : Red V (vs.getD j 0) := by
  intro t k l ht hk hl hlk
  have e := (row_lead h hj).inj hl
  subst e
  have h0 : t ≠ 0 := by rintro rfl; have := hk.1; simp at this
  obtain ⟨m, hm, hml⟩ := lead_of h hS ht h0
  have e2 := hml.inj hk
  subst e2
  rw [h.bit m j hm (by have := h.hr; omega)]
  have : j ≠ m := by rintro rfl; omega
  simp [this]
theorem xor_zero {x y : Nat} (h : x ^^^ y = 0) : x = y := by
  have : x ^^^ y ^^^ y = y := by rw [h, Nat.zero_xor]
  rwa [Nat.xor_assoc, Nat.xor_self, Nat.xor_zero] at this
theorem lt_bits {x y i : Nat} (hx : x.testBit i = false) (hy : y.testBit i = true) (h : ∀ j, i < j → x.testBit j = y.testBit j) : x < y := by
  rw [Nat.testBit_eq_decide_div_mod_eq, decide_eq_false_iff_not] at hx
  rw [Nat.testBit_eq_decide_div_mod_eq, decide_eq_true_eq] at hy
  have e : x / 2 ^ i / 2 = y / 2 ^ i / 2 := by
    refine Nat.eq_of_testBit_eq fun j => ?_
    have := h (i + 1 + j) (by omega)
    rw [Nat.div_div_eq_div_mul, Nat.div_div_eq_div_mul, ← Nat.pow_succ, Nat.testBit_div_two_pow, Nat.testBit_div_two_pow]
    rwa [show j + i.succ = i + 1 + j by omega]
  have hlt : x / 2 ^ i < y / 2 ^ i := by omega
  rcases Nat.lt_or_ge x y with h1 | h1
  · exact h1
  · have := Nat.div_le_div_right (c := 2 ^ i) h1
    omega
theorem red_row {V : Nat → Prop} {n r : Nat} {vs : List Nat} {p : Nat → Nat} (h : EInv V n vs r p) (hS : Space V n) {x : Nat} (hx : V x) (h0 : x ≠ 0) (hr : Red V x) : ∃ j, j < r ∧ x = vs.getD j 0 := by
  obtain ⟨j, hj, hl⟩ := lead_of h hS hx h0
  refine ⟨j, hj, ?_⟩
  have hjl : j < vs.length := by have := h.hr; omega
  have hrow := row_lead h hj
  have hVr := h.hV _ (mem_getD.2 ⟨j, hjl, rfl⟩)
  apply Classical.byContradiction
  intro hne
  have hd : x ^^^ vs.getD j 0 ≠ 0 := fun e => hne (xor_zero e)
  have hVd := hS.xor _ _ hx hVr
  obtain ⟨m, hm, hml⟩ := lead_of h hS hVd hd
  have hlt : p j < p m := by
    rcases Nat.lt_trichotomy (p m) (p j) with e | e | e
    · have := hml.1
      rw [Nat.testBit_xor, hl.2 _ e, hrow.2 _ e] at this; cases this
    · have := hml.1
      rw [e, Nat.testBit_xor, hl.1, hrow.1] at this; cases this
    · exact e
  have a1 := hr _ _ _ hVd hml hl hlt
  have a2 := row_red h hS hj _ _ _ hVd hml hrow hlt
  have := hml.1
  rw [Nat.testBit_xor, a1, a2] at this; cases this
/-! The reference goes through all vectors, the greatest first when the first position counts most. -/
def rev (n v : Nat) : Nat := (List.range n).foldl (fun x i => if v.testBit (n - 1 - i) = true then x ||| 2 ^ i else x) 0
theorem rev_fold (n v m b : Nat) : ((List.range m).foldl (fun x i => if v.testBit (n - 1 - i) = true then x ||| 2 ^ i else x) 0).testBit b = (decide (b < m) && v.testBit (n - 1 - b)) := by
  induction m with
  | zero => simp
  | succ m ih =>
    rw [List.range_succ, List.foldl_append]
    simp only [List.foldl_cons, List.foldl_nil]
    split
    · rename_i h
      rw [Nat.testBit_or, ih, Nat.testBit_two_pow]
      by_cases e : b = m
      · subst e; simp [h]
      · simp [Ne.symm e]
        by_cases h1 : b < m
        · simp [h1, show b < m + 1 by omega]
        · simp [h1, show ¬ b < m + 1 by omega]
    · rename_i h
      rw [ih]
      by_cases e : b = m
      · subst e; simp; simpa using h
      · by_cases h1 : b < m
        · simp [h1, show b < m + 1 by omega]
        · simp [h1, show ¬ b < m + 1 by omega]
theorem rev_bit (n v b : Nat) : (rev n v).testBit b = (decide (b < n) && v.testBit (n - 1 - b)) := rev_fold n v n b
theorem rev_lt (n v : Nat) : rev n v < 2 ^ n := by
  apply Nat.lt_pow_two_of_testBit
  intro i hi
  rw [rev_bit]; simp; omega
theorem rev_rev {n v : Nat} (hv : v < 2 ^ n) : rev n (rev n v) = v := by
  refine Nat.eq_of_testBit_eq fun b => ?_
  rw [rev_bit, rev_bit]
  by_cases hb : b < n
  · simp [hb, show n - 1 - b < n by omega, show n - 1 - (n - 1 - b) = b by omega]
  · simp [hb]
    exact (Nat.testBit_lt_two_pow (Nat.lt_of_lt_of_le hv (Nat.pow_le_pow_right (n := 2) (by omega) (by omega : n ≤ b))))
theorem rev_zero {n v : Nat} (hv : v < 2 ^ n) : rev n v = 0 ↔ v = 0 := by
  constructor
  · intro h
    rw [← rev_rev hv, h]
    refine Nat.eq_of_testBit_eq fun b => ?_
    rw [rev_bit]; simp
  · rintro rfl
    refine Nat.eq_of_testBit_eq fun b => ?_
    rw [rev_bit]; simp
theorem lead_exists {x : Nat} (h : x ≠ 0) : ∃ k, Lead x k := by
  obtain ⟨b, hb⟩ := Nat.exists_testBit_of_ne_zero h
  obtain ⟨j, _, h2, h3⟩ := exists_least (P := fun j => x.testBit j = true) (r := b + 1) ⟨b, by omega, hb⟩
  exact ⟨j, h2, fun k hk => by simpa using h3 k hk⟩
theorem lead_lt {n x k : Nat} (hx : x < 2 ^ n) (h : Lead x k) : k < n := by
  rcases Nat.lt_or_ge k n with h1 | h1
  · exact h1
  · have := Nat.testBit_lt_two_pow (Nat.lt_of_lt_of_le hx (Nat.pow_le_pow_right (by omega) h1))
    rw [h.1] at this; cases this
theorem rev_order {n x y a b : Nat} (hx : x < 2 ^ n) (hxl : Lead x a) (hyl : Lead y b) (h : a < b) : rev n y < rev n x := by
  have ha := lead_lt hx hxl
  refine lt_bits (i := n - 1 - a) ?_ ?_ fun j hj => ?_
  · rw [rev_bit, show n - 1 - (n - 1 - a) = a by omega, hyl.2 a h]; simp
  · rw [rev_bit, show n - 1 - (n - 1 - a) = a by omega, hxl.1]; simp; omega
  · rw [rev_bit, rev_bit]
    by_cases hjn : j < n
    · rw [hxl.2 (n - 1 - j) (by omega), hyl.2 (n - 1 - j) (by omega)]
    · simp [hjn]
theorem sorted_eq {R : Nat → Nat → Prop} (irr : ∀ a, ¬ R a a) (asy : ∀ a b, R a b → ¬ R b a) : ∀ (l m : List Nat), l.Pairwise R → m.Pairwise R → (∀ x, x ∈ l ↔ x ∈ m) → l = m
  | [], [], _, _, _ => rfl
  | [], y :: m, _, _, h => absurd ((h y).2 (by simp)) (by simp)
  | x :: l, [], _, _, h => absurd ((h x).1 (by simp)) (by simp)
  | x :: l, y :: m, hl, hm, h => by
    obtain ⟨l1, l2⟩ := List.pairwise_cons.1 hl
    obtain ⟨m1, m2⟩ := List.pairwise_cons.1 hm
    have e : x = y := by
      apply Classical.byContradiction
      intro ne
      have hx : x ∈ m := by
        rcases List.mem_cons.1 ((h x).1 (by simp)) with e | e
        · exact absurd e ne
        · exact e
      have hy : y ∈ l := by
        rcases List.mem_cons.1 ((h y).2 (by simp)) with e | e
        · exact absurd e.symm ne
        · exact e
      exact asy _ _ (m1 x hx) (l1 y hy)
    subst e
    congr 1
    refine sorted_eq irr asy l m l2 m2 fun z => ?_
    constructor
    · intro hz
      rcases List.mem_cons.1 ((h z).1 (List.mem_cons_of_mem _ hz)) with e | e
      · subst e; exact absurd (l1 _ hz) (irr _)
      · exact e
    · intro hz
      rcases List.mem_cons.1 ((h z).2 (List.mem_cons_of_mem _ hz)) with e | e
      · subst e; exact absurd (m1 _ hz) (irr _)
      · exact e
/-- The vectors that the reference keeps out of the first k that it looks at. -/
def kern (keep : Nat → Bool) (n k : Nat) : List Nat := (((List.range k).map fun t => rev n (2 ^ n - 1 - t)).filter keep)
theorem kern_succ (keep : Nat → Bool) (n k : Nat) : kern keep n (k + 1) = kern keep n k ++ (if keep (rev n (2 ^ n - 1 - k)) = true then [rev n (2 ^ n - 1 - k)] else []) := by
  unfold kern
  rw [List.range_succ, List.map_append, List.filter_append]
  congr 1
  simp only [List.map_cons, List.map_nil, List.filter_cons, List.filter_nil]
/-- The rows of the elimination are what the reference keeps. -/
theorem rows_kern {V : Nat → Prop} {n r : Nat} {vs : List Nat} {p : Nat → Nat} (h : EInv V n vs r p) (hS : Space V n) (keep : Nat → Bool) (hk : ∀ x, x ≠ 0 → x < 2 ^ n → (keep x = true ↔ V x ∧ Red V x)) :
    vs.take r = kern keep n (2 ^ n - 1) := by
  have hpos : 0 < 2 ^ n := Nat.two_pow_pos n
  have hrl := h.hr
  have hgd : ∀ j (hj : j < (vs.take r).length), (vs.take r)[j] = vs.getD j 0 := by
    intro j hj
    have hj' : j < vs.length := by simp at hj; omega
    rw [List.getElem_take, List.getD_eq_getElem?_getD, List.getElem?_eq_getElem hj', Option.getD_some]
  have hVr : ∀ j, j < r → V (vs.getD j 0) := fun j hj => h.hV _ (mem_getD.2 ⟨j, by omega, rfl⟩)
  refine sorted_eq (R := fun x y => rev n y < rev n x) (fun a => Nat.lt_irrefl _) (fun a b h1 h2 => by omega) _ _ ?_ ?_ ?_
  · rw [List.pairwise_iff_getElem]
    intro i j hi hj hij
    rw [hgd i hi, hgd j hj]
    have hj' : j < r := by simp at hj; omega
    exact rev_order (hS.lt _ (hVr i (by omega))) (row_lead h (by omega)) (row_lead h hj') (h.mono i j hij hj')
  · unfold kern
    refine List.Pairwise.filter _ ?_
    rw [List.pairwise_map]
    refine List.Pairwise.imp_of_mem ?_ (List.pairwise_lt_range (n := 2 ^ n - 1))
    intro a b ha hb hab
    have ha := List.mem_range.1 ha
    have hb := List.mem_range.1 hb
    rw [rev_rev (by omega), rev_rev (by omega)]
    omega
  · intro x
    constructor
    · intro hx
      obtain ⟨j, hj, e⟩ := List.mem_iff_getElem.1 hx
      rw [hgd j hj] at e
      have hj' : j < r := by simp at hj; omega
      subst e
      have hlt := hS.lt _ (hVr j hj')
      have h0 : vs.getD j 0 ≠ 0 := by intro e; have := (row_lead h hj').1; rw [e] at this; simp at this
      unfold kern
      refine List.mem_filter.2 ⟨List.mem_map.2 ⟨2 ^ n - 1 - rev n (vs.getD j 0), List.mem_range.2 ?_, ?_⟩, (hk _ h0 hlt).2 ⟨hVr j hj', row_red h hS hj'⟩⟩
      · have : rev n (vs.getD j 0) ≠ 0 := fun e => h0 ((rev_zero hlt).1 e)
        have := rev_lt n (vs.getD j 0)
        omega
      · have := rev_lt n (vs.getD j 0)
        rw [show 2 ^ n - 1 - (2 ^ n - 1 - rev n (vs.getD j 0)) = rev n (vs.getD j 0) by omega, rev_rev hlt]
    · intro hx
      obtain ⟨h1, h2⟩ := List.mem_filter.1 hx
      obtain ⟨t, ht, rfl⟩ := List.mem_map.1 h1
      have ht := List.mem_range.1 ht
      have hlt := rev_lt n (2 ^ n - 1 - t)
      have h0 : rev n (2 ^ n - 1 - t) ≠ 0 := fun e => by have := (rev_zero (n := n) (by omega)).1 e; omega
      obtain ⟨h3, h4⟩ := (hk _ h0 hlt).1 h2
      obtain ⟨j, hj, e⟩ := red_row h hS h3 h0 h4
      rw [e]
      refine List.mem_iff_getElem.2 ⟨j, by simp; omega, ?_⟩
      rw [hgd j (by simp; omega)]
end Go.Ev
end
