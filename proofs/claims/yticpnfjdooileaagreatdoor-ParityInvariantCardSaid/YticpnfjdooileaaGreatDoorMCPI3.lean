/- Parts of the proof: M1, PV, FrP. -/
import Derived.Deep.SlicePairs
import Derived.Test.YticpnfjdooileaaGreatDoorMCPI0
import Derived.Test.YticpnfjdooileaaGreatDoorMCPI2
section
/- Monomials and polynomials as plain lists: their order, when they are valid. -/
namespace Go.Mo
open Go.Qn
/-- The order of two exponent vectors of one degree, decided below position k. -/
def ordT (a b : List Int) : Nat → Int
  | 0 => 0
  | k + 1 => if a.getD k 0 = b.getD k 0 then ordT a b k else if b.getD k 0 < a.getD k 0 then -1 else 1
def ord (a b : List Int) : Int := if a.sum = b.sum then ordT a b a.length else if a.sum < b.sum then -1 else 1
def vldM (m : List Int) : Bool := decide (m.length ≤ 6 ∧ (∀ e ∈ m, 0 ≤ e) ∧ m.sum ≤ 24)
def degM (m : List Int) : Int := if vldM m = true then m.sum else -1
theorem sum_nonneg : ∀ (l : List Int), (∀ e ∈ l, 0 ≤ e) → 0 ≤ l.sum
  | [], _ => by simp
  | x :: l, h => by
    have h1 := h x (by simp)
    have h2 := sum_nonneg l fun e he => h e (by simp [he])
    rw [List.sum_cons]; omega
theorem sum_take_le (l : List Int) (k : Nat) (h : ∀ e ∈ l, 0 ≤ e) : (l.take k).sum ≤ l.sum := by
  have h1 : l.sum = (l.take k).sum + (l.drop k).sum := by rw [← List.sum_append, List.take_append_drop]
  have h2 := sum_nonneg (l.drop k) fun e he => h e (List.mem_of_mem_drop he)
  omega
theorem sum_take_succ (l : List Int) (k : Nat) (hk : k < l.length) : (l.take (k + 1)).sum = (l.take k).sum + l[k] := by
  rw [List.take_succ_eq_append_getElem hk, List.sum_append, List.sum_singleton]
theorem vldM_iff {m : List Int} : vldM m = true ↔ m.length ≤ 6 ∧ (∀ e ∈ m, 0 ≤ e) ∧ m.sum ≤ 24 := by unfold vldM; simp
theorem vldM_bad {m : List Int} {k : Nat} (hk : k < m.length) (h : m[k] < 0 ∨ 24 - (m.take k).sum < m[k]) : vldM m = false := by
  apply eq_false_of_ne_true
  rw [vldM_iff]
  rintro ⟨_, h1, h2⟩
  rcases h with h | h
  · have := h1 m[k] (List.getElem_mem _); omega
  · have h3 := sum_take_le m (k + 1) h1
    rw [sum_take_succ m k hk] at h3
    omega
theorem degM_ge {m : List Int} : decide (0 ≤ degM m) = vldM m := by
  unfold degM
  cases h : vldM m with
  | true =>
    have := sum_nonneg m (vldM_iff.1 h).2.1
    simp; exact this
  | false => simp
theorem sum_bound (l : List Int) (k : Nat) (h : ∀ e ∈ l, 0 ≤ e ∧ e ≤ 1048576) : 0 ≤ (l.take k).sum ∧ (l.take k).sum ≤ 1048576 * (l.take k).length := by
  have : ∀ l : List Int, (∀ e ∈ l, 0 ≤ e ∧ e ≤ 1048576) → 0 ≤ l.sum ∧ l.sum ≤ 1048576 * l.length := by
    intro l
    induction l with
    | nil => intro _; simp
    | cons x l ih =>
      intro h
      have h1 := h x (by simp)
      have h2 := ih fun e he => h e (by simp [he])
      rw [List.sum_cons, List.length_cons]; omega
  exact this _ fun e he => h e (List.mem_of_mem_take he)
/-! Polynomials: the number of variables, and the terms as a text and exponents. -/
abbrev Term := ByteArray × List Int
def low20 (e : List Int) : Bool := e.all fun x => decide (0 ≤ x) && decide (x ≤ 1048576)
theorem low20_iff {e : List Int} : low20 e = true ↔ ∀ x ∈ e, 0 ≤ x ∧ x ≤ 1048576 := by unfold low20; simp
def coefOk (s : ByteArray) : Bool := match rd s.data.toList with
  | some (_, n, _) => decide (n ≠ 0)
  | none => false
def termOk (v : Int) (t : Term) : Bool := coefOk t.1 && decide ((t.2.length : Int) = v) && low20 t.2
/-- The first k terms are well formed and descend. -/
def wfTo (v : Int) (ts : List Term) (k : Nat) : Prop := ∀ i, i < k → (h : i < ts.length) → termOk v ts[i] = true ∧ (0 < i → 0 < ord (ts.getD (i - 1) default).2 ts[i].2)
def wfP (v : Int) (ts : List Term) : Prop := 0 ≤ v ∧ v ≤ 6 ∧ wfTo v ts ts.length
/-- A polynomial is valid. -/
def VldP (v : Int) (ts : List Term) : Prop := ts.length ≤ 4096 ∧ wfP v ts ∧ ∀ h : 0 < ts.length, vldM ts[0].2 = true
theorem wfTo_zero (v : Int) (ts : List Term) : wfTo v ts 0 := fun i h => absurd h (by omega)
theorem wfTo_succ {v : Int} {ts : List Term} {k : Nat} (h : wfTo v ts k) (hk : k < ts.length) (h1 : termOk v ts[k] = true) (h2 : 0 < k → 0 < ord (ts.getD (k - 1) default).2 ts[k].2) : wfTo v ts (k + 1) := by
  intro i hi hl
  by_cases e : i = k
  · subst e; exact ⟨h1, h2⟩
  · exact h i (by omega) hl
theorem termOk_iff {v : Int} {t : Term} : termOk v t = true ↔ coefOk t.1 = true ∧ (t.2.length : Int) = v ∧ low20 t.2 = true := by unfold termOk; simp [and_assoc]
end Go.Mo
end
section
/- Polynomials in memory: a slice of terms, each a text and a slice of exponents. -/
namespace Go.Proofs.Tg
open Go.RowKit Go.Mo
theorem flat_get {α : Type} (f : α → List Value) (sz : Nat) (h : ∀ x, (f x).length = sz) : ∀ (ls : List α) (i j : Nat) (hi : i < ls.length), j < sz → (ls.flatMap f)[i * sz + j]? = (f ls[i])[j]?
  | x :: ls, 0, j, _, hj => by
    rw [List.flatMap_cons, Nat.zero_mul, Nat.zero_add, List.getElem?_append_left (by rw [h]; exact hj)]; rfl
  | x :: ls, i + 1, j, hi, hj => by
    rw [List.flatMap_cons, List.getElem?_append_right (by rw [h, Nat.succ_mul]; omega), h, show (i + 1) * sz + j - sz = i * sz + j by rw [Nat.succ_mul]; omega]
    rw [flat_get f sz h ls i j (by simpa using hi) hj]; rfl
theorem flat_len {α : Type} (f : α → List Value) (sz : Nat) (h : ∀ x, (f x).length = sz) : ∀ ls : List α, (ls.flatMap f).length = ls.length * sz
  | [] => by simp
  | x :: ls => by rw [List.flatMap_cons, List.length_append, h, flat_len f sz h ls, List.length_cons, Nat.succ_mul]; omega
/-- A term in memory. -/
structure TV where
  coef : ByteArray
  adr : Option Addr
  cap : Nat
  exps : List Int
def TV.cells (t : TV) : List Value := [.string t.coef, .slice t.adr t.exps.length t.cap]
def TV.pl (t : TV) : Term := (t.coef, t.exps)
/-- The slice at T holds the terms. -/
structure TermsAt (w : World) (T : Option Addr) (tv : List TV) : Prop where
  sl : Sl w T tv.length 2 (tv.flatMap TV.cells)
  ints : ∀ t ∈ tv, Ints w t.adr t.exps
theorem TermsAt.keep {w w' : World} {T : Option Addr} {tv : List TV} (h : TermsAt w T tv) (hb : Below w.heap.size w w') : TermsAt w' T tv :=
  ⟨h.sl.keep hb, fun t ht => (h.ints t ht).keep hb⟩
theorem off_one (a : Addr) (k : Nat) : (⟨(a.add k).block, (a.add k).off + 1, none⟩ : Addr) = a.add (k + 1) := by
  rw [← add_add]; simp [Addr.add]
theorem TermsAt.at {w : World} {T : Option Addr} {tv : List TV} (h : TermsAt w T tv) {k : Nat} (hk : k < tv.length) :
    ∃ ad, T = some ad ∧ w.cell? (ad.add (k * 2)) = some (.string tv[k].coef) ∧ w.cell? ⟨(ad.add (k * 2)).block, (ad.add (k * 2)).off + 1, none⟩ = some (.slice tv[k].adr tv[k].exps.length tv[k].cap) ∧ Ints w tv[k].adr tv[k].exps := by
  obtain ⟨ad, rfl, _, ha⟩ := h.sl.lies (by omega)
  refine ⟨ad, rfl, ha _ _ ?_, (congrArg w.cell? (off_one ad (k * 2))).trans (ha _ _ ?_), h.ints _ (List.getElem_mem _)⟩
  · have := flat_get TV.cells 2 (fun _ => rfl) tv k 0 hk (by omega)
    rw [Nat.add_zero] at this
    exact this
  · exact flat_get TV.cells 2 (fun _ => rfl) tv k 1 hk (by omega)
theorem TermsAt.nil (w : World) (T : Option Addr) : TermsAt w T [] := ⟨Sl.nil _ _ _, fun _ h => by cases h⟩
/-- A polynomial in memory. -/
structure PVal where
  vars : Int
  adr : Option Addr
  cap : Nat
  tv : List TV
def PVal.cells (p : PVal) : List Value := [.int .i64 p.vars, .slice p.adr p.tv.length p.cap]
structure PolysAt (w : World) (L : Option Addr) (ps : List PVal) : Prop where
  sl : Sl w L ps.length 2 (ps.flatMap PVal.cells)
  tms : ∀ p ∈ ps, TermsAt w p.adr p.tv
theorem PolysAt.keep {w w' : World} {L : Option Addr} {ps : List PVal} (h : PolysAt w L ps) (hb : Below w.heap.size w w') : PolysAt w' L ps :=
  ⟨h.sl.keep hb, fun p hp => (h.tms p hp).keep hb⟩
theorem PolysAt.at {w : World} {L : Option Addr} {ps : List PVal} (h : PolysAt w L ps) {k : Nat} (hk : k < ps.length) :
    ∃ ad, L = some ad ∧ w.cell? (ad.add (k * 2)) = some (.int .i64 ps[k].vars) ∧ w.cell? ⟨(ad.add (k * 2)).block, (ad.add (k * 2)).off + 1, none⟩ = some (.slice ps[k].adr ps[k].tv.length ps[k].cap) ∧ TermsAt w ps[k].adr ps[k].tv := by
  obtain ⟨ad, rfl, _, ha⟩ := h.sl.lies (by omega)
  refine ⟨ad, rfl, ha _ _ ?_, (congrArg w.cell? (off_one ad (k * 2))).trans (ha _ _ ?_), h.tms _ (List.getElem_mem _)⟩
  · have := flat_get PVal.cells 2 (fun _ => rfl) ps k 0 hk (by omega)
    rw [Nat.add_zero] at this
    exact this
  · exact flat_get PVal.cells 2 (fun _ => rfl) ps k 1 hk (by omega)
/-- A polynomial's plain content. -/
def PVal.ok (p : PVal) : Prop := VldP p.vars (p.tv.map TV.pl)
/-- Few terms, short texts. -/
def PVal.small (p : PVal) : Prop := p.tv.length ≤ 4096 ∧ ∀ t ∈ p.tv, t.coef.size ≤ 19 ∧ t.exps.length ≤ 64
end Go.Proofs.Tg
end
section
/- The frame: slices of polynomials, opened. -/
namespace Go.Proofs.YticpnfjdooileaaGreatDoor.Fr
open Go.ChangeShapes Go.WideShapes Go.ChangeAt Go.RowKit Go.Deep Go.Proofs.Tg Go.Gr Go.Mo
set_option maxRecDepth 100000
section
variable {H : Type} {enc : TypeId × Value → H} {W : World}
theorem ints_of {fuel : Nat} {v : Value} {x : DataW H × List MemPlace} (h : DataW.trod enc Tryz.prog W 0 (fun _ => true) true fuel 33 [v] = some x) : ∃ A xs c, v = .slice A xs.length c ∧ Ints W A xs := by
  rcases open_ints Tryz.underlying33 Tryz.underlying3 cellsInt h with ⟨h1, _⟩ | ⟨a, l, c, zs, h1, _, hl, hm, hz, _, hx, _⟩
  · injection h1 with h1
    exact ⟨none, [], 0, h1, Sl.nil _ _ _⟩
  · injection h1 with h1
    simp only [if_true] at hz
    have hlen : (zs.take l).length = l := by rw [List.length_take]; omega
    refine ⟨some a, zs.take l, c, by rw [hlen, h1], by simp, fun hn => ⟨a, rfl, ?_, ?_⟩⟩
    · rw [hlen] at hn
      exact World.block_lt_of_cell? W _ (hx 0 (by omega))
    · intro j u hu
      have hj : j < l := by
        have := (List.getElem?_eq_some_iff.1 hu).1
        rw [List.length_map, hlen] at this
        exact this
      have e : u = .int .i64 (zs.getD j 0) := by
        rw [List.getElem?_map, List.getElem?_take, if_pos hj] at hu
        simp only [List.getElem?_eq_getElem (show j < zs.length by omega), Option.map_some] at hu
        injection hu with hu
        rw [← hu]
        simp [vi, show j < zs.length by omega]
      rw [e]
      exact hx j (by omega)
/-- Cells two by two. -/
theorem sl_two {α : Type} (f : α → List Value) (hf : ∀ x, (f x).length = 2) (q : Nat → α) (a : Addr) (n : Nat) (h : ∀ i, i < n → ∃ v0 v1, f (q i) = [v0, v1] ∧ W.cell? (a.add (i * 2)) = some v0 ∧ W.cell? (a.add (i * 2 + 1)) = some v1) :
    Sl W (some a) n 2 (((List.range n).map q).flatMap f) := by
  have hlen : (((List.range n).map q).flatMap f).length = n * 2 := by
    have : ∀ l : List α, (l.flatMap f).length = l.length * 2 := by
      intro l
      induction l with
      | nil => rfl
      | cons x l ih => rw [List.flatMap_cons, List.length_append, ih, hf, List.length_cons]; omega
    rw [this]; simp
  refine ⟨hlen, fun hn => ⟨a, rfl, ?_, ?_⟩⟩
  · obtain ⟨_, _, _, h1, _⟩ := h 0 hn
    exact World.block_lt_of_cell? W (a.add (0 * 2)) h1
  · intro j u hu
    have hj : j < n * 2 := by rw [← hlen]; exact (List.getElem?_eq_some_iff.1 hu).1
    obtain ⟨v0, v1, h0, h1, h2⟩ := h (j / 2) (by omega)
    have hg := flat_get f 2 hf ((List.range n).map q) (j / 2) (j % 2) (by simp; omega) (by omega)
    rw [show j / 2 * 2 + j % 2 = j by omega, hu] at hg
    have : j % 2 = 0 ∨ j % 2 = 1 := by omega
    rcases this with e | e
    · rw [e] at hg
      simp [h0] at hg
      rw [hg, show j = j / 2 * 2 by omega]; exact h1
    · rw [e] at hg
      simp [h0] at hg
      rw [hg, show j = j / 2 * 2 + 1 by omega]; exact h2
theorem cellsTerm : Tryz.prog.cellsOf 54 = 2 := by kernel_rfl
theorem cellsPoly : Tryz.prog.cellsOf 36 = 2 := by kernel_rfl
theorem cellsStr : Tryz.prog.cellsOf 9 = 1 := by kernel_rfl
theorem cellsTerms : Tryz.prog.cellsOf 34 = 1 := by kernel_rfl
instance : Inhabited TV := ⟨⟨⟨#[]⟩, none, 0, []⟩⟩
instance : Inhabited PVal := ⟨⟨0, none, 0, []⟩⟩
theorem terms_of {fuel : Nat} {v : Value} {x : DataW H × List MemPlace} (h : DataW.trod enc Tryz.prog W 0 (fun _ => true) true fuel 34 [v] = some x) : ∃ T tv c, v = .slice T tv.length c ∧ TermsAt W T tv := by
  rcases open_slice_pairs Tryz.underlying34 Tryz.underlying54 cellsTerm rfl rfl cellsStr cellsRow h with ⟨h1, _⟩ | ⟨a, l, c, m, n, V0, V1, D0, D1, P0, P1, h1, _, hl, _, hm, _, hx⟩
  · injection h1 with h1
    exact ⟨none, [], 0, h1, TermsAt.nil _ _⟩
  · injection h1 with h1
    simp only [if_true] at hm
    obtain ⟨q, hq⟩ := choose_lt (n := l) (p := fun i (t : TV) => (TV.cells t = [V0 i, V1 i]) ∧ Ints W t.adr t.exps) (fun i hi => by
      obtain ⟨_, _, g0, g1⟩ := hx i (by omega)
      obtain ⟨s, e0, _⟩ := DataW.trod_string Tryz.underlying9 g0
      obtain ⟨A, xs, d, e1, hA⟩ := ints_of g1
      injection e0 with e0
      exact ⟨⟨s, A, d, xs⟩, by rw [e0, e1]; rfl, hA⟩)
    refine ⟨some a, (List.range l).map q, c, by simp [h1], ?_, fun t ht => ?_⟩
    · have := sl_two TV.cells (fun _ => rfl) q a l (fun i hi => by
        obtain ⟨c0, c1, _, _⟩ := hx i (by omega)
        exact ⟨V0 i, V1 i, (hq i hi).1, c0, c1⟩)
      simpa using this
    · obtain ⟨i, hi, rfl⟩ := List.mem_map.1 ht
      exact (hq i (List.mem_range.1 hi)).2
theorem polys_of {fuel : Nat} {v : Value} {x : DataW H × List MemPlace} (h : DataW.trod enc Tryz.prog W 0 (fun _ => true) true fuel 22 [v] = some x) : ∃ L ps c, v = .slice L ps.length c ∧ PolysAt W L ps := by
  rcases open_slice_pairs Tryz.underlying22 Tryz.underlying36 cellsPoly rfl rfl cellsInt cellsTerms h with ⟨h1, _⟩ | ⟨a, l, c, m, n, V0, V1, D0, D1, P0, P1, h1, _, hl, _, hm, _, hx⟩
  · injection h1 with h1
    exact ⟨none, [], 0, h1, Sl.nil _ _ _, fun p hp => by cases hp⟩
  · injection h1 with h1
    simp only [if_true] at hm
    obtain ⟨q, hq⟩ := choose_lt (n := l) (p := fun i (t : PVal) => (PVal.cells t = [V0 i, V1 i]) ∧ TermsAt W t.adr t.tv) (fun i hi => by
      obtain ⟨_, _, g0, g1⟩ := hx i (by omega)
      obtain ⟨s, e0, _⟩ := DataW.trod_int Tryz.underlying3 g0
      obtain ⟨A, xs, d, e1, hA⟩ := terms_of g1
      injection e0 with e0
      exact ⟨⟨s, A, d, xs⟩, by rw [e0, e1]; rfl, hA⟩)
    refine ⟨some a, (List.range l).map q, c, by simp [h1], ?_, fun t ht => ?_⟩
    · have := sl_two PVal.cells (fun _ => rfl) q a l (fun i hi => by
        obtain ⟨c0, c1, _, _⟩ := hx i (by omega)
        exact ⟨V0 i, V1 i, (hq i hi).1, c0, c1⟩)
      simpa using this
    · obtain ⟨i, hi, rfl⟩ := List.mem_map.1 ht
      exact (hq i (List.mem_range.1 hi)).2
theorem open_polys {v : Value} {d : DataW H} {ps : List MemPlace} {b0 : Nat} (hval : Value.okWide Tryz.prog W .any b0 22 v) (h : DataW.Trod enc Tryz.prog W 0 (fun _ => true) true 22 v d ps) :
    ∃ L pl c, v = .slice L pl.length c ∧ PolysAt W L pl := by
  obtain ⟨V, len, cap, rfl⟩ := okWide_slice Tryz.underlying22 hval
  obtain ⟨fuel, h⟩ := h
  have hcs : (Value.slice V len cap).cells.toList = [.slice V len cap] := by simp [Value.cells]
  rw [hcs] at h
  exact polys_of h
end
end Go.Proofs.YticpnfjdooileaaGreatDoor.Fr
end
