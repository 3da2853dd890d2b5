/- Monomials and polynomials as plain lists: their order, when they are valid. -/
import Derived.Test.YtapkdofmcchdcaaGreatDoorN1
namespace Go.Mo
open Go.Qn
/-- The order of two exponent vectors of one degree, decided below position k. -/
def ordT (a b : List Int) : Nat → Int
  | 0 => 0
  | k + 1 => if a.getD k 0 = b.getD k 0 then ordT a b k else if b.getD k 0 < a.getD k 0 then -1 else 1
def ord (a b : List Int) : Int := if a.sum = b.sum then ordT a b a.length else if a.sum < b.sum then -1 else 1
def vldM (m : List Int) : Bool := decide (m.length ≤ 6 ∧ (∀ e ∈ m, 0 ≤ e) ∧ m.sum ≤ 24)
def degM (m : List Int) : Int := if vldM m = true then m.sum else -1
theorem sum_nonneg : ∀ (l : List Int), (∀ e ∈ l, 0 ≤ e) → 0 ≤ l.sum
  | [], _ => by simp
  | x :: l, h => by
    have h1 := h x (by simp)
    have h2 := sum_nonneg l fun e he => h e (by simp [he])
    rw [List.sum_cons]; omega
theorem sum_take_le (l : List Int) (k : Nat) (h : ∀ e ∈ l, 0 ≤ e) : (l.take k).sum ≤ l.sum := by
  have h1 : l.sum = (l.take k).sum + (l.drop k).sum := by rw [← List.sum_append, List.take_append_drop]
  have h2 := sum_nonneg (l.drop k) fun e he => h e (List.mem_of_mem_drop he)
  omega
theorem sum_take_succ (l : List Int) (k : Nat) (hk : k < l.length) : (l.take (k + 1)).sum = (l.take k).sum + l[k] := by
  rw [List.take_succ_eq_append_getElem hk, List.sum_append, List.sum_singleton]
theorem vldM_iff {m : List Int} : vldM m = true ↔ m.length ≤ 6 ∧ (∀ e ∈ m, 0 ≤ e) ∧ m.sum ≤ 24 := by unfold vldM; simp
theorem vldM_bad {m : List Int} {k : Nat} (hk : k < m.length) (h : m[k] < 0 ∨ 24 - (m.take k).sum < m[k]) : vldM m = false := by
  apply eq_false_of_ne_true
  rw [vldM_iff]
  rintro ⟨_, h1, h2⟩
  rcases h with h | h
  · have := h1 m[k] (List.getElem_mem _); omega
  · have h3 := sum_take_le m (k + 1) h1
    rw [sum_take_succ m k hk] at h3
    omega
theorem degM_ge {m : List Int} : decide (0 ≤ degM m) = vldM m := by
  unfold degM
  cases h : vldM m with
  | true =>
    have := sum_nonneg m (vldM_iff.1 h).2.1
    simp; exact this
  | false => simp
theorem sum_bound (l : List Int) (k : Nat) (h : ∀ e ∈ l, 0 ≤ e ∧ e ≤ 1048576) : 0 ≤ (l.take k).sum ∧ (l.take k).sum ≤ 1048576 * (l.take k).length := by
  have : ∀ l : List Int, (∀ e ∈ l, 0 ≤ e ∧ e ≤ 1048576) → 0 ≤ l.sum ∧ l.sum ≤ 1048576 * l.length := by
    intro l
    induction l with
    | nil => intro _; simp
    | cons x l ih =>
      intro h
      have h1 := h x (by simp)
      have h2 := ih fun e he => h e (by simp [he])
      rw [List.sum_cons, List.length_cons]; omega
  exact this _ fun e he => h e (List.mem_of_mem_take he)
/-! Polynomials: the number of variables, and the terms as a text and exponents. -/
abbrev Term := ByteArray × List Int
def low20 (e : List Int) : Bool := e.all fun x => decide (0 ≤ x) && decide (x ≤ 1048576)
theorem low20_iff {e : List Int} : low20 e = true ↔ ∀ x ∈ e, 0 ≤ x ∧ x ≤ 1048576 := by unfold low20; simp
def coefOk (s : ByteArray) : Bool := match rd s.data.toList with
  | some (_, n, _) => decide (n ≠ 0)
  | none => false
def termOk (v : Int) (t : Term) : Bool := coefOk t.1 && decide ((t.2.length : Int) = v) && low20 t.2
/-- The first k terms are well formed and descend. -/
def wfTo (v : Int) (ts : List Term) (k : Nat) : Prop := ∀ i, i < k → (h : i < ts.length) → termOk v ts[i] = true ∧ (0 < i → 0 < ord (ts.getD (i - 1) default).2 ts[i].2)
def wfP (v : Int) (ts : List Term) : Prop := 0 ≤ v ∧ v ≤ 6 ∧ wfTo v ts ts.length
/-- A polynomial is valid. -/
def VldP (v : Int) (ts : List Term) : Prop := ts.length ≤ 4096 ∧ wfP v ts ∧ ∀ h : 0 < ts.length, vldM ts[0].2 = true
theorem wfTo_zero (v : Int) (ts : List Term) : wfTo v ts 0 := fun i h => absurd h (by omega)
theorem wfTo_succ {v : Int} {ts : List Term} {k : Nat} (h : wfTo v ts k) (hk : k < ts.length) (h1 : termOk v ts[k] = true) (h2 : 0 < k → 0 < ord (ts.getD (k - 1) default).2 ts[k].2) : wfTo v ts (k + 1) := by
  intro i hi hl
  by_cases e : i = k
  · subst e; exact ⟨h1, h2⟩
  · exact h i (by omega) hl
theorem termOk_iff {v : Int} {t : Term} : termOk v t = true ↔ coefOk t.1 = true ∧ (t.2.length : Int) = v ∧ low20 t.2 = true := by unfold termOk; simp [and_assoc]
end Go.Mo
