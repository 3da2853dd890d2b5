/- Plain functions for the chordal extension. -/
import Derived.Test.YtamipjpcphghaaaDoorSpec
namespace Go.Gr
/-- No vertex is its own neighbour. -/
def Irr (A : Nat → Nat) : Prop := ∀ v, v < 64 → (A v).testBit v = false
theorem upd_same (A : Nat → Nat) (i s : Nat) : upd A i s i = s := by simp [upd]
theorem upd_other (A : Nat → Nat) {i k : Nat} (s : Nat) (h : k ≠ i) : upd A i s k = A k := by simp [upd, h]
theorem Irr.zero : Irr (fun _ => 0) := fun _ _ => by simp
theorem Irr.connect {A : Nat → Nat} (h : Irr A) {i j : Nat} (hij : i ≠ j) : Irr (connect A i j) := by
  intro v hv
  unfold Gr.connect
  by_cases h1 : v = j
  · subst h1
    rw [upd_same, bset_bit, upd_other _ _ (fun e => hij e.symm), h v hv]
    simpa using hij
  · rw [upd_other _ _ h1]
    by_cases h2 : v = i
    · subst h2
      rw [upd_same, bset_bit, h v hv]
      simpa using fun e => hij e.symm
    · rw [upd_other _ _ h2]; exact h v hv
theorem size_lt {s i : Nat} (hi : i < 64) (h : s.testBit i = false) : size s < 64 := by
  have h1 : size s ≤ 64 := size_le s
  by_cases e : size s = 64
  · exfalso
    have h2 : verts s = List.range 64 := List.filter_eq_self.2 (by
      have := List.length_filter_eq_length_iff.1 (show ((List.range 64).filter s.testBit).length = (List.range 64).length by rw [List.length_range]; exact e)
      exact this)
    have : i ∈ verts s := by rw [h2]; simpa using hi
    rw [mem_verts] at this
    rw [h] at this
    cases this.2
  · omega
def minStep (A : Nat → Nat) (rest : Nat) (bm : Int × Int) (v : Nat) : Int × Int :=
  if ((size (A v &&& rest) : Nat) : Int) < bm.2 then ((v : Int), ((size (A v &&& rest) : Nat) : Int)) else bm
def minOf (A : Nat → Nat) (rest : Nat) (l : List Nat) : Int × Int := l.foldl (minStep A rest) (-1, 64)
theorem minOf_snoc (A : Nat → Nat) (rest : Nat) (l : List Nat) (v : Nat) : minOf A rest (l ++ [v]) = minStep A rest (minOf A rest l) v := by simp [minOf]
/-- What the choice comes to: the first of those with the fewest. -/
theorem minOf_spec (A : Nat → Nat) (rest : Nat) (hA : Irr A) : ∀ (r l : List Nat), (∀ v ∈ l, v < 64) → l.reverse = r → l = [] ∨ ∃ (v : Nat) (a b : List Nat), l = a ++ v :: b ∧ minOf A rest l = ((v : Int), ((size (A v &&& rest) : Nat) : Int)) ∧
      (∀ u ∈ a, size (A v &&& rest) < size (A u &&& rest)) ∧ (∀ u ∈ b, size (A v &&& rest) ≤ size (A u &&& rest))
  | [], l, _, hr => .inl (by simpa using hr)
  | x :: r, l, hl, hr => by
    right
    have hl2 : l = r.reverse ++ [x] := by
      have := congrArg List.reverse hr
      simpa using this
    subst hl2
    have hx : x < 64 := hl x (by simp)
    have h63 : size (A x &&& rest) < 64 := size_lt hx (by rw [Nat.testBit_and, hA x hx]; rfl)
    rw [minOf_snoc]
    rcases minOf_spec A rest hA r r.reverse (fun v hv => hl v (by simp [hv])) (by simp) with h | ⟨v, a, b, hab, hm, h1, h2⟩
    · refine ⟨x, [], [], by rw [h], ?_, by simp, by simp⟩
      rw [h]
      unfold minStep minOf
      rw [if_pos (by simp; omega)]
    · rw [hm]
      by_cases hc : size (A x &&& rest) < size (A v &&& rest)
      · refine ⟨x, a ++ v :: b, [], by rw [hab], ?_, ?_, by simp⟩
        · unfold minStep; rw [if_pos (by simp; omega)]
        · intro u hu
          simp only [List.mem_append, List.mem_cons] at hu
          rcases hu with hu | rfl | hu
          · have := h1 u hu; omega
          · exact hc
          · have := h2 u hu; omega
      · refine ⟨v, a, b ++ [x], by rw [hab]; simp, ?_, h1, ?_⟩
        · unfold minStep; rw [if_neg (by simp; omega)]
        · intro u hu
          simp only [List.mem_append, List.mem_singleton] at hu
          rcases hu with hu | rfl
          · exact h2 u hu
          · omega
def fillStep (ar : Nat) (A : Nat → Nat) (v : Nat) : Nat → Nat := upd A v (A v ||| bclr ar v)
def fill (ar : Nat) (l : List Nat) (A : Nat → Nat) : Nat → Nat := l.foldl (fillStep ar) A
theorem fill_snoc (ar : Nat) (l : List Nat) (v : Nat) (A : Nat → Nat) : fill ar (l ++ [v]) A = fillStep ar (fill ar l A) v := by simp [fill]
theorem fillStep_small {ar v : Nat} {A : Nat → Nat} (h : Small A) (ha : ar < 18446744073709551616) : Small (fillStep ar A v) := h.upd (or_lt (h v) (bclr_lt v ha))
theorem fillStep_irr {ar v : Nat} {A : Nat → Nat} (h : Irr A) (hv : v < 64) : Irr (fillStep ar A v) := by
  intro u hu
  unfold fillStep
  by_cases e : u = v
  · subst e
    rw [upd_same, Nat.testBit_or, h u hu, bclr_bit _ _ _ hu hu]
    simp
  · rw [upd_other _ _ e]; exact h u hu
theorem fill_small {ar : Nat} (ha : ar < 18446744073709551616) : ∀ (l : List Nat) {A : Nat → Nat}, Small A → Small (fill ar l A)
  | [], _, h => h
  | v :: l, A, h => by
    simp only [fill, List.foldl_cons]
    exact fill_small ha l (fillStep_small h ha)
theorem fill_irr {ar : Nat} : ∀ (l : List Nat) {A : Nat → Nat}, (∀ v ∈ l, v < 64) → Irr A → Irr (fill ar l A)
  | [], _, _, h => h
  | v :: l, A, hl, h => by
    simp only [fill, List.foldl_cons]
    exact fill_irr l (fun u hu => hl u (by simp [hu])) (fillStep_irr h (hl v (by simp)))
/-- One elimination: the adjacency and what is left. -/
def elim (A : Nat → Nat) (rest : Nat) : (Nat → Nat) × Nat :=
  let b := (minOf A rest (verts rest)).1.toNat
  (fill (A b &&& rest) (verts (A b &&& rest)) A, bclr rest b)
def extFrom : Nat → (Nat → Nat) → Nat → (Nat → Nat)
  | 0, A, _ => A
  | f + 1, A, rest => if rest = 0 then A else extFrom f (elim A rest).1 (elim A rest).2
def extend (A : Nat → Nat) (n : Nat) : Nat → Nat := extFrom 65 A (firstN n)
theorem bclr_less {s i : Nat} (hi : i < 64) (h : s.testBit i = true) : bclr s i < s ∧ size (bclr s i) < size s := by
  have hne : bclr s i ≠ s := by
    intro e
    have := congrArg (fun x => x.testBit i) e
    simp only [bclr_bit _ _ _ hi hi, h] at this
    simp at this
  have hle : bclr s i ≤ s := by unfold bclr andn; exact Nat.and_le_left
  refine ⟨by omega, ?_⟩
  unfold size verts
  have : ∀ (l : List Nat), (∀ x ∈ l, x < 64) → i ∈ l → (l.filter (bclr s i).testBit).length < (l.filter s.testBit).length := by
    intro l hl hm
    have hall : ∀ (l : List Nat), (∀ x ∈ l, x < 64) → (l.filter (bclr s i).testBit).length ≤ (l.filter s.testBit).length := by
      intro l hl
      induction l with
      | nil => simp
      | cons x l ih =>
        have ih := ih (fun y hy => hl y (by simp [hy]))
        have hx := hl x (by simp)
        by_cases h1 : (bclr s i).testBit x = true
        · have h2 : s.testBit x = true := by rw [bclr_bit _ _ _ hi hx] at h1; simp at h1; exact h1.1
          simp [h1, h2]; omega
        · by_cases h2 : s.testBit x = true <;> simp [h1, h2] <;> omega
    induction l with
    | nil => simp at hm
    | cons x l ih =>
      by_cases e : x = i
      · subst e
        have h1 : (bclr s x).testBit x = false := by rw [bclr_bit _ _ _ hi hi]; simp
        have := hall l (fun y hy => hl y (by simp [hy]))
        simp [h1, h]; omega
      · have ih := ih (fun y hy => hl y (by simp [hy])) ((List.mem_cons.1 hm).resolve_left (fun e2 => e e2.symm))
        have hx := hl x (by simp)
        have : (bclr s i).testBit x = s.testBit x := by
          rw [bclr_bit _ _ _ hi hx]; simp; intro _ e2; exact e e2.symm
        by_cases h2 : s.testBit x = true <;> simp [this, h2] <;> omega
  exact this (List.range 64) (fun x hx => by simpa using hx) (by simpa using hi)
end Go.Gr
