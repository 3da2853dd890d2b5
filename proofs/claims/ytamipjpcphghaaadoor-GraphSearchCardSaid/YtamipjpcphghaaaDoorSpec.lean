/- Plain functions that say what package graph computes, and their first properties. -/
import Derived.Test.YtamipjpcphghaaaDoorWC
namespace Go.Gr

theorem mem_verts {s i : Nat} : i ∈ verts s ↔ i < 64 ∧ s.testBit i = true := by simp [verts]
theorem bset_bit (s i j : Nat) : (bset s i).testBit j = (s.testBit j || decide (i = j)) := by
  unfold bset
  rw [Nat.testBit_or, Nat.one_shiftLeft, Nat.testBit_two_pow]
theorem andn_bit (a b j : Nat) (hb : b < 18446744073709551616) (hj : j < 64) : (andn a b).testBit j = (a.testBit j && !b.testBit j) := by
  unfold andn
  rw [Nat.testBit_and]
  have : (18446744073709551615 - b).testBit j = !b.testBit j := by
    have h := Nat.testBit_two_pow_sub_succ (n := 64) (x := b) (by omega) j
    rw [show 2 ^ 64 - (b + 1) = 18446744073709551615 - b from by omega] at h
    rw [h]; simp [hj]
  rw [this]
theorem bclr_bit (s i j : Nat) (hi : i < 64) (hj : j < 64) : (bclr s i).testBit j = (s.testBit j && !decide (i = j)) := by
  unfold bclr
  rw [andn_bit _ _ _ (shl_lt i hi) hj, Nat.one_shiftLeft, Nat.testBit_two_pow]
theorem firstN_bit (n j : Nat) : (firstN n).testBit j = decide (j < n) := by
  unfold firstN
  rw [Nat.one_shiftLeft, Nat.testBit_two_pow_sub_one]
theorem high_bit {s j : Nat} (hs : s < 18446744073709551616) (hj : 64 ≤ j) : s.testBit j = false :=
  Nat.testBit_lt_two_pow (Nat.lt_of_lt_of_le hs (Nat.pow_le_pow_right (n := 2) (by omega) hj))

/-- One step of the choice of the next vertex of a maximum cardinality search. -/
def bestStep (A : Nat → Nat) (vis : Nat) (bm : Int × Int) (v : Nat) : Int × Int :=
  if vis.testBit v = false ∧ bm.2 < (size (A v &&& vis) : Nat) then ((v : Int), ((size (A v &&& vis) : Nat) : Int)) else bm
def best (A : Nat → Nat) (vis n : Nat) : Int × Int := (List.range n).foldl (bestStep A vis) (-1, -1)
theorem best_succ (A : Nat → Nat) (vis n : Nat) : best A vis (n + 1) = bestStep A vis (best A vis n) n := by
  simp [best, List.range_succ, List.foldl_append]
/-- What the choice comes to: nothing, or the first of the vertices with the most. -/
theorem best_spec (A : Nat → Nat) (vis : Nat) : ∀ n, (best A vis n = (-1, -1) ∧ ∀ v, v < n → vis.testBit v = true) ∨
    ∃ v, v < n ∧ vis.testBit v = false ∧ best A vis n = ((v : Int), ((size (A v &&& vis) : Nat) : Int)) ∧ (∀ u, u < n → vis.testBit u = false → size (A u &&& vis) ≤ size (A v &&& vis)) ∧
      (∀ u, u < v → vis.testBit u = false → size (A u &&& vis) < size (A v &&& vis))
  | 0 => .inl ⟨rfl, fun _ h => by omega⟩
  | n + 1 => by
    rw [best_succ]
    rcases best_spec A vis n with ⟨h1, h2⟩ | ⟨v, hv, hf, he, hm, hfst⟩
    · rw [h1]
      by_cases hn : vis.testBit n = true
      · left
        refine ⟨by simp [bestStep, hn], fun v hv => ?_⟩
        by_cases e : v = n
        · rw [e]; exact hn
        · exact h2 v (by omega)
      · right
        have hn' : vis.testBit n = false := by simpa using hn
        refine ⟨n, by omega, hn', by unfold bestStep; rw [if_pos ⟨hn', by simp; omega⟩], fun u hu hu2 => ?_, fun u hu hu2 => ?_⟩
        · by_cases e : u = n
          · rw [e]; exact Nat.le_refl _
          · rw [h2 u (by omega)] at hu2; cases hu2
        · rw [h2 u hu] at hu2; cases hu2
    · right
      rw [he]
      by_cases hc : vis.testBit n = false ∧ size (A v &&& vis) < size (A n &&& vis)
      · refine ⟨n, by omega, hc.1, by unfold bestStep; rw [if_pos ⟨hc.1, by simp; omega⟩], fun u hu hu2 => ?_, fun u hu hu2 => ?_⟩
        · by_cases e : u = n
          · rw [e]; exact Nat.le_refl _
          · have := hm u (by omega) hu2; omega
        · have := hm u hu hu2; omega
      · refine ⟨v, by omega, hf, by unfold bestStep; rw [if_neg]; intro ⟨h1, h2⟩; exact hc ⟨h1, by simp at h2; omega⟩, fun u hu hu2 => ?_, hfst⟩
        by_cases e : u = n
        · subst e
          by_cases hlt : size (A v &&& vis) < size (A u &&& vis)
          · exact absurd ⟨hu2, hlt⟩ hc
          · omega
        · exact hm u (by omega) hu2

/-- The visited set and the order after r rounds. -/
def searchTo (A : Nat → Nat) (n : Nat) : Nat → Nat × List Nat
  | 0 => (0, [])
  | r + 1 => (bset (searchTo A n r).1 (best A (searchTo A n r).1 n).1.toNat, (searchTo A n r).2 ++ [(best A (searchTo A n r).1 n).1.toNat])
def search (A : Nat → Nat) (n : Nat) : List Nat := (searchTo A n n).2

theorem cover_le : ∀ (n : Nat) (l : List Nat), (∀ v, v < n → v ∈ l) → n ≤ l.length
  | 0, _, _ => by omega
  | n + 1, l, h => by
    have hm := h n (by omega)
    have h2 := cover_le n (l.erase n) (fun v hv => (List.mem_erase_of_ne (by omega)).2 (h v (by omega)))
    rw [List.length_erase_of_mem hm] at h2
    have : 0 < l.length := List.length_pos_of_mem hm
    omega
structure Visits (A : Nat → Nat) (n r : Nat) : Prop where
  len : (searchTo A n r).2.length = r
  bits : ∀ i, (searchTo A n r).1.testBit i = true ↔ i ∈ (searchTo A n r).2
  lt : ∀ i ∈ (searchTo A n r).2, i < n
  small : (searchTo A n r).1 < 18446744073709551616
  nodup : (searchTo A n r).2.Nodup
theorem best_of {A : Nat → Nat} {n r : Nat} (h : Visits A n r) (hr : r < n) : ∃ v, v < n ∧ (searchTo A n r).1.testBit v = false ∧
    best A (searchTo A n r).1 n = ((v : Int), ((size (A v &&& (searchTo A n r).1) : Nat) : Int)) ∧ (∀ u, u < n → (searchTo A n r).1.testBit u = false → size (A u &&& (searchTo A n r).1) ≤ size (A v &&& (searchTo A n r).1)) ∧
      (∀ u, u < v → (searchTo A n r).1.testBit u = false → size (A u &&& (searchTo A n r).1) < size (A v &&& (searchTo A n r).1)) := by
  rcases best_spec A (searchTo A n r).1 n with ⟨_, h2⟩ | h
  · exfalso
    have := cover_le n (searchTo A n r).2 (fun v hv => (h.bits v).1 (h2 v hv))
    have := h.len
    omega
  · exact h
theorem visits {A : Nat → Nat} {n : Nat} (hn : n ≤ 64) : ∀ r, r ≤ n → Visits A n r
  | 0, _ => ⟨rfl, by simp [searchTo], by simp [searchTo], by simp [searchTo], by simp [searchTo]⟩
  | r + 1, hr => by
    have ih := visits (A := A) hn r (by omega)
    obtain ⟨v, hv, hf, he, _⟩ := best_of ih (by omega)
    have e : searchTo A n (r + 1) = (bset (searchTo A n r).1 v, (searchTo A n r).2 ++ [v]) := by
      simp only [searchTo, he]; rfl
    refine ⟨?_, ?_, ?_, ?_, ?_⟩
    · rw [e]; simp [ih.len]
    · intro i
      rw [e]
      simp only [bset_bit, Bool.or_eq_true, decide_eq_true_eq, List.mem_append, List.mem_singleton, ih.bits]
      constructor
      · rintro (h | h)
        · exact .inl h
        · exact .inr h.symm
      · rintro (h | h)
        · exact .inl h
        · exact .inr h.symm
    · intro i hi
      rw [e] at hi
      simp only [List.mem_append, List.mem_singleton] at hi
      rcases hi with h | h
      · exact ih.lt i h
      · omega
    · rw [e]; exact bset_lt ih.small (by omega)
    · rw [e]
      rw [List.nodup_append]
      refine ⟨ih.nodup, by simp, fun a ha b hb => ?_⟩
      simp at hb
      subst hb
      rintro rfl
      have := (ih.bits a).2 ha
      rw [hf] at this
      cases this
/-- For each vertex of an order, the neighbours that come ahead of it. -/
def earlierFrom (A : Nat → Nat) : Nat → List Nat → List Nat
  | _, [] => []
  | vis, v :: l => (A v &&& vis) :: earlierFrom A (bset vis v) l
def earlier (A : Nat → Nat) (l : List Nat) : List Nat := earlierFrom A 0 l
def isClique (A : Nat → Nat) (s : Nat) : Bool := (verts s).all fun v => decide (andn (bclr s v) (A v) = 0)
def isChordal (A : Nat → Nat) (n : Nat) : Bool := (earlier A (search A n)).all (isClique A)
end Go.Gr
