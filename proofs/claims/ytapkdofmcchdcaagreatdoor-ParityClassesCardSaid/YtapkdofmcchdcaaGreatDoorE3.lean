/- Sign symmetries: what the search over all sign vectors finds. Plain numbers. -/
import Derived.Test.YtapkdofmcchdcaaGreatDoorE2
namespace Go.Ev
open Go.Gr
/-- The parities of the rows, as marks. -/
def occF (rows : List (List Int)) (i : Nat) : Bool := rows.any fun r => pk r r.length == i
theorem occF_app (rows : List (List Int)) (r : List Int) (i : Nat) : occF (rows ++ [r]) i = (occF rows i || (pk r r.length == i)) := by
  unfold occF; rw [List.any_append]; simp
/-- A sign vector that has an even number of bits in common with each marked number. -/
def goodS (f : Nat → Bool) (x : Nat) : Bool := (List.range 64).all fun e => !(f e && decide (size (x &&& e) % 2 = 1))
theorem goodS_iff {f : Nat → Bool} {x : Nat} : goodS f x = true ↔ ∀ e, e < 64 → f e = true → size (x &&& e) % 2 ≠ 1 := by
  unfold goodS
  rw [List.all_eq_true]
  constructor
  · intro h e he hf
    have := h e (List.mem_range.2 he)
    simpa [hf] using this
  · intro h e he
    have := h e (List.mem_range.1 he)
    cases hf : f e with
    | false => rfl
    | true => simpa using this hf
theorem good_V {rows : List (List Int)} {n x : Nat} (hn : n ≤ 6) (hx : x < 2 ^ n) (hr : ∀ r ∈ rows, r.length = n) : goodS (occF rows) x = true ↔ V rows n x := by
  have h6 : 2 ^ n ≤ 2 ^ 6 := Nat.pow_le_pow_right (by omega) hn
  rw [goodS_iff]
  constructor
  · intro h
    refine ⟨hx, fun r hr' => ?_⟩
    have hl := hr r hr'
    have hp := pk_lt r r.length
    rw [hl] at hp
    have := h (pk r n) (by omega) (by unfold occF; exact List.any_eq_true.2 ⟨r, hr', by rw [hl]; simp⟩)
    rw [size_and r x n (by omega)] at this
    omega
  · intro h e he hf
    unfold occF at hf
    obtain ⟨r, hr', hre⟩ := List.any_eq_true.1 hf
    have hl := hr r hr'
    have e2 : pk r n = e := by rw [hl] at hre; simpa using hre
    rw [← e2, size_and r x n (by omega), h.2 r hr']
    decide
/-- The vectors that the search has found below s. -/
def fnd (f : Nat → Bool) (s : Nat) : List Nat := (List.range s).filter fun x => decide (0 < x) && goodS f x
theorem fnd_succ (f : Nat → Bool) (s : Nat) (hs : 0 < s) : fnd f (s + 1) = fnd f s ++ (if goodS f s = true then [s] else []) := by
  unfold fnd
  rw [List.range_succ, List.filter_append]
  congr 1
  simp [List.filter_cons, hs]
theorem fnd_one (f : Nat → Bool) : fnd f 1 = [] := rfl
theorem fnd_len (f : Nat → Bool) (s : Nat) : (fnd f s).length ≤ s := by
  unfold fnd
  exact Nat.le_trans (List.length_filter_le _ _) (by simp)
theorem fnd_space {rows : List (List Int)} {n : Nat} (hn : n ≤ 6) (hr : ∀ r ∈ rows, r.length = n) :
    (∀ v ∈ fnd (occF rows) (2 ^ n), V rows n v) ∧ ∀ x, V rows n x → Span (fnd (occF rows) (2 ^ n)) x := by
  constructor
  · intro v hv
    obtain ⟨h1, h2⟩ := List.mem_filter.1 hv
    have h1 := List.mem_range.1 h1
    rw [Bool.and_eq_true] at h2
    exact (good_V hn h1 hr).1 h2.2
  · intro x hx
    by_cases h0 : x = 0
    · subst h0; exact .zero
    · exact Span.mem (List.mem_filter.2 ⟨List.mem_range.2 hx.1, by rw [(good_V hn hx.1 hr).2 hx, decide_eq_true (Nat.pos_of_ne_zero h0)]; rfl⟩)
end Go.Ev
