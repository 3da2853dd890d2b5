/- Plain law of Make: the edges that the library writes are the edges of the reference's table. -/
import Derived.Test.YtamipjpcphghaaaDoorXC
import Derived.Test.YtamipjpcphghaaaDoorSpec
namespace Go.Gr
theorem connect_bit (A : Nat → Nat) (a b k m : Nat) : (connect A a b k).testBit m = (decide (k = a ∧ m = b) || decide (k = b ∧ m = a) || (A k).testBit m) := by
  unfold connect upd
  by_cases h1 : k = b
  · subst h1
    by_cases h2 : k = a
    · subst h2
      by_cases h3 : m = k
      · subst h3; simp [bset_bit]
      · have : ¬ k = m := fun e => h3 e.symm
        simp [bset_bit, h3, this]
    · by_cases h3 : m = a
      · subst h3; simp [bset_bit, h2]
      · have : ¬ a = m := fun e => h3 e.symm
        simp [bset_bit, h2, h3, this]
  · by_cases h2 : k = a
    · subst h2
      by_cases h3 : m = b
      · subst h3; simp [bset_bit, h1]
      · have : ¬ b = m := fun e => h3 e.symm
        simp [bset_bit, h1, h3, this]
    · simp [h1, h2]
theorem joinT_at (t : Nat → Nat → Bool) (a b k m : Nat) : joinT t a b k m = (decide (k = a ∧ m = b) || decide (k = b ∧ m = a) || t k m) := by
  unfold joinT setT
  by_cases h1 : k = b ∧ m = a
  · simp [h1]
  · by_cases h2 : k = a ∧ m = b
    · simp [h2]
    · simp [h1, h2]
theorem read_bits (es : List (Int × Int)) (k m : Nat) : (readAll es k).testBit m = readT es k m := by
  unfold readAll readT
  have : ∀ (es : List (Int × Int)) (A : Nat → Nat) (t : Nat → Nat → Bool), (∀ k m, (A k).testBit m = t k m) → ∀ k m, (es.foldl (fun A e => connect A e.1.toNat e.2.toNat) A k).testBit m = es.foldl (fun t e => joinT t e.1.toNat e.2.toNat) t k m := by
    intro es
    induction es with
    | nil => exact fun A t h => h
    | cons e es ih =>
      intro A t h
      simp only [List.foldl_cons]
      exact ih _ _ (fun k m => by rw [connect_bit, joinT_at, h])
  exact this es _ _ (fun k m => by simp) k m
theorem readT_from (es : List (Int × Int)) {k m : Nat} (h : readT es k m = true) : ∃ e ∈ es, (e.1.toNat = k ∧ e.2.toNat = m) ∨ (e.1.toNat = m ∧ e.2.toNat = k) := by
  unfold readT at h
  have : ∀ (es : List (Int × Int)) (t : Nat → Nat → Bool), es.foldl (fun t e => joinT t e.1.toNat e.2.toNat) t k m = true → t k m = true ∨ ∃ e ∈ es, (e.1.toNat = k ∧ e.2.toNat = m) ∨ (e.1.toNat = m ∧ e.2.toNat = k) := by
    intro es
    induction es with
    | nil => exact fun t h => .inl h
    | cons e es ih =>
      intro t h
      simp only [List.foldl_cons] at h
      rcases ih _ h with h1 | ⟨e', he, h1⟩
      · rw [joinT_at] at h1
        simp only [Bool.or_eq_true, decide_eq_true_eq] at h1
        rcases h1 with (h1 | h1) | h1
        · exact .inr ⟨e, by simp, .inl ⟨h1.1.symm, h1.2.symm⟩⟩
        · exact .inr ⟨e, by simp, .inr ⟨h1.2.symm, h1.1.symm⟩⟩
        · exact .inl h1
      · exact .inr ⟨e', by simp [he], h1⟩
  rcases this es _ h with h1 | h1
  · cases h1
  · exact h1
theorem filter_range_le {n N : Nat} (hn : n ≤ N) {p q : Nat → Bool} (h1 : ∀ k, k < n → p k = q k) (h2 : ∀ k, n ≤ k → k < N → p k = false) : (List.range N).filter p = (List.range n).filter q := by
  obtain ⟨d, rfl⟩ := Nat.le.dest hn
  rw [List.range_add, List.filter_append, List.filter_congr (fun x hx => h1 x (by simpa using hx))]
  rw [show ((List.range d).map (n + ·)).filter p = [] from List.filter_eq_nil_iff.2 (fun a ha => by
    obtain ⟨x, hx, rfl⟩ := List.mem_map.1 ha
    have : x < d := by simpa using hx
    simp [h2 (n + x) (by omega) (by omega)])]
  simp
theorem make_edges {n : Int} {es : List (Int × Int)} (h : rangeOk n es) (hne : ∀ e ∈ es, e.1 ≠ e.2) : writeEdges (readAll es) n.toNat = tableEdges (readT es) n.toNat n.toNat := by
  obtain ⟨⟨hn0, hn1⟩, hr⟩ := h
  have hb : ∀ k m, readT es k m = true → m < n.toNat ∧ k ≠ m := by
    intro k m h
    obtain ⟨e, he, h1⟩ := readT_from es h
    have := hr e he
    have := hne e he
    unfold inR at *
    omega
  unfold writeEdges tableEdges
  rw [List.flatMap_def, List.flatMap_def]
  congr 1
  apply List.map_congr_left
  intro i hi
  have hi : i < n.toNat := by simpa using hi
  unfold rowEdges rowT verts
  congr 1
  have hf : firstN i < 18446744073709551616 := by
    unfold firstN
    have := shl_lt i (by omega)
    omega
  apply filter_range_le (by omega)
  · intro k hk
    rw [andn_bit _ _ _ hf (by omega), firstN_bit, read_bits]
    cases hh : readT es i k
    · simp
    · have := (hb i k hh).2
      by_cases hik : i < k
      · simp [hik]; omega
      · simp [hik]; omega
  · intro k h1 h2
    rw [andn_bit _ _ _ hf h2, read_bits]
    cases hh : readT es i k
    · simp
    · have := (hb i k hh).1
      omega
end Go.Gr
