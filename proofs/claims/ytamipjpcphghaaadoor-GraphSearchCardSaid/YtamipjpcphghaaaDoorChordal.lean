/- Plain mathematics of chordal graphs: a graph with a perfect elimination order has the order of every maximum cardinality search as one. No program in sight. -/
namespace Go.Chordal

/-- A list of vertices, the first one eliminated first: the later neighbours of each vertex are pairwise adjacent. -/
def Peo (adj : Nat → Nat → Prop) : List Nat → Prop
  | [] => True
  | v :: post => (∀ a ∈ post, ∀ b ∈ post, adj v a → adj v b → a ≠ b → adj a b) ∧ Peo adj post

/-- A path p 0 .. p j without chords. -/
structure Path (adj : Nat → Nat → Prop) (p : Nat → Nat) (j : Nat) : Prop where
  inj : ∀ a b, a < b → b ≤ j → p a ≠ p b
  step : ∀ a, a < j → adj (p a) (p (a + 1))
  free : ∀ a b, a + 1 < b → b ≤ j → ¬ adj (p a) (p b)

theorem Path.rev {adj : Nat → Nat → Prop} (sym : ∀ a b, adj a b → adj b a) {p : Nat → Nat} {j : Nat} (h : Path adj p j) : Path adj (fun k => p (j - k)) j where
  inj a b hab hb := fun e => h.inj (j - b) (j - a) (by omega) (by omega) e.symm
  step a ha := by
    have := h.step (j - (a + 1)) (by omega)
    rw [show j - (a + 1) + 1 = j - a from by omega] at this
    exact sym _ _ this
  free a b hab hb := fun e => h.free (j - b) (j - a) (by omega) (by omega) (sym _ _ e)

theorem Path.take {adj : Nat → Nat → Prop} {p : Nat → Nat} {j i : Nat} (h : Path adj p j) (hi : i ≤ j) : Path adj p i where
  inj a b hab hb := h.inj a b hab (by omega)
  step a ha := h.step a (by omega)
  free a b hab hb := h.free a b hab (by omega)

/-- In a graph with a perfect elimination order a vertex that is adjacent to both ends of a path without chords is adjacent to one inside it. -/
theorem peo_inside {adj : Nat → Nat → Prop} (sym : ∀ a b, adj a b → adj b a) : ∀ (l : List Nat), Peo adj l → ∀ (p : Nat → Nat) (j z : Nat), 2 ≤ j → Path adj p j → (∀ k, k ≤ j → p k ∈ l) → z ∈ l → (∀ k, k ≤ j → z ≠ p k) →
    adj z (p 0) → adj z (p j) → ∃ k, 0 < k ∧ k < j ∧ adj z (p k)
  | [], _, p, j, z, _, _, hp, _, _, _, _ => by have := hp 0 (by omega); simp at this
  | v :: post, ⟨hv, hpost⟩, p, j, z, hj, hpath, hp, hz, hne, h0, hJ => by
    by_cases hvz : v = z
    · subst hvz
      have m0 : p 0 ∈ post := by
        rcases List.mem_cons.1 (hp 0 (by omega)) with e | e
        · exact absurd e.symm (hne 0 (by omega))
        · exact e
      have mJ : p j ∈ post := by
        rcases List.mem_cons.1 (hp j (by omega)) with e | e
        · exact absurd e.symm (hne j (by omega))
        · exact e
      exact absurd (hv _ m0 _ mJ h0 hJ (hpath.inj 0 j (by omega) (by omega))) (hpath.free 0 j (by omega) (by omega))
    · have mz : z ∈ post := by
        rcases List.mem_cons.1 hz with e | e
        · exact absurd e.symm hvz
        · exact e
      by_cases hin : ∃ i, i ≤ j ∧ p i = v
      · obtain ⟨i, hi, rfl⟩ := hin
        have mem : ∀ k, k ≤ j → k ≠ i → p k ∈ post := by
          intro k hk hki
          rcases List.mem_cons.1 (hp k hk) with e | e
          · rcases Nat.lt_or_gt_of_ne hki with h | h
            · exact absurd e (hpath.inj k i h hi)
            · exact absurd e.symm (hpath.inj i k h hk)
          · exact e
        by_cases hi0 : i = 0
        · subst hi0
          refine ⟨1, by omega, by omega, ?_⟩
          exact hv _ mz _ (mem 1 (by omega) (by omega)) (sym _ _ h0) (hpath.step 0 (by omega)) (hne 1 (by omega))
        · by_cases hij : i = j
          · subst hij
            refine ⟨i - 1, by omega, by omega, ?_⟩
            have hs := hpath.step (i - 1) (by omega)
            rw [show i - 1 + 1 = i from by omega] at hs
            exact hv _ mz _ (mem (i - 1) (by omega) (by omega)) (sym _ _ hJ) (sym _ _ hs) (hne (i - 1) (by omega))
          · have hs := hpath.step (i - 1) (by omega)
            rw [show i - 1 + 1 = i from by omega] at hs
            exact absurd (hv _ (mem (i - 1) (by omega) (by omega)) _ (mem (i + 1) (by omega) (by omega)) (sym _ _ hs) (hpath.step i (by omega)) (hpath.inj (i - 1) (i + 1) (by omega) (by omega)))
              (hpath.free (i - 1) (i + 1) (by omega) (by omega))
      · have mem : ∀ k, k ≤ j → p k ∈ post := by
          intro k hk
          rcases List.mem_cons.1 (hp k hk) with e | e
          · exact absurd ⟨k, hk, e⟩ hin
          · exact e
        exact peo_inside sym post hpost p j z hj hpath mem mz hne h0 hJ

/-- How many of o 0 .. o (y - 1) are adjacent to v. -/
def cnt (adj : Nat → Nat → Bool) (o : Nat → Nat) (y v : Nat) : Nat := ((List.range y).filter fun k => adj v (o k)).length

theorem filter_len_lt {α : Type} (l : List α) (p q : α → Bool) (hpq : ∀ x ∈ l, p x = true → q x = true) (x : α) (hx : x ∈ l) (h1 : q x = true) (h2 : p x = false) : (l.filter p).length < (l.filter q).length := by
  induction l with
  | nil => simp at hx
  | cons y l ih =>
    have hle : ∀ (l : List α), (∀ x ∈ l, p x = true → q x = true) → (l.filter p).length ≤ (l.filter q).length := by
      intro l
      induction l with
      | nil => simp
      | cons z l ih2 =>
        intro h
        have h3 := ih2 (fun x hx => h x (by simp [hx]))
        by_cases hpz : p z = true
        · have := h z (by simp) hpz
          simp [hpz, this]; omega
        · by_cases hqz : q z = true <;> simp [hpz, hqz] <;> omega
    rcases List.mem_cons.1 hx with e | e
    · subst e
      have := hle l (fun x hx => hpq x (by simp [hx]))
      simp [h1, h2]; omega
    · have h3 := ih (fun x hx => hpq x (by simp [hx])) e
      by_cases hpz : p y = true
      · have := hpq y (by simp) hpz
        simp [hpz, this]; omega
      · by_cases hqz : q y = true <;> simp [hpz, hqz] <;> omega

/-- If one has a neighbour among the first y that the other has not, and is not ahead in number, the other has one that it has not. -/
theorem cnt_other {adj : Nat → Nat → Bool} {o : Nat → Nat} {y u v x : Nat} (hle : cnt adj o y u ≤ cnt adj o y v) (hx : x < y) (hu : adj u (o x) = true) (hv : adj v (o x) = false) :
    ∃ z, z < y ∧ adj v (o z) = true ∧ adj u (o z) = false := by
  by_cases h : ∃ z, z < y ∧ adj v (o z) = true ∧ adj u (o z) = false
  · exact h
  · exfalso
    have : cnt adj o y v < cnt adj o y u := by
      unfold cnt
      refine filter_len_lt _ _ _ ?_ x (by simpa using hx) hu hv
      intro z hz hvz
      by_cases hc : adj u (o z) = true
      · exact hc
      · exact absurd ⟨z, by simpa using hz, hvz, by simpa using hc⟩ h
    omega

theorem least_true (P : Nat → Prop) [DecidablePred P] : ∀ (n : Nat), P n → ∃ i, i ≤ n ∧ P i ∧ ∀ k, k < i → ¬ P k
  | 0, h => ⟨0, by omega, h, by omega⟩
  | n + 1, h => by
    by_cases h2 : ∃ k, k ≤ n ∧ P k
    · obtain ⟨k, hk, pk⟩ := h2
      have : ∀ m, m ≤ n → P m → ∃ i, i ≤ m ∧ P i ∧ ∀ k, k < i → ¬ P k := fun m hm pm => by
        induction m using Nat.strongRecOn with
        | _ m ih =>
          by_cases h3 : ∃ q, q < m ∧ P q
          · obtain ⟨q, hq, pq⟩ := h3
            obtain ⟨i, hi, pi, hall⟩ := ih q hq (by omega) pq
            exact ⟨i, by omega, pi, hall⟩
          · exact ⟨m, by omega, pm, fun k hk pk => h3 ⟨k, hk, pk⟩⟩
      obtain ⟨i, hi, pi, hall⟩ := this k hk pk
      exact ⟨i, by omega, pi, hall⟩
    · exact ⟨n + 1, by omega, h, fun k hk pk => h2 ⟨k, by omega, pk⟩⟩

/-- o 0 .. o (n - 1) is an order in which each vertex has, among those that are left, the most neighbours ahead of it. -/
structure Mcs (adj : Nat → Nat → Bool) (o : Nat → Nat) (n : Nat) : Prop where
  inj : ∀ a b, a < b → b < n → o a ≠ o b
  most : ∀ y u, y ≤ u → u < n → cnt adj o y (o u) ≤ cnt adj o y (o y)

theorem mcs_no_path {adj : Nat → Nat → Bool} (sym : ∀ a b, adj a b = true → adj b a = true) {o : Nat → Nat} {n : Nat} (hm : Mcs adj o n) {l : List Nat} (hl : Peo (fun a b => adj a b = true) l)
    (hmem : ∀ k, k < n → o k ∈ l) : ∀ (m : Nat) (q : Nat → Nat) (j : Nat), 2 ≤ j → q 0 ≤ m → q j ≤ m → m < n → (∀ k, k ≤ j → q k < n) → (∀ k, 0 < k → k < j → q 0 < q k ∧ q j < q k) →
    Path (fun a b => adj a b = true) (fun k => o (q k)) j → False := by
  intro m
  induction m using Nat.strongRecOn with
  | _ m ih =>
    -- the path with its greater end last
    have main : ∀ (q : Nat → Nat) (j : Nat), 2 ≤ j → q 0 < q j → q j ≤ m → m < n → (∀ k, k ≤ j → q k < n) → (∀ k, 0 < k → k < j → q 0 < q k ∧ q j < q k) →
        Path (fun a b => adj a b = true) (fun k => o (q k)) j → False := by
      intro q j hj h0j hjm hmn hq hin hpath
      have hx : adj (o (q 1)) (o (q 0)) = true := sym _ _ (hpath.step 0 (by omega))
      have hy : adj (o (q j)) (o (q 0)) = false := by
        have := hpath.free 0 j (by omega) (by omega)
        cases h : adj (o (q j)) (o (q 0))
        · rfl
        · exact absurd (sym _ _ h) this
      have h1 := (hin 1 (by omega) (by omega)).2
      obtain ⟨z, hz, hzy, hz1⟩ := cnt_other (hm.most (q j) (q 1) (by omega) (hq 1 (by omega))) h0j hx hy
      -- the first vertex of the path behind p 0 to which o z is adjacent
      obtain ⟨i', hi', pi', hall⟩ := least_true (fun k => adj (o z) (o (q (k + 1))) = true) (j - 1) (by rw [show j - 1 + 1 = j from by omega]; exact sym _ _ hzy)
      obtain ⟨i, rfl⟩ : ∃ i, i = i' + 1 := ⟨_, rfl⟩
      have hi1 : i' ≠ 0 := by
        rintro rfl
        rw [sym _ _ pi'] at hz1
        cases hz1
      have hzne : ∀ k, k ≤ i' + 1 → o z ≠ o (q k) := by
        intro k hk e
        have hzk : z ≠ q k := by
          by_cases hk0 : k = 0
          · subst hk0
            intro e2
            rw [← e2, hzy] at hy
            cases hy
          · by_cases hkj : k = j
            · rw [hkj]; omega
            · have := hin k (by omega) (by omega); omega
        rcases Nat.lt_or_gt_of_ne hzk with h | h
        · exact hm.inj _ _ h (hq k (by omega)) e
        · exact hm.inj _ _ h (by omega) e.symm
      by_cases hzx : adj (o z) (o (q 0)) = true
      · obtain ⟨k, hk0, hk, hzk⟩ := peo_inside sym l hl (fun k => o (q k)) (i' + 1) (o z) (by omega) (hpath.take (by omega)) (fun k hk => hmem _ (hq k (by omega))) (hmem _ (by omega)) hzne hzx pi'
        have := hall (k - 1) (by omega)
        rw [show k - 1 + 1 = k from by omega] at this
        exact this hzk
      · -- a path from q 0 to z whose ends come earlier
        have hz0 : z ≠ q 0 := fun e => hzne 0 (by omega) (by rw [e])
        refine ih (max (q 0) z) (by omega) (fun k => if k ≤ i' + 1 then q k else z) (i' + 2) (by omega) (by simp; omega) (by simp; omega) (by omega) ?_ ?_ ?_
        · intro k hk
          by_cases h : k ≤ i' + 1
          · simp only [h, if_true]; exact hq k (by omega)
          · simp only [h, if_false]; omega
        · intro k hk0 hk
          simp only [show k ≤ i' + 1 from by omega, if_true, Nat.zero_le, show ¬ (i' + 2 ≤ i' + 1) from by omega, if_false]
          by_cases hkj : k = j
          · subst hkj; exact ⟨h0j, hz⟩
          · have := hin k hk0 (by omega); omega
        · constructor
          · intro a b hab hb
            by_cases h : b ≤ i' + 1
            · simp only [h, show a ≤ i' + 1 from by omega, if_true]
              exact hpath.inj a b hab (by omega)
            · simp only [h, show a ≤ i' + 1 from by omega, if_true, if_false]
              exact fun e => hzne a (by omega) e.symm
          · intro a ha
            by_cases h : a + 1 ≤ i' + 1
            · simp only [h, show a ≤ i' + 1 from by omega, if_true]
              exact hpath.step a (by omega)
            · simp only [h, show a ≤ i' + 1 from by omega, if_true, if_false]
              rw [show a = i' + 1 from by omega]
              exact sym _ _ pi'
          · intro a b hab hb
            by_cases h : b ≤ i' + 1
            · simp only [h, show a ≤ i' + 1 from by omega, if_true]
              exact hpath.free a b hab (by omega)
            · simp only [h, show a ≤ i' + 1 from by omega, if_true, if_false]
              intro e
              by_cases ha0 : a = 0
              · subst ha0; exact hzx (sym _ _ e)
              · have := hall (a - 1) (by omega)
                rw [show a - 1 + 1 = a from by omega] at this
                exact this (sym _ _ e)
    intro q j hj h0m hjm hmn hq hin hpath
    have hne : q 0 ≠ q j := fun e => hpath.inj 0 j (by omega) (by omega) (by simp [e])
    rcases Nat.lt_or_gt_of_ne hne with h | h
    · exact main q j hj h hjm hmn hq hin hpath
    · refine main (fun k => q (j - k)) j hj (by simpa using h) (by simpa using h0m) hmn (fun k hk => hq _ (by omega)) ?_ (hpath.rev sym)
      intro k hk0 hk
      have := hin (j - k) (by omega) (by omega)
      simp only [Nat.sub_zero, Nat.sub_self]
      exact ⟨this.2, this.1⟩

/-- The neighbours that come ahead of a vertex in such an order are pairwise adjacent, if the graph has a perfect elimination order. -/
theorem mcs_clique {adj : Nat → Nat → Bool} (sym : ∀ a b, adj a b = true → adj b a = true) {o : Nat → Nat} {n : Nat} (hm : Mcs adj o n) {l : List Nat} (hl : Peo (fun a b => adj a b = true) l)
    (hmem : ∀ k, k < n → o k ∈ l) {k a b : Nat} (hk : k < n) (ha : a < k) (hb : b < k) (hab : a ≠ b) (h1 : adj (o k) (o a) = true) (h2 : adj (o k) (o b) = true) : adj (o a) (o b) = true := by
  by_cases h : adj (o a) (o b) = true
  · exact h
  · exfalso
    refine mcs_no_path sym hm hl hmem (max a b) (fun i => if i = 0 then a else if i = 1 then k else b) 2 (by omega) (by simp; omega) (by simp; omega) (by omega) ?_ ?_ ?_
    · intro i hi
      show (if i = 0 then a else if i = 1 then k else b) < n
      split
      · omega
      · split <;> omega
    · intro i h0 h2
      obtain rfl : i = 1 := by omega
      simp; omega
    · constructor
      · intro i j hij hj
        have : (i = 0 ∧ j = 1) ∨ (i = 0 ∧ j = 2) ∨ (i = 1 ∧ j = 2) := by omega
        rcases this with ⟨rfl, rfl⟩ | ⟨rfl, rfl⟩ | ⟨rfl, rfl⟩
        · simpa using hm.inj a k ha hk
        · simp only [if_true]
          rcases Nat.lt_or_gt_of_ne hab with h | h
          · simpa using hm.inj a b h (by omega)
          · simpa using fun e => hm.inj b a h (by omega) (Eq.symm e)
        · simpa using fun e => hm.inj b k hb hk (Eq.symm e)
      · intro i hi
        have : i = 0 ∨ i = 1 := by omega
        rcases this with rfl | rfl
        · simpa using sym _ _ h1
        · simpa using h2
      · intro i j hij hj
        obtain ⟨rfl, rfl⟩ : i = 0 ∧ j = 2 := by omega
        simpa using h

end Go.Chordal
