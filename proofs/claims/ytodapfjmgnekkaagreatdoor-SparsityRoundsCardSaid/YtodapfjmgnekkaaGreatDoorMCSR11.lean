/- Parts of the proof: GXL, GChordal, GPD, GPE. -/
import Derived.Test.YtodapfjmgnekkaaGreatDoorMCSR6
import Derived.Test.YtodapfjmgnekkaaGreatDoorMCSR10
section
/- The reference's subset and Less. -/
namespace Go.Gr
theorem cmpL_drop {a b : List Int} {k : Nat} (ha : k < a.length) (hb : k < b.length) : cmpL (a.drop k) (b.drop k) = if a[k] < b[k] then -1 else if b[k] < a[k] then 1 else cmpL (a.drop (k + 1)) (b.drop (k + 1)) := by
  rw [List.drop_eq_getElem_cons ha, List.drop_eq_getElem_cons hb]
  rfl
theorem cmpL_short {a b : List Int} (h : a = [] ∨ b = []) : cmpL a b < 0 ↔ a.length < b.length := by
  cases a <;> cases b <;> simp_all [cmpL]
end Go.Gr
namespace Go.Proofs.Tg.Gx
open Go.RowKit Go.Gr
set_option maxHeartbeats 4000000
set_option maxRecDepth 100000
theorem rsub_any (A B : Option Addr) (a b : List Int) (c d : Nat) (bv : Bool) (w : World) (hA : Ints w A a) (hB : Ints w B b) (hal : a.length ≤ 1000) (hbl : b.length ≤ 1000) (hv : bv = true ↔ common a b = a.length) :
    Calls Tryz.prog 100 #[.slice A a.length c, .slice B b.length d] w fun e w' => e = .returned (.bool bv) ∧ ∃ n, w' = w.drewN n := by
  have HC := Lib.hid (common_any A B a b c d w hA hB hal hbl)
  clear hA hB
  by_cases h : common a b = a.length
  · obtain rfl : bv = true := hv.2 h
    have e1 : (((common a b : Nat) : Int) == (a.length : Int)) = true := beq_iff_eq.2 (by omega)
    clear hv h
    generalize common a b = z at HC e1
    go_enter Tryz.func100, Tryz.ntmps100
    go_wp2_with (go_at_call 121; refine HC.out.mono ?_; rintro e w1 ⟨rfl, hw1⟩; have HW := Lib.hid hw1; clear hw1)
    go_ret
    exact ⟨rfl, HW.out⟩
  · obtain rfl : bv = false := by
      cases bv
      · rfl
      · exact absurd (hv.1 rfl) h
    have e1 : (((common a b : Nat) : Int) == (a.length : Int)) = false := beq_eq_false_iff_ne.2 (by omega)
    clear hv h
    generalize common a b = z at HC e1
    go_enter Tryz.func100, Tryz.ntmps100
    go_wp2_with (go_at_call 121; refine HC.out.mono ?_; rintro e w1 ⟨rfl, hw1⟩; have HW := Lib.hid hw1; clear hw1)
    go_ret
    exact ⟨rfl, HW.out⟩
theorem rless_any (A B : Option Addr) (a b : List Int) (c d : Nat) (bv : Bool) (w : World) (hA : Ints w A a) (hB : Ints w B b) (hal : a.length ≤ 1000) (hbl : b.length ≤ 1000) (hv : bv = true ↔ cmpL a b < 0) :
    Calls Tryz.prog 101 #[.slice A a.length c, .slice B b.length d] w fun e w' => e = .returned (.bool bv) ∧ ∃ n, w' = w.drewN n := by
  have HV := Lib.hid hv
  clear hv
  go_enter Tryz.func101, Tryz.ntmps101
  go_wp2
  go_loopw [5] (fun i wr => ∃ k : Nat, i = .int .i64 k ∧ k ≤ a.length ∧ k ≤ b.length ∧ Hid (cmpL a b = cmpL (a.drop k) (b.drop k)) ∧ Below w.heap.size w wr ∧ Hid (∃ n, wr = w.drewN n)) (fun i _ => a.length - (intOf i).toNat)
  case atStart => exact ⟨0, rfl, Nat.zero_le _, Nat.zero_le _, Lib.hid rfl, Below.refl _ _, Lib.hid ⟨0, rfl⟩⟩
  case round =>
    obtain ⟨k, rfl, hka, hkb, HC, hb, HD⟩ := hrel
    by_cases h : k < a.length ∧ k < b.length
    · obtain ⟨h1, h2⟩ := h
      have q1 : decide ((k : Int) < (a.length : Int)) = true := by simp; omega
      have q2 : decide ((k : Int) < (b.length : Int)) = true := by simp; omega
      have HS := Lib.hid (cmpL_drop h1 h2)
      obtain ⟨ad, rfl, hc⟩ := Ints.at (hA.keep hb) h1
      obtain ⟨bd, rfl, hd⟩ := Ints.at (hB.keep hb) h2
      generalize a[k] = x at HS hc
      generalize b[k] = y at HS hd
      have k0 : (0 : Int) ≤ (k : Int) := by omega
      have k1 : (k : Int) < (a.length : Int) := by omega
      have k2 : (k : Int) < (b.length : Int) := by omega
      clear hA hB
      by_cases hxy : x = y
      · subst hxy
        have hne : (x != x) = false := by simp
        have HC2 : Hid (cmpL a b = cmpL (a.drop (k + 1)) (b.drop (k + 1))) := Lib.hid (by rw [HC.out, HS.out, if_neg (by omega), if_neg (by omega)])
        clear HC HS
        go_wp2
        go_quiet (fail)
        go_wp2
        go_roundw
        case rel => exact ⟨k + 1, by go_num, by omega, by omega, HC2, below_drewN hb _, drew_more HD _⟩
        case measure => simp [intOf]; omega
      · have hne : (x != y) = true := by simpa using hxy
        by_cases hlt : x < y
        · have q3 : decide (x < y) = true := by simpa using hlt
          obtain rfl : bv = true := HV.out.2 (by rw [HC.out, HS.out, if_pos hlt]; omega)
          clear HC HS HV hxy
          go_wp2
          go_quiet (fail)
          go_wp2
          go_quiet (fail)
          go_wp2
          go_ret
          exact ⟨rfl, (drew_more (drew_more HD _) _).out⟩
        · have q3 : decide (x < y) = false := by simpa using hlt
          obtain rfl : bv = false := by
            cases bv
            · rfl
            · have := HV.out.1 rfl
              rw [HC.out, HS.out, if_neg hlt, if_pos (by omega)] at this
              omega
          clear HC HS HV hxy
          go_wp2
          go_quiet (fail)
          go_wp2
          go_quiet (fail)
          go_wp2
          go_ret
          exact ⟨rfl, (drew_more (drew_more HD _) _).out⟩
    · have HE : Hid (bv = decide (a.length < b.length)) := Lib.hid (by
        rw [Bool.eq_iff_iff, HV.out, HC.out, cmpL_short (by
          by_cases hk : k = a.length
          · left; rw [hk]; simp
          · right; rw [show k = b.length by omega]; simp)]
        simp only [List.length_drop, decide_eq_true_eq]
        omega)
      have hcase : a.length ≤ k ∨ (k < a.length ∧ b.length ≤ k) := by omega
      obtain ⟨bl, hbl2⟩ : ∃ bl, decide (a.length < b.length) = bl := ⟨_, rfl⟩
      rw [hbl2] at HE
      have q3 : decide ((a.length : Int) < (b.length : Int)) = bl := by rw [← hbl2]; simp
      have HW := HE.out
      subst HW
      clear HV HC h hA hB
      rcases hcase with h1 | ⟨h1, h2⟩
      · have q1 : decide ((k : Int) < (a.length : Int)) = false := by simp; omega
        go_wp2
        go_ret
        exact ⟨rfl, HD.out⟩
      · have q1 : decide ((k : Int) < (a.length : Int)) = true := by simp; omega
        have q2 : decide ((k : Int) < (b.length : Int)) = false := by simp; omega
        go_wp2
        go_ret
        exact ⟨rfl, HD.out⟩
end Go.Proofs.Tg.Gx
end
section
/- Plain mathematics of chordal graphs: a graph with a perfect elimination order has the order of every maximum cardinality search as one. No program in sight. -/
namespace Go.Chordal

/-- A list of vertices, the first one eliminated first: the later neighbours of each vertex are pairwise adjacent. -/
def Peo (adj : Nat → Nat → Prop) : List Nat → Prop
  | [] => True
  | v :: post => (∀ a ∈ post, ∀ b ∈ post, adj v a → adj v b → a ≠ b → adj a b) ∧ Peo adj post

/-- A path p 0 .. p j without chords. -/
structure Path (adj : Nat → Nat → Prop) (p : Nat → Nat) (j : Nat) : Prop where
  inj : ∀ a b, a < b → b ≤ j → p a ≠ p b
  step : ∀ a, a < j → adj (p a) (p (a + 1))
  free : ∀ a b, a + 1 < b → b ≤ j → ¬ adj (p a) (p b)

theorem Path.rev {adj : Nat → Nat → Prop} (sym : ∀ a b, adj a b → adj b a) {p : Nat → Nat} {j : Nat} (h : Path adj p j) : Path adj (fun k => p (j - k)) j where
  inj a b hab hb := fun e => h.inj (j - b) (j - a) (by omega) (by omega) e.symm
  step a ha := by
    have := h.step (j - (a + 1)) (by omega)
    rw [show j - (a + 1) + 1 = j - a from by omega] at this
    exact sym _ _ this
  free a b hab hb := fun e => h.free (j - b) (j - a) (by omega) (by omega) (sym _ _ e)

theorem Path.take {adj : Nat → Nat → Prop} {p : Nat → Nat} {j i : Nat} (h : Path adj p j) (hi : i ≤ j) : Path adj p i where
  inj a b hab hb := h.inj a b hab (by omega)
  step a ha := h.step a (by omega)
  free a b hab hb := h.free a b hab (by omega)

/-- In a graph with a perfect elimination order a vertex that is adjacent to both ends of a path without chords is adjacent to one inside it. -/
theorem peo_inside {adj : Nat → Nat → Prop} (sym : ∀ a b, adj a b → adj b a) : ∀ (l : List Nat), Peo adj l → ∀ (p : Nat → Nat) (j z : Nat), 2 ≤ j → Path adj p j → (∀ k, k ≤ j → p k ∈ l) → z ∈ l → (∀ k, k ≤ j → z ≠ p k) →
    adj z (p 0) → adj z (p j) → ∃ k, 0 < k ∧ k < j ∧ adj z (p k)
  | [], _, p, j, z, _, _, hp, _, _, _, _ => by have := hp 0 (by omega); simp at this
  | v :: post, ⟨hv, hpost⟩, p, j, z, hj, hpath, hp, hz, hne, h0, hJ => by
    by_cases hvz : v = z
    · subst hvz
      have m0 : p 0 ∈ post := by
        rcases List.mem_cons.1 (hp 0 (by omega)) with e | e
        · exact absurd e.symm (hne 0 (by omega))
        · exact e
      have mJ : p j ∈ post := by
        rcases List.mem_cons.1 (hp j (by omega)) with e | e
        · exact absurd e.symm (hne j (by omega))
        · exact e
      exact absurd (hv _ m0 _ mJ h0 hJ (hpath.inj 0 j (by omega) (by omega))) (hpath.free 0 j (by omega) (by omega))
    · have mz : z ∈ post := by
        rcases List.mem_cons.1 hz with e | e
        · exact absurd e.symm hvz
        · exact e
      by_cases hin : ∃ i, i ≤ j ∧ p i = v
      · obtain ⟨i, hi, rfl⟩ := hin
        have mem : ∀ k, k ≤ j → k ≠ i → p k ∈ post := by
          intro k hk hki
          rcases List.mem_cons.1 (hp k hk) with e | e
          · rcases Nat.lt_or_gt_of_ne hki with h | h
            · exact absurd e (hpath.inj k i h hi)
            · exact absurd e.symm (hpath.inj i k h hk)
          · exact e
        by_cases hi0 : i = 0
        · subst hi0
          refine ⟨1, by omega, by omega, ?_⟩
          exact hv _ mz _ (mem 1 (by omega) (by omega)) (sym _ _ h0) (hpath.step 0 (by omega)) (hne 1 (by omega))
        · by_cases hij : i = j
          · subst hij
            refine ⟨i - 1, by omega, by omega, ?_⟩
            have hs := hpath.step (i - 1) (by omega)
            rw [show i - 1 + 1 = i from by omega] at hs
            exact hv _ mz _ (mem (i - 1) (by omega) (by omega)) (sym _ _ hJ) (sym _ _ hs) (hne (i - 1) (by omega))
          · have hs := hpath.step (i - 1) (by omega)
            rw [show i - 1 + 1 = i from by omega] at hs
            exact absurd (hv _ (mem (i - 1) (by omega) (by omega)) _ (mem (i + 1) (by omega) (by omega)) (sym _ _ hs) (hpath.step i (by omega)) (hpath.inj (i - 1) (i + 1) (by omega) (by omega)))
              (hpath.free (i - 1) (i + 1) (by omega) (by omega))
      · have mem : ∀ k, k ≤ j → p k ∈ post := by
          intro k hk
          rcases List.mem_cons.1 (hp k hk) with e | e
          · exact absurd ⟨k, hk, e⟩ hin
          · exact e
        exact peo_inside sym post hpost p j z hj hpath mem mz hne h0 hJ

/-- How many of o 0 .. o (y - 1) are adjacent to v. -/
def cnt (adj : Nat → Nat → Bool) (o : Nat → Nat) (y v : Nat) : Nat := ((List.range y).filter fun k => adj v (o k)).length

theorem filter_len_lt {α : Type} (l : List α) (p q : α → Bool) (hpq : ∀ x ∈ l, p x = true → q x = true) (x : α) (hx : x ∈ l) (h1 : q x = true) (h2 : p x = false) : (l.filter p).length < (l.filter q).length := by
  induction l with
  | nil => simp at hx
  | cons y l ih =>
    have hle : ∀ (l : List α), (∀ x ∈ l, p x = true → q x = true) → (l.filter p).length ≤ (l.filter q).length := by
      intro l
      induction l with
      | nil => simp
      | cons z l ih2 =>
        intro h
        have h3 := ih2 (fun x hx => h x (by simp [hx]))
        by_cases hpz : p z = true
        · have := h z (by simp) hpz
          simp [hpz, this]; omega
        · by_cases hqz : q z = true <;> simp [hpz, hqz] <;> omega
    rcases List.mem_cons.1 hx with e | e
    · subst e
      have := hle l (fun x hx => hpq x (by simp [hx]))
      simp [h1, h2]; omega
    · have h3 := ih (fun x hx => hpq x (by simp [hx])) e
      by_cases hpz : p y = true
      · have := hpq y (by simp) hpz
        simp [hpz, this]; omega
      · by_cases hqz : q y = true <;> simp [hpz, hqz] <;> omega

/-- If one has a neighbour among the first y that the other has not, and is not ahead in number, the other has one that it has not. -/
theorem cnt_other {adj : Nat → Nat → Bool} {o : Nat → Nat} {y u v x : Nat} (hle : cnt adj o y u ≤ cnt adj o y v) (hx : x < y) (hu : adj u (o x) = true) (hv : adj v (o x) = false) :
    ∃ z, z < y ∧ adj v (o z) = true ∧ adj u (o z) = false := by
  by_cases h : ∃ z, z < y ∧ adj v (o z) = true ∧ adj u (o z) = false
  · exact h
  · exfalso
    have : cnt adj o y v < cnt adj o y u := by
      unfold cnt
      refine filter_len_lt _ _ _ ?_ x (by simpa using hx) hu hv
      intro z hz hvz
      by_cases hc : adj u (o z) = true
      · exact hc
      · exact absurd ⟨z, by simpa using hz, hvz, by simpa using hc⟩ h
    omega

theorem least_true (P : Nat → Prop) [DecidablePred P] : ∀ (n : Nat), P n → ∃ i, i ≤ n ∧ P i ∧ ∀ k, k < i → ¬ P k
  | 0, h => ⟨0, by omega, h, by omega⟩
  | n + 1, h => by
    by_cases h2 : ∃ k, k ≤ n ∧ P k
    · obtain ⟨k, hk, pk⟩ := h2
      have : ∀ m, m ≤ n → P m → ∃ i, i ≤ m ∧ P i ∧ ∀ k, k < i → ¬ P k := fun m hm pm => by
        induction m using Nat.strongRecOn with
        | _ m ih =>
          by_cases h3 : ∃ q, q < m ∧ P q
          · obtain ⟨q, hq, pq⟩ := h3
            obtain ⟨i, hi, pi, hall⟩ := ih q hq (by omega) pq
            exact ⟨i, by omega, pi, hall⟩
          · exact ⟨m, by omega, pm, fun k hk pk => h3 ⟨k, hk, pk⟩⟩
      obtain ⟨i, hi, pi, hall⟩ := this k hk pk
      exact ⟨i, by omega, pi, hall⟩
    · exact ⟨n + 1, by omega, h, fun k hk pk => h2 ⟨k, by omega, pk⟩⟩

/-- o 0 .. o (n - 1) is an order in which each vertex has, among those that are left, the most neighbours ahead of it. -/
structure Mcs (adj : Nat → Nat → Bool) (o : Nat → Nat) (n : Nat) : Prop where
  inj : ∀ a b, a < b → b < n → o a ≠ o b
  most : ∀ y u, y ≤ u → u < n → cnt adj o y (o u) ≤ cnt adj o y (o y)

theorem mcs_no_path {adj : Nat → Nat → Bool} (sym : ∀ a b, adj a b = true → adj b a = true) {o : Nat → Nat} {n : Nat} (hm : Mcs adj o n) {l : List Nat} (hl : Peo (fun a b => adj a b = true) l)
    (hmem : ∀ k, k < n → o k ∈ l) : ∀ (m : Nat) (q : Nat → Nat) (j : Nat), 2 ≤ j → q 0 ≤ m → q j ≤ m → m < n → (∀ k, k ≤ j → q k < n) → (∀ k, 0 < k → k < j → q 0 < q k ∧ q j < q k) →
    Path (fun a b => adj a b = true) (fun k => o (q k)) j → False := by
  intro m
  induction m using Nat.strongRecOn with
  | _ m ih =>
    -- the path with its greater end last
    have main : ∀ (q : Nat → Nat) (j : Nat), 2 ≤ j → q 0 < q j → q j ≤ m → m < n → (∀ k, k ≤ j → q k < n) → (∀ k, 0 < k → k < j → q 0 < q k ∧ q j < q k) →
        Path (fun a b => adj a b = true) (fun k => o (q k)) j → False := by
      intro q j hj h0j hjm hmn hq hin hpath
      have hx : adj (o (q 1)) (o (q 0)) = true := sym _ _ (hpath.step 0 (by omega))
      have hy : adj (o (q j)) (o (q 0)) = false := by
        have := hpath.free 0 j (by omega) (by omega)
        cases h : adj (o (q j)) (o (q 0))
        · rfl
        · exact absurd (sym _ _ h) this
      have h1 := (hin 1 (by omega) (by omega)).2
      obtain ⟨z, hz, hzy, hz1⟩ := cnt_other (hm.most (q j) (q 1) (by omega) (hq 1 (by omega))) h0j hx hy
      -- the first vertex of the path behind p 0 to which o z is adjacent
      obtain ⟨i', hi', pi', hall⟩ := least_true (fun k => adj (o z) (o (q (k + 1))) = true) (j - 1) (by rw [show j - 1 + 1 = j from by omega]; exact sym _ _ hzy)
      obtain ⟨i, rfl⟩ : ∃ i, i = i' + 1 := ⟨_, rfl⟩
      have hi1 : i' ≠ 0 := by
        rintro rfl
        rw [sym _ _ pi'] at hz1
        cases hz1
      have hzne : ∀ k, k ≤ i' + 1 → o z ≠ o (q k) := by
        intro k hk e
        have hzk : z ≠ q k := by
          by_cases hk0 : k = 0
          · subst hk0
            intro e2
            rw [← e2, hzy] at hy
            cases hy
          · by_cases hkj : k = j
            · rw [hkj]; omega
            · have := hin k (by omega) (by omega); omega
        rcases Nat.lt_or_gt_of_ne hzk with h | h
        · exact hm.inj _ _ h (hq k (by omega)) e
        · exact hm.inj _ _ h (by omega) e.symm
      by_cases hzx : adj (o z) (o (q 0)) = true
      · obtain ⟨k, hk0, hk, hzk⟩ := peo_inside sym l hl (fun k => o (q k)) (i' + 1) (o z) (by omega) (hpath.take (by omega)) (fun k hk => hmem _ (hq k (by omega))) (hmem _ (by omega)) hzne hzx pi'
        have := hall (k - 1) (by omega)
        rw [show k - 1 + 1 = k from by omega] at this
        exact this hzk
      · -- a path from q 0 to z whose ends come earlier
        have hz0 : z ≠ q 0 := fun e => hzne 0 (by omega) (by rw [e])
        refine ih (max (q 0) z) (by omega) (fun k => if k ≤ i' + 1 then q k else z) (i' + 2) (by omega) (by simp; omega) (by simp; omega) (by omega) ?_ ?_ ?_
        · intro k hk
          by_cases h : k ≤ i' + 1
          · simp only [h, if_true]; exact hq k (by omega)
          · simp only [h, if_false]; omega
        · intro k hk0 hk
          simp only [show k ≤ i' + 1 from by omega, if_true, Nat.zero_le, show ¬ (i' + 2 ≤ i' + 1) from by omega, if_false]
          by_cases hkj : k = j
          · subst hkj; exact ⟨h0j, hz⟩
          · have := hin k hk0 (by omega); omega
        · constructor
          · intro a b hab hb
            by_cases h : b ≤ i' + 1
            · simp only [h, show a ≤ i' + 1 from by omega, if_true]
              exact hpath.inj a b hab (by omega)
            · simp only [h, show a ≤ i' + 1 from by omega, if_true, if_false]
              exact fun e => hzne a (by omega) e.symm
          · intro a ha
            by_cases h : a + 1 ≤ i' + 1
            · simp only [h, show a ≤ i' + 1 from by omega, if_true]
              exact hpath.step a (by omega)
            · simp only [h, show a ≤ i' + 1 from by omega, if_true, if_false]
              rw [show a = i' + 1 from by omega]
              exact sym _ _ pi'
          · intro a b hab hb
            by_cases h : b ≤ i' + 1
            · simp only [h, show a ≤ i' + 1 from by omega, if_true]
              exact hpath.free a b hab (by omega)
            · simp only [h, show a ≤ i' + 1 from by omega, if_true, if_false]
              intro e
              by_cases ha0 : a = 0
              · subst ha0; exact hzx (sym _ _ e)
              · have := hall (a - 1) (by omega)
                rw [show a - 1 + 1 = a from by omega] at this
                exact this (sym _ _ e)
    intro q j hj h0m hjm hmn hq hin hpath
    have hne : q 0 ≠ q j := fun e => hpath.inj 0 j (by omega) (by omega) (by simp [e])
    rcases Nat.lt_or_gt_of_ne hne with h | h
    · exact main q j hj h hjm hmn hq hin hpath
    · refine main (fun k => q (j - k)) j hj (by simpa using h) (by simpa using h0m) hmn (fun k hk => hq _ (by omega)) ?_ (hpath.rev sym)
      intro k hk0 hk
      have := hin (j - k) (by omega) (by omega)
      simp only [Nat.sub_zero, Nat.sub_self]
      exact ⟨this.2, this.1⟩

/-- The neighbours that come ahead of a vertex in such an order are pairwise adjacent, if the graph has a perfect elimination order. -/
theorem mcs_clique {adj : Nat → Nat → Bool} (sym : ∀ a b, adj a b = true → adj b a = true) {o : Nat → Nat} {n : Nat} (hm : Mcs adj o n) {l : List Nat} (hl : Peo (fun a b => adj a b = true) l)
    (hmem : ∀ k, k < n → o k ∈ l) {k a b : Nat} (hk : k < n) (ha : a < k) (hb : b < k) (hab : a ≠ b) (h1 : adj (o k) (o a) = true) (h2 : adj (o k) (o b) = true) : adj (o a) (o b) = true := by
  by_cases h : adj (o a) (o b) = true
  · exact h
  · exfalso
    refine mcs_no_path sym hm hl hmem (max a b) (fun i => if i = 0 then a else if i = 1 then k else b) 2 (by omega) (by simp; omega) (by simp; omega) (by omega) ?_ ?_ ?_
    · intro i hi
      show (if i = 0 then a else if i = 1 then k else b) < n
      split
      · omega
      · split <;> omega
    · intro i h0 h2
      obtain rfl : i = 1 := by omega
      simp; omega
    · constructor
      · intro i j hij hj
        have : (i = 0 ∧ j = 1) ∨ (i = 0 ∧ j = 2) ∨ (i = 1 ∧ j = 2) := by omega
        rcases this with ⟨rfl, rfl⟩ | ⟨rfl, rfl⟩ | ⟨rfl, rfl⟩
        · simpa using hm.inj a k ha hk
        · simp only [if_true]
          rcases Nat.lt_or_gt_of_ne hab with h | h
          · simpa using hm.inj a b h (by omega)
          · simpa using fun e => hm.inj b a h (by omega) (Eq.symm e)
        · simpa using fun e => hm.inj b k hb hk (Eq.symm e)
      · intro i hi
        have : i = 0 ∨ i = 1 := by omega
        rcases this with rfl | rfl
        · simpa using sym _ _ h1
        · simpa using h2
      · intro i j hij hj
        obtain ⟨rfl, rfl⟩ : i = 0 ∧ j = 2 := by omega
        simpa using h

end Go.Chordal
end
section
/- Plain law of Extend: what it adds; its order of elimination is perfect. -/
namespace Go.Gr
open Go.Chordal
def bt (A : Nat → Nat) (i j : Nat) : Bool := (A i).testBit j
theorem bt_lt {A : Nat → Nat} (hS : Small A) {i j : Nat} (h : bt A i j = true) : j < 64 := by
  by_cases hj : j < 64
  · exact hj
  · have := high_bit (hS i) (show 64 ≤ j by omega)
    unfold bt at h
    rw [this] at h
    cases h
theorem fill_bit (ar : Nat) : ∀ (l : List Nat) (A : Nat → Nat), (∀ v ∈ l, v < 64) → l.Nodup → ∀ v j, (fill ar l A v).testBit j = ((A v).testBit j || (decide (v ∈ l) && (bclr ar v).testBit j))
  | [], A, _, _, v, j => by simp [fill]
  | x :: l, A, hl, hn, v, j => by
    rw [List.nodup_cons] at hn
    have e : fill ar (x :: l) A = fill ar l (fillStep ar A x) := by simp [fill]
    rw [e, fill_bit ar l _ (fun u hu => hl u (by simp [hu])) hn.2]
    by_cases h : v = x
    · subst h
      unfold fillStep
      rw [upd_same, Nat.testBit_or]
      simp [hn.1]
    · unfold fillStep
      rw [upd_other _ _ h]
      simp [h]
theorem verts_nodup (s : Nat) : (verts s).Nodup := by
  unfold verts
  exact List.Pairwise.filter _ List.nodup_range
theorem verts_empty {s : Nat} (hs : s < 18446744073709551616) (h : verts s = []) : s = 0 := by
  apply Nat.eq_of_testBit_eq
  intro i
  rw [Nat.zero_testBit]
  by_cases hi : i < 64
  · cases hb : s.testBit i with
    | false => rfl
    | true =>
      have : i ∈ verts s := mem_verts.2 ⟨hi, hb⟩
      rw [h] at this
      simp at this
  · exact high_bit hs (by omega)
theorem elim_at {A : Nat → Nat} {rest : Nat} (hI : Irr A) (hr : rest < 18446744073709551616) (h0 : rest ≠ 0) :
    ∃ b, b < 64 ∧ rest.testBit b = true ∧ elim A rest = (fill (A b &&& rest) (verts (A b &&& rest)) A, bclr rest b) ∧ (∀ u, u < 64 → rest.testBit u = true → size (A b &&& rest) ≤ size (A u &&& rest)) ∧
      (∀ u, u < b → rest.testBit u = true → size (A b &&& rest) < size (A u &&& rest)) := by
  rcases minOf_spec A rest hI (verts rest).reverse (verts rest) (fun v hv => (mem_verts.1 hv).1) rfl with h | ⟨b, l, m, hlm, hm, h1, h2⟩
  · exact absurd (verts_empty hr h) h0
  · have hb : b ∈ verts rest := by rw [hlm]; simp
    have hasc : (verts rest).Pairwise (· < ·) := by unfold verts; exact List.Pairwise.filter _ List.pairwise_lt_range
    refine ⟨b, (mem_verts.1 hb).1, (mem_verts.1 hb).2, by unfold elim; rw [hm]; rfl, fun u hu hub => ?_, fun u hu hub => ?_⟩
    · have hmem : u ∈ verts rest := mem_verts.2 ⟨hu, hub⟩
      rw [hlm] at hmem
      rcases List.mem_append.1 hmem with h | h
      · have := h1 u h; omega
      · rcases List.mem_cons.1 h with rfl | h
        · exact Nat.le_refl _
        · exact h2 u h
    · have hmem : u ∈ verts rest := mem_verts.2 ⟨by have := (mem_verts.1 hb).1; omega, hub⟩
      rw [hlm] at hmem hasc
      rw [List.pairwise_append, List.pairwise_cons] at hasc
      rcases List.mem_append.1 hmem with h | h
      · exact h1 u h
      · rcases List.mem_cons.1 h with rfl | h
        · omega
        · have := hasc.2.1.1 u h; omega
def SymA (A : Nat → Nat) : Prop := ∀ i j, i < 64 → j < 64 → (A i).testBit j = (A j).testBit i
structure Ext (A B : Nat → Nat) (rest : Nat) : Prop where
  mono : ∀ v j, (A v).testBit j = true → (B v).testBit j = true
  new : ∀ v j, (B v).testBit j = true → (A v).testBit j = true ∨ (v < 64 ∧ j < 64 ∧ rest.testBit v = true ∧ rest.testBit j = true ∧ v ≠ j)
  sym : SymA A → SymA B
  small : Small B
  peo : ∃ l, (∀ v, v ∈ l ↔ v < 64 ∧ rest.testBit v = true) ∧ l.Nodup ∧ Peo (fun a b => (B a).testBit b = true) l
theorem extFrom_spec : ∀ (f : Nat) (A : Nat → Nat) (rest : Nat), size rest < f → Irr A → Small A → rest < 18446744073709551616 → Ext A (extFrom f A rest) rest
  | 0, _, _, h, _, _, _ => by omega
  | f + 1, A, rest, h, hI, hS, hr => by
    unfold extFrom
    by_cases h0 : rest = 0
    · rw [if_pos h0]
      refine ⟨fun _ _ h => h, fun _ _ h => .inl h, fun h => h, hS, [], ?_, by simp, trivial⟩
      intro v; subst h0; simp
    · rw [if_neg h0]
      obtain ⟨b, hb64, hbr, he, _, _⟩ := elim_at hI hr h0
      rw [he]
      have har : (A b &&& rest) < 18446744073709551616 := and_lt rest (hS b)
      have hlt : ∀ v ∈ verts (A b &&& rest), v < 64 := fun v hv => (mem_verts.1 hv).1
      have hbit := fill_bit (A b &&& rest) (verts (A b &&& rest)) A hlt (verts_nodup _)
      have hI1 : Irr (fill (A b &&& rest) (verts (A b &&& rest)) A) := fill_irr _ hlt hI
      have hS1 : Small (fill (A b &&& rest) (verts (A b &&& rest)) A) := fill_small har _ hS
      have hr1 : bclr rest b < 18446744073709551616 := bclr_lt b hr
      have ih := extFrom_spec f _ (bclr rest b) (by have := (bclr_less hb64 hbr).2; omega) hI1 hS1 hr1
      have hsub : ∀ j, j < 64 → ((bclr rest b).testBit j = true ↔ rest.testBit j = true ∧ b ≠ j) := by
        intro j hj; rw [bclr_bit _ _ _ hb64 hj]; simp
      have hab : ∀ v j, v < 64 → j < 64 → ((bclr (A b &&& rest) v).testBit j = true ↔ (A b &&& rest).testBit j = true ∧ v ≠ j) := by
        intro v j hv hj; rw [bclr_bit _ _ _ hv hj]; simp
      generalize hA1 : fill (A b &&& rest) (verts (A b &&& rest)) A = A1 at *
      have hnew1 : ∀ v j, (A1 v).testBit j = true → (A v).testBit j = true ∨ (v < 64 ∧ j < 64 ∧ (A b &&& rest).testBit v = true ∧ (A b &&& rest).testBit j = true ∧ v ≠ j) := by
        intro v j hj
        have hj64 : j < 64 := bt_lt hS1 hj
        rw [hbit] at hj
        simp only [Bool.or_eq_true, Bool.and_eq_true, decide_eq_true_eq] at hj
        rcases hj with hj | ⟨hv, hj⟩
        · exact .inl hj
        · have hv2 := mem_verts.1 hv
          rw [hab v j hv2.1 hj64] at hj
          exact .inr ⟨hv2.1, hj64, hv2.2, hj.1, hj.2⟩
      have hmono1 : ∀ v j, (A v).testBit j = true → (A1 v).testBit j = true := by
        intro v j hj; rw [hbit, hj]; rfl
      have hadd1 : ∀ v j, v < 64 → j < 64 → (A b &&& rest).testBit v = true → (A b &&& rest).testBit j = true → v ≠ j → (A1 v).testBit j = true := by
        intro v j hv hj h1 h2 h3
        rw [hbit]
        have : (bclr (A b &&& rest) v).testBit j = true := (hab v j hv hj).2 ⟨h2, h3⟩
        rw [this]
        simp [mem_verts, hv, h1]
      have hsym1 : SymA A → SymA A1 := by
        intro hs i j hi hj
        rw [Bool.eq_iff_iff]
        have half : ∀ i j, i < 64 → j < 64 → (A1 i).testBit j = true → (A1 j).testBit i = true := by
          intro i j hi hj h
          rcases hnew1 i j h with h | ⟨_, _, h1, h2, h3⟩
          · exact hmono1 j i (by rw [← hs i j hi hj]; exact h)
          · exact hadd1 j i hj hi h2 h1 (fun e => h3 e.symm)
        exact ⟨half i j hi hj, half j i hj hi⟩
      refine ⟨fun v j hj => ih.mono v j (hmono1 v j hj), fun v j hj => ?_, fun hs => ih.sym (hsym1 hs), ih.small, ?_⟩
      · rcases ih.new v j hj with hj | ⟨h1, h2, h3, h4, h5⟩
        · rcases hnew1 v j hj with hj | ⟨h1, h2, h3, h4, h5⟩
          · exact .inl hj
          · rw [Nat.testBit_and] at h3 h4
            simp only [Bool.and_eq_true] at h3 h4
            exact .inr ⟨h1, h2, h3.2, h4.2, h5⟩
        · exact .inr ⟨h1, h2, ((hsub v h1).1 h3).1, ((hsub j h2).1 h4).1, h5⟩
      · obtain ⟨l, hl1, hl2, hl3⟩ := ih.peo
        have hbl : b ∉ l := fun hm => ((hsub b hb64).1 ((hl1 b).1 hm).2).2 rfl
        refine ⟨b :: l, fun v => ?_, List.nodup_cons.2 ⟨hbl, hl2⟩, ?_, hl3⟩
        · rw [List.mem_cons, hl1]
          constructor
          · rintro (rfl | ⟨h1, h2⟩)
            · exact ⟨hb64, hbr⟩
            · exact ⟨h1, ((hsub v h1).1 h2).1⟩
          · rintro ⟨h1, h2⟩
            by_cases e : v = b
            · exact .inl e
            · exact .inr ⟨h1, (hsub v h1).2 ⟨h2, fun e2 => e e2.symm⟩⟩
        · have key : ∀ a ∈ l, (extFrom f A1 (bclr rest b) b).testBit a = true → a < 64 ∧ (A b &&& rest).testBit a = true := by
            intro a ha h1
            have ha2 := (hl1 a).1 ha
            refine ⟨ha2.1, ?_⟩
            have hra := ((hsub a ha2.1).1 ha2.2).1
            have hA : (A b).testBit a = true := by
              rcases ih.new b a h1 with h | ⟨_, _, h, _, _⟩
              · rcases hnew1 b a h with h | ⟨_, _, h, _, _⟩
                · exact h
                · rw [Nat.testBit_and, hI b hb64] at h; cases h
              · exact absurd rfl ((hsub b hb64).1 h).2
            rw [Nat.testBit_and, hA, hra]; rfl
          intro a ha c hc h1 h2 hne
          have k1 := key a ha h1
          have k2 := key c hc h2
          exact ih.mono a c (hadd1 a c k1.1 k2.1 k1.2 k2.2 hne)
end Go.Gr
end
section
/- Plain law of isChordal: exactly the graphs with a perfect elimination order. -/
namespace Go.Gr
open Go.Chordal
theorem searchTo_take {A : Nat → Nat} {n : Nat} (hn : n ≤ 64) : ∀ d r, r + d = n → (searchTo A n r).2 = (search A n).take r := by
  intro d
  induction d with
  | zero =>
    intro r hr
    have hr : r = n := by omega
    subst hr
    have := (visits (A := A) hn r (Nat.le_refl _)).len
    unfold search
    rw [List.take_of_length_le (by omega)]
  | succ d ih =>
    intro r hr
    have h1 := ih (r + 1) (by omega)
    have h2 : (searchTo A n (r + 1)).2 = (searchTo A n r).2 ++ [(best A (searchTo A n r).1 n).1.toNat] := rfl
    have hl := (visits (A := A) hn r (by omega)).len
    rw [h2] at h1
    have h3 := congrArg (List.take r) h1
    rw [List.take_append_of_le_length (by omega), List.take_of_length_le (by omega), List.take_take, Nat.min_eq_left (by omega)] at h3
    exact h3
def ord (A : Nat → Nat) (n k : Nat) : Nat := (search A n).getD k 0
theorem searchTo_ord {A : Nat → Nat} {n r : Nat} (hn : n ≤ 64) (hr : r ≤ n) : (searchTo A n r).2 = (List.range r).map (ord A n) := by
  have hl : (search A n).length = n := (visits (A := A) hn n (Nat.le_refl _)).len
  rw [searchTo_take hn (n - r) r (by omega)]
  apply List.ext_getElem
  · simp; omega
  · intro i h1 h2
    have hi : i < r := by simpa using h2
    simp [ord, List.getElem?_eq_getElem (show i < (search A n).length by omega)]
theorem search_ord {A : Nat → Nat} {n : Nat} (hn : n ≤ 64) : search A n = (List.range n).map (ord A n) := searchTo_ord hn (Nat.le_refl _)
theorem vis_bit {A : Nat → Nat} {n r : Nat} (hn : n ≤ 64) (hr : r ≤ n) (i : Nat) : (searchTo A n r).1.testBit i = true ↔ ∃ k, k < r ∧ ord A n k = i := by
  rw [(visits hn r hr).bits, searchTo_ord hn hr]
  simp
theorem ord_lt {A : Nat → Nat} {n k : Nat} (hn : n ≤ 64) (hk : k < n) : ord A n k < n := by
  refine (visits (A := A) hn n (Nat.le_refl _)).lt _ ?_
  rw [searchTo_ord hn (Nat.le_refl _)]
  exact List.mem_map.2 ⟨k, by simpa using hk, rfl⟩
theorem ord_inj {A : Nat → Nat} {n a b : Nat} (hn : n ≤ 64) (hab : a < b) (hb : b < n) : ord A n a ≠ ord A n b := by
  have hnd := (visits (A := A) hn n (Nat.le_refl _)).nodup
  rw [searchTo_ord hn (Nat.le_refl _)] at hnd
  have := List.pairwise_iff_getElem.1 hnd a b (by simp; omega) (by simpa using hb) hab
  simpa using this
theorem ord_onto {A : Nat → Nat} {n v : Nat} (hn : n ≤ 64) (hv : v < n) : ∃ k, k < n ∧ ord A n k = v := by
  by_cases h : v ∈ (searchTo A n n).2
  · rw [searchTo_ord hn (Nat.le_refl _)] at h
    obtain ⟨k, hk, e⟩ := List.mem_map.1 h
    exact ⟨k, by simpa using hk, e⟩
  · exfalso
    have hV := visits (A := A) hn n (Nat.le_refl _)
    have hlen : n + 1 ≤ (v :: (searchTo A n n).2).length := by simp [hV.len]
    have hnd : (v :: (searchTo A n n).2).Nodup := List.nodup_cons.2 ⟨h, hV.nodup⟩
    have hsub : ∀ x ∈ v :: (searchTo A n n).2, x < n := by
      intro x hx
      rcases List.mem_cons.1 hx with rfl | hx
      · exact hv
      · exact hV.lt x hx
    have : ∀ (m : Nat) (l : List Nat), l.Nodup → (∀ x ∈ l, x < m) → l.length ≤ m := by
      intro m
      induction m with
      | zero => intro l _ h; cases l with
        | nil => simp
        | cons x l => have := h x (by simp); omega
      | succ m ih =>
        intro l hl h
        have h1 := ih (l.erase m) (hl.erase m) (fun x hx => by
          have h2 := h x (List.mem_of_mem_erase hx)
          have h3 : x ≠ m := fun e => by subst e; exact (List.Nodup.not_mem_erase hl) hx
          omega)
        have := List.length_erase_le (a := m) (l := l)
        have h4 : l.length ≤ (l.erase m).length + 1 := by
          by_cases hm : m ∈ l
          · rw [List.length_erase_of_mem hm]; omega
          · rw [List.erase_of_not_mem hm]; omega
        omega
    have := this n _ hnd hsub
    omega
theorem cnt_size {A : Nat → Nat} (hS : Small A) {n r v : Nat} (hn : n ≤ 64) (hr : r ≤ n) : cnt (bt A) (ord A n) r v = size (A v &&& (searchTo A n r).1) := by
  unfold cnt size
  have h1 : (((List.range r).filter fun k => bt A v (ord A n k)).map (ord A n)).Perm (verts (A v &&& (searchTo A n r).1)) := by
    rw [List.perm_ext_iff_of_nodup]
    · intro x
      rw [mem_verts, Nat.testBit_and, List.mem_map]
      simp only [List.mem_filter, List.mem_range, Bool.and_eq_true]
      constructor
      · rintro ⟨k, ⟨hk, hb⟩, rfl⟩
        exact ⟨bt_lt hS hb, hb, (vis_bit hn hr _).2 ⟨k, hk, rfl⟩⟩
      · rintro ⟨_, hb, hv⟩
        obtain ⟨k, hk, rfl⟩ := (vis_bit hn hr _).1 hv
        exact ⟨k, ⟨hk, hb⟩, rfl⟩
    · rw [List.nodup_iff_pairwise_ne, List.pairwise_map]
      refine List.Pairwise.filter _ ?_
      rw [List.pairwise_iff_getElem]
      intro i j hi hj hij
      simp only [List.length_range] at hi hj
      simp only [List.getElem_range]
      exact ord_inj hn hij (by omega)
    · exact verts_nodup _
  have := h1.length_eq
  rwa [List.length_map] at this
theorem mcs {A : Nat → Nat} (hS : Small A) {n : Nat} (hn : n ≤ 64) : Mcs (bt A) (ord A n) n where
  inj a b hab hb := ord_inj hn hab hb
  most y u hyu hu := by
    rw [cnt_size hS hn (by omega), cnt_size hS hn (by omega)]
    obtain ⟨v, hv, hf, he, hm, _⟩ := best_of (visits (A := A) hn y (by omega)) (by omega)
    have e1 : ord A n y = v := by
      have h1 := searchTo_ord (A := A) (r := y + 1) hn (by omega)
      have h2 : (searchTo A n (y + 1)).2 = (searchTo A n y).2 ++ [(best A (searchTo A n y).1 n).1.toNat] := rfl
      rw [h2, he, searchTo_ord hn (by omega), List.range_succ, List.map_append] at h1
      have := List.append_cancel_left h1
      simpa using this.symm
    rw [e1]
    refine hm _ (ord_lt hn hu) ?_
    cases hb : (searchTo A n y).1.testBit (ord A n u) with
    | false => rfl
    | true =>
      obtain ⟨k, hk, e⟩ := (vis_bit hn (by omega) _).1 hb
      exact absurd e (ord_inj hn (by omega) hu)
theorem isClique_iff {A : Nat → Nat} (hS : Small A) {s : Nat} (hs : s < 18446744073709551616) : isClique A s = true ↔ ∀ u v, s.testBit u = true → s.testBit v = true → u ≠ v → bt A v u = true := by
  unfold isClique
  rw [List.all_eq_true]
  have key : ∀ v, v < 64 → s.testBit v = true → (andn (bclr s v) (A v) = 0 ↔ ∀ u, s.testBit u = true → u ≠ v → bt A v u = true) := by
    intro v hv hsv
    constructor
    · intro h u hu hne
      have hu64 : u < 64 := by
        by_cases h64 : u < 64
        · exact h64
        · rw [high_bit hs (by omega)] at hu; cases hu
      have := congrArg (fun x => x.testBit u) h
      simp only [andn_bit _ _ _ (hS v) hu64, bclr_bit _ _ _ hv hu64, hu, Nat.zero_testBit] at this
      have hne2 : ¬ v = u := fun e => hne e.symm
      simp [hne2] at this
      exact this
    · intro h
      apply Nat.eq_of_testBit_eq
      intro u
      rw [Nat.zero_testBit]
      have hlt : andn (bclr s v) (A v) < 18446744073709551616 := by
        unfold andn
        exact and_lt _ (bclr_lt v hs)
      by_cases hu64 : u < 64
      · rw [andn_bit _ _ _ (hS v) hu64, bclr_bit _ _ _ hv hu64]
        cases hu : s.testBit u
        · simp
        · by_cases e : v = u
          · simp [e]
          · have := h u hu (fun e2 => e e2.symm)
            unfold bt at this
            simp [this]
      · exact high_bit hlt (by omega)
  constructor
  · intro h u v hu hv hne
    have hv64 : v < 64 := by
      by_cases h64 : v < 64
      · exact h64
      · rw [high_bit hs (by omega)] at hv; cases hv
    have := h v (mem_verts.2 ⟨hv64, hv⟩)
    rw [decide_eq_true_eq] at this
    exact (key v hv64 hv).1 this u hu hne
  · intro h v hv
    obtain ⟨h1, h2⟩ := mem_verts.1 hv
    rw [decide_eq_true_eq]
    exact (key v h1 h2).2 (fun u hu hne => h u v hu h2 hne)
theorem earlierFrom_at (A : Nat → Nat) : ∀ (l : List Nat) (vis k : Nat) (hk : k < l.length), (earlierFrom A vis l)[k]? = some (A l[k] &&& (l.take k).foldl bset vis)
  | v :: l, vis, 0, _ => by simp [earlierFrom]
  | v :: l, vis, k + 1, hk => by
    have := earlierFrom_at A l (bset vis v) k (by simpa using hk)
    simp only [earlierFrom, List.getElem?_cons_succ, List.getElem_cons_succ, List.take_succ_cons, List.foldl_cons]
    exact this
theorem vis_fold {A : Nat → Nat} {n : Nat} : ∀ r, (searchTo A n r).1 = (searchTo A n r).2.foldl bset 0
  | 0 => rfl
  | r + 1 => by
    show bset (searchTo A n r).1 _ = ((searchTo A n r).2 ++ [_]).foldl bset 0
    rw [List.foldl_append, ← vis_fold r]; rfl
theorem earlier_len (A : Nat → Nat) : ∀ (l : List Nat) (vis : Nat), (earlierFrom A vis l).length = l.length
  | [], _ => rfl
  | _ :: l, vis => by simp [earlierFrom, earlier_len A l]
theorem earlier_at {A : Nat → Nat} {n k : Nat} (hn : n ≤ 64) (hk : k < n) : (earlier A (search A n))[k]? = some (A (ord A n k) &&& (searchTo A n k).1) := by
  have hl : (search A n).length = n := (visits (A := A) hn n (Nat.le_refl _)).len
  have := earlierFrom_at A (search A n) 0 k (by omega)
  unfold earlier
  rw [this, vis_fold, searchTo_take hn (n - k) k (by omega)]
  congr 3
  simp [ord, List.getElem?_eq_getElem (show k < (search A n).length by omega)]
/-- isChordal: the neighbours ahead of each vertex of the search are pairwise adjacent. -/
theorem chordal_iff {A : Nat → Nat} (hS : Small A) {n : Nat} (hn : n ≤ 64) : isChordal A n = true ↔
    ∀ k a b, k < n → a < k → b < k → a ≠ b → bt A (ord A n k) (ord A n a) = true → bt A (ord A n k) (ord A n b) = true → bt A (ord A n a) (ord A n b) = true := by
  unfold isChordal
  rw [List.all_eq_true]
  have hl : (search A n).length = n := (visits (A := A) hn n (Nat.le_refl _)).len
  have hlt : ∀ k, (A (ord A n k) &&& (searchTo A n k).1) < 18446744073709551616 := fun k => and_lt _ (hS _)
  constructor
  · intro h k a b hk ha hb hab h1 h2
    have hm := h _ (List.mem_of_getElem? (earlier_at hn hk))
    rw [isClique_iff hS (hlt k)] at hm
    refine hm (ord A n b) (ord A n a) ?_ ?_ ?_
    · rw [Nat.testBit_and]
      simp only [Bool.and_eq_true]
      exact ⟨h2, (vis_bit hn (by omega) _).2 ⟨b, hb, rfl⟩⟩
    · rw [Nat.testBit_and]
      simp only [Bool.and_eq_true]
      exact ⟨h1, (vis_bit hn (by omega) _).2 ⟨a, ha, rfl⟩⟩
    · rcases Nat.lt_or_gt_of_ne hab with h | h
      · exact fun e => ord_inj hn h (by omega) e.symm
      · exact ord_inj hn h (by omega)
  · intro h s hs
    obtain ⟨k, hk⟩ := List.getElem?_of_mem hs
    have hkn : k < n := by
      have := (List.getElem?_eq_some_iff.1 hk).1
      unfold earlier at this
      rw [earlier_len] at this
      omega
    rw [earlier_at hn hkn] at hk
    injection hk with hk
    subst hk
    rw [isClique_iff hS (hlt k)]
    intro u v hu hv hne
    rw [Nat.testBit_and] at hu hv
    simp only [Bool.and_eq_true] at hu hv
    obtain ⟨b, hb, rfl⟩ := (vis_bit hn (by omega) _).1 hu.2
    obtain ⟨a, ha, rfl⟩ := (vis_bit hn (by omega) _).1 hv.2
    exact h k a b hkn ha hb (fun e => hne (by rw [e])) hv.1 hu.1
theorem isChordal_of_peo {A : Nat → Nat} (hS : Small A) {n : Nat} (hn : n ≤ 64) (hsym : ∀ a b, bt A a b = true → bt A b a = true) {l : List Nat} (hl : Peo (fun a b => bt A a b = true) l) (hm : ∀ v, v < n → v ∈ l) : isChordal A n = true := by
  rw [chordal_iff hS hn]
  intro k a b hk ha hb hab h1 h2
  exact mcs_clique hsym (mcs hS hn) hl (fun k hk => hm _ (ord_lt hn hk)) hk ha hb hab h1 h2
theorem peo_of_isChordal {A : Nat → Nat} (hS : Small A) {n : Nat} (hn : n ≤ 64) (h : isChordal A n = true) : Peo (fun a b => bt A a b = true) (search A n).reverse := by
  rw [chordal_iff hS hn] at h
  have : ∀ r, r ≤ n → Peo (fun a b => bt A a b = true) ((List.range r).map (ord A n)).reverse := by
    intro r
    induction r with
    | zero => intro _; exact trivial
    | succ r ih =>
      intro hr
      have e : ((List.range (r + 1)).map (ord A n)).reverse = ord A n r :: ((List.range r).map (ord A n)).reverse := by
        rw [List.range_succ, List.map_append, List.reverse_append]; rfl
      rw [e]
      refine ⟨fun a ha b hb h1 h2 hne => ?_, ih (by omega)⟩
      simp only [List.mem_reverse, List.mem_map, List.mem_range] at ha hb
      obtain ⟨i, hi, rfl⟩ := ha
      obtain ⟨j, hj, rfl⟩ := hb
      exact h r i j (by omega) hi hj (fun e => hne (by rw [e])) h1 h2
  rw [search_ord hn]
  exact this n (Nat.le_refl _)
end Go.Gr
end
