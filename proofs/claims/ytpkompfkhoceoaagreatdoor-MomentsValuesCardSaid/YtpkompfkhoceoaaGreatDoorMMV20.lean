/- Parts of the proof: OD0, ST3, ST7, ST8, RK1. -/
import Derived.Test.YtpkompfkhoceoaaGreatDoorMMV2
import Derived.Test.YtpkompfkhoceoaaGreatDoorMMV5
import Derived.Test.YtpkompfkhoceoaaGreatDoorMMV15
import Derived.Test.YtpkompfkhoceoaaGreatDoorMMV19
section
/- Plain: the order of monomials is total and transitive. -/
namespace Go.Rs
open Go.Mo
theorem ordT_succ (a b : List Int) (k : Nat) : ordT a b (k + 1) = if a.getD k 0 = b.getD k 0 then ordT a b k else if b.getD k 0 < a.getD k 0 then -1 else 1 := rfl
theorem ordT_anti (a b : List Int) : ∀ k, ordT b a k = -ordT a b k
  | 0 => rfl
  | k + 1 => by
    rw [ordT_succ, ordT_succ, ordT_anti a b k]
    generalize a.getD k 0 = x
    generalize b.getD k 0 = y
    rcases Int.lt_trichotomy x y with h | h | h
    · rw [if_neg (by omega), if_pos h, if_neg (by omega), if_neg (by omega)]
    · rw [if_pos h.symm, if_pos h]
    · rw [if_neg (by omega), if_neg (by omega), if_neg (by omega), if_pos h]; rfl
theorem ordT_trans (a b c : List Int) : ∀ k, 0 ≤ ordT a b k → 0 ≤ ordT b c k → 0 ≤ ordT a c k
  | 0, _, _ => by show (0 : Int) ≤ 0; omega
  | k + 1, h1, h2 => by
    rw [ordT_succ] at h1 h2 ⊢
    have ih := ordT_trans a b c k
    generalize a.getD k 0 = x at *
    generalize b.getD k 0 = y at *
    generalize c.getD k 0 = z at *
    by_cases e1 : x = y
    · rw [if_pos e1] at h1
      by_cases e2 : y = z
      · rw [if_pos e2] at h2
        rw [if_pos (e1.trans e2)]; exact ih h1 h2
      · rw [if_neg e2] at h2
        by_cases l2 : z < y
        · rw [if_pos l2] at h2; omega
        · rw [if_neg (by omega), if_neg (by omega)]; omega
    · rw [if_neg e1] at h1
      by_cases l1 : y < x
      · rw [if_pos l1] at h1; omega
      · by_cases e2 : y = z
        · rw [if_neg (by omega), if_neg (by omega)]; omega
        · rw [if_neg e2] at h2
          by_cases l2 : z < y
          · rw [if_pos l2] at h2; omega
          · rw [if_neg (by omega), if_neg (by omega)]; omega
theorem ordT_zero (a b : List Int) : ∀ k, ordT a b k = 0 → ∀ j, j < k → a.getD j 0 = b.getD j 0
  | 0, _, j, hj => absurd hj (by omega)
  | k + 1, h, j, hj => by
    rw [ordT_succ] at h
    by_cases e : a.getD k 0 = b.getD k 0
    · rw [if_pos e] at h
      by_cases hjk : j = k
      · rw [hjk]; exact e
      · exact ordT_zero a b k h j (by omega)
    · rw [if_neg e] at h
      split at h <;> omega
theorem ordT_self (a : List Int) : ∀ k, ordT a a k = 0
  | 0 => rfl
  | k + 1 => by rw [ordT_succ, if_pos rfl]; exact ordT_self a k
theorem ord_self (a : List Int) : ord a a = 0 := by unfold ord; rw [if_pos rfl]; exact ordT_self a _
theorem ord_anti {a b : List Int} (h : a.length = b.length) : ord b a = -ord a b := by
  unfold ord
  by_cases e : a.sum = b.sum
  · rw [if_pos e, if_pos e.symm, ← h]; exact ordT_anti a b _
  · rw [if_neg e, if_neg (Ne.symm e)]
    by_cases l : a.sum < b.sum
    · rw [if_pos l, if_neg (by omega)]; rfl
    · rw [if_neg l, if_pos (by omega)]
theorem ord_zero {a b : List Int} (h : a.length = b.length) (hz : ord a b = 0) : a = b := by
  unfold ord at hz
  by_cases e : a.sum = b.sum
  · rw [if_pos e] at hz
    refine List.ext_getElem h (fun j h1 h2 => ?_)
    have := ordT_zero a b _ hz j h1
    simpa [h1, h2] using this
  · rw [if_neg e] at hz
    split at hz <;> omega
theorem ord_trans {a b c : List Int} (h : a.length = b.length) (h1 : 0 ≤ ord a b) (h2 : 0 ≤ ord b c) : 0 ≤ ord a c := by
  unfold ord at *
  by_cases e1 : a.sum = b.sum
  · rw [if_pos e1] at h1
    by_cases e2 : b.sum = c.sum
    · rw [if_pos e2] at h2
      rw [if_pos (e1.trans e2)]
      rw [← h] at h2
      exact ordT_trans a b c _ h1 h2
    · rw [if_neg e2] at h2
      by_cases l2 : b.sum < c.sum
      · rw [if_pos l2] at h2; omega
      · rw [if_neg (by omega), if_neg (by omega)]; omega
  · rw [if_neg e1] at h1
    by_cases l1 : a.sum < b.sum
    · rw [if_pos l1] at h1; omega
    · by_cases e2 : b.sum = c.sum
      · rw [if_neg (by omega), if_neg (by omega)]; omega
      · rw [if_neg e2] at h2
        by_cases l2 : b.sum < c.sum
        · rw [if_pos l2] at h2; omega
        · rw [if_neg (by omega), if_neg (by omega)]; omega
end Go.Rs
end
section
/- Plain: equal terms brought together. -/
namespace Go.Rs
open Go.Mo Go.Rq
/-- Terms of which neighbours with one monomial are added up, and zeros left out: what Sum makes of sorted terms. -/
def colR : List (Rat × List Int) → Rat → List Int → List (Rat × List Int)
  | [], c, e => if c = 0 then [] else [(c, e)]
  | (c', e') :: l, c, e => if ord e e' = 0 then colR l (c + c') e else (if c = 0 then [] else [(c, e)]) ++ colR l c' e'
def col : List (Rat × List Int) → List (Rat × List Int)
  | [] => []
  | (c, e) :: l => colR l c e
/-- The value of a linear functional at terms. -/
def lin (φ : List Int → Rat) (l : List (Rat × List Int)) : Rat := (l.map fun t => t.1 * φ t.2).sum
theorem lin_cons (φ : List Int → Rat) (t : Rat × List Int) (l : List (Rat × List Int)) : lin φ (t :: l) = t.1 * φ t.2 + lin φ l := by
  unfold lin; rw [List.map_cons, List.sum_cons]
theorem lin_nil (φ : List Int → Rat) : lin φ [] = 0 := rfl
theorem lin_head (φ : List Int → Rat) (c : Rat) (e : List Int) (l : List (Rat × List Int)) : lin φ ((if c = 0 then [] else [(c, e)]) ++ l) = c * φ e + lin φ l := by
  by_cases h : c = 0
  · rw [if_pos h, h, List.nil_append, Rat.zero_mul, Rat.zero_add]
  · rw [if_neg h, List.singleton_append, lin_cons]
theorem lin_colR (φ : List Int → Rat) {v : Nat} : ∀ (l : List (Rat × List Int)) (c : Rat) (e : List Int), e.length = v → (∀ t ∈ l, t.2.length = v) → lin φ (colR l c e) = c * φ e + lin φ l
  | [], c, e, _, _ => by
    have := lin_head φ c e []
    rw [List.append_nil] at this
    exact this
  | (c', e') :: l, c, e, he, hl => by
    have he' := hl (c', e') (by simp)
    have hl' : ∀ t ∈ l, t.2.length = v := fun t ht => hl t (by simp [ht])
    unfold colR
    by_cases h : ord e e' = 0
    · have := ord_zero (he.trans he'.symm) h
      rw [if_pos h, lin_colR φ l _ e he hl', lin_cons, this, Rat.add_mul, Rat.add_assoc]
    · rw [if_neg h, lin_head, lin_colR φ l c' e' he' hl', lin_cons]
theorem lin_col (φ : List Int → Rat) {v : Nat} (l : List (Rat × List Int)) (hl : ∀ t ∈ l, t.2.length = v) : lin φ (col l) = lin φ l := by
  match l, hl with
  | [], _ => rfl
  | (c, e) :: l, hl => exact (lin_colR φ l c e (hl (c, e) (by simp)) (fun t ht => hl t (by simp [ht]))).trans (lin_cons φ (c, e) l).symm
theorem lin_perm (φ : List Int → Rat) {l m : List (Rat × List Int)} (h : l.Perm m) : lin φ l = lin φ m := by
  induction h with
  | nil => rfl
  | cons t _ ih => rw [lin_cons, lin_cons, ih]
  | swap s t l => rw [lin_cons, lin_cons, lin_cons, lin_cons, ← Rat.add_assoc, ← Rat.add_assoc, Rat.add_comm (t.1 * φ t.2)]
  | trans _ _ h1 h2 => exact h1.trans h2
theorem colR_mem : ∀ (l : List (Rat × List Int)) (c : Rat) (e : List Int) (t : Rat × List Int), t ∈ colR l c e → t.1 ≠ 0 ∧ (t.2 = e ∨ ∃ s ∈ l, s.2 = t.2)
  | [], c, e, t, h => by
    unfold colR at h
    by_cases hc : c = 0
    · rw [if_pos hc] at h; exact absurd h (by simp)
    · rw [if_neg hc] at h
      rw [List.mem_singleton.1 h]; exact ⟨hc, .inl rfl⟩
  | (c', e') :: l, c, e, t, h => by
    unfold colR at h
    by_cases ho : ord e e' = 0
    · rw [if_pos ho] at h
      obtain ⟨h1, h2⟩ := colR_mem l _ e t h
      exact ⟨h1, h2.imp id fun ⟨s, hs, e1⟩ => ⟨s, by simp [hs], e1⟩⟩
    · rw [if_neg ho] at h
      rcases List.mem_append.1 h with h | h
      · by_cases hc : c = 0
        · rw [if_pos hc] at h; exact absurd h (by simp)
        · rw [if_neg hc] at h
          rw [List.mem_singleton.1 h]; exact ⟨hc, .inl rfl⟩
      · obtain ⟨h1, h2⟩ := colR_mem l c' e' t h
        refine ⟨h1, .inr ?_⟩
        rcases h2 with h2 | ⟨s, hs, e1⟩
        · exact ⟨(c', e'), by simp, h2.symm⟩
        · exact ⟨s, by simp [hs], e1⟩
end Go.Rs
end
section
/- Plain: the terms of a sum descend; the sum of their coefficients' absolute values. -/
namespace Go.Rs
open Go.Mo Go.Rq
/-- Terms descend strictly. -/
def Desc (l : List (Rat × List Int)) : Prop := l.Pairwise (fun a b => 0 < ord a.2 b.2)
theorem desc_head {c : Rat} {e : List Int} {l : List (Rat × List Int)} (h : Desc l) (hl : ∀ t ∈ l, 0 < ord e t.2) : Desc ((if c = 0 then [] else [(c, e)]) ++ l) := by
  by_cases hc : c = 0
  · rw [if_pos hc, List.nil_append]; exact h
  · rw [if_neg hc, List.singleton_append]
    exact List.Pairwise.cons hl h
theorem ord_next {a b c : List Int} {v : Nat} (ha : a.length = v) (hb : b.length = v) (hc : c.length = v) (h1 : 0 < ord a b) (h2 : 0 ≤ ord b c) : 0 < ord a c := by
  have h3 : 0 ≤ ord a c := ord_trans (ha.trans hb.symm) (by omega) h2
  rcases Int.lt_or_eq_of_le h3 with h | h
  · exact h
  · have e := ord_zero (ha.trans hc.symm) h.symm
    rw [← e, ord_anti (ha.trans hb.symm)] at h2
    omega
theorem desc_colR {v : Nat} : ∀ (l : List (Rat × List Int)) (c : Rat) (e : List Int), e.length = v → (∀ t ∈ l, t.2.length = v) → (∀ t ∈ l, 0 ≤ ord e t.2) → l.Pairwise (fun a b => 0 ≤ ord a.2 b.2) → Desc (colR l c e)
  | [], c, e, _, _, _, _ => by
    unfold colR
    by_cases hc : c = 0
    · rw [if_pos hc]; exact List.Pairwise.nil
    · rw [if_neg hc]; exact List.pairwise_singleton _ _
  | (c', e') :: l, c, e, he, hl, ho, hp => by
    have he' := hl (c', e') (by simp)
    have hl' : ∀ t ∈ l, t.2.length = v := fun t ht => hl t (by simp [ht])
    obtain ⟨hp1, hp2⟩ := List.pairwise_cons.1 hp
    unfold colR
    by_cases h : ord e e' = 0
    · rw [if_pos h]
      exact desc_colR l _ e he hl' (fun t ht => ho t (by simp [ht])) hp2
    · rw [if_neg h]
      have h0 : 0 ≤ ord e e' := ho (c', e') (by simp)
      refine desc_head (desc_colR l c' e' he' hl' hp1 hp2) (fun t ht => ?_)
      obtain ⟨_, h2⟩ := colR_mem l c' e' t ht
      rcases h2 with h2 | ⟨s, hs, h2⟩
      · rw [h2]; show 0 < ord e e'; omega
      · rw [← h2]
        exact ord_next (b := e') he he' (hl' s hs) (by omega) (hp1 s hs)
theorem desc_col {v : Nat} (l : List (Rat × List Int)) (hl : ∀ t ∈ l, t.2.length = v) (hp : l.Pairwise (fun a b => 0 ≤ ord a.2 b.2)) : Desc (col l) := by
  match l, hl, hp with
  | [], _, _ => exact List.Pairwise.nil
  | (c, e) :: l, hl, hp =>
    obtain ⟨hp1, hp2⟩ := List.pairwise_cons.1 hp
    exact desc_colR l c e (hl (c, e) (by simp)) (fun t ht => hl t (by simp [ht])) hp1 hp2
theorem col_mem (l : List (Rat × List Int)) (t : Rat × List Int) (h : t ∈ col l) : t.1 ≠ 0 ∧ ∃ s ∈ l, s.2 = t.2 := by
  match l, h with
  | [], h => exact absurd h (by simp [col])
  | (c, e) :: l, h =>
    obtain ⟨h1, h2⟩ := colR_mem l c e t h
    refine ⟨h1, ?_⟩
    rcases h2 with h2 | ⟨s, hs, h2⟩
    · exact ⟨(c, e), by simp, h2.symm⟩
    · exact ⟨s, by simp [hs], h2⟩
/-- The coefficients are multiples of 1/D, and the multiples' absolute values sum to K at most. -/
def Nm (D : Nat) : List (Rat × List Int) → Nat → Prop
  | [], _ => True
  | t :: l, K => ∃ k : Int, t.1 = mkRat k D ∧ k.natAbs ≤ K ∧ Nm D l (K - k.natAbs)
theorem Nm.mono {D : Nat} : ∀ {l : List (Rat × List Int)} {K K' : Nat}, Nm D l K → K ≤ K' → Nm D l K'
  | [], _, _, _, _ => trivial
  | _ :: _, _, _, ⟨k, e, h1, h2⟩, h => ⟨k, e, by omega, h2.mono (by omega)⟩
theorem Nm.colR {D : Nat} (hD : 0 < D) : ∀ (l : List (Rat × List Int)) (k : Int) (c : Rat) (e : List Int) (K : Nat), c = mkRat k D → k.natAbs ≤ K → Nm D l (K - k.natAbs) → Nm D (colR l c e) K
  | [], k, c, e, K, hc, hk, _ => by
    unfold Rs.colR
    by_cases h : c = 0
    · rw [if_pos h]; trivial
    · rw [if_neg h]; exact ⟨k, hc, hk, trivial⟩
  | (c', e') :: l, k, c, e, K, hc, hk, ⟨k', hc', hk', hl⟩ => by
    unfold Rs.colR
    by_cases h : ord e e' = 0
    · rw [if_pos h]
      refine Nm.colR hD l (k + k') (c + c') e K ?_ (by omega) (hl.mono (by omega))
      rw [hc]
      show mkRat k D + c' = _
      rw [show c' = mkRat k' D from hc', Rat.mkRat_add_mkRat _ _ (by omega) (by omega), ← Int.add_mul, Rat.mkRat_mul_right (by omega)]
    · rw [if_neg h]
      have ih := Nm.colR hD l k' c' e' (K - k.natAbs) hc' hk' hl
      by_cases h0 : c = 0
      · rw [if_pos h0, List.nil_append]; exact ih.mono (by omega)
      · rw [if_neg h0, List.singleton_append]; exact ⟨k, hc, hk, ih⟩
theorem Nm.col {D : Nat} (hD : 0 < D) {l : List (Rat × List Int)} {K : Nat} (h : Nm D l K) : Nm D (col l) K := by
  match l, h with
  | [], _ => trivial
  | (c, e) :: l, ⟨k, hc, hk, hl⟩ => exact Nm.colR hD l k c e K hc hk hl
theorem Nm.perm {D : Nat} {l m : List (Rat × List Int)} (h : l.Perm m) : ∀ {K : Nat}, Nm D l K → Nm D m K := by
  induction h with
  | nil => exact fun h => h
  | cons t _ ih => exact fun ⟨k, e, h1, h2⟩ => ⟨k, e, h1, ih h2⟩
  | swap s t l => exact fun ⟨k, e, h1, k', e', h2, h3⟩ => ⟨k', e', by omega, k, e, by omega, h3.mono (by omega)⟩
  | trans _ _ h1 h2 => exact fun h => h2 (h1 h)
theorem Nm.append {D : Nat} : ∀ {l m : List (Rat × List Int)} {K L : Nat}, Nm D l K → Nm D m L → Nm D (l ++ m) (K + L)
  | [], _, _, _, _, h => h.mono (by omega)
  | _ :: _, _, _, _, ⟨k, e, h1, h2⟩, h => ⟨k, e, by omega, (h2.append h).mono (by omega)⟩
theorem Nm.mem {D : Nat} : ∀ {l : List (Rat × List Int)} {K : Nat}, Nm D l K → ∀ t ∈ l, Bd D K t.1
  | [], _, _, t, ht => absurd ht (by simp)
  | _ :: _, _, ⟨k, e, h1, h2⟩, t, ht => by
    rcases List.mem_cons.1 ht with rfl | ht
    · exact ⟨k, e, h1⟩
    · exact (h2.mem t ht).mono (by omega)
theorem Nm.take {D : Nat} : ∀ {l : List (Rat × List Int)} {K : Nat} (n : Nat), Nm D l K → Nm D (l.take n) K
  | [], _, n, _ => by rw [List.take_nil]; trivial
  | _ :: _, _, 0, _ => trivial
  | _ :: _, _, n + 1, ⟨k, e, h1, h2⟩ => ⟨k, e, h1, h2.take n⟩
theorem Nm.drop {D : Nat} : ∀ {l : List (Rat × List Int)} {K : Nat} (n : Nat), Nm D l K → Nm D (l.drop n) K
  | [], _, n, _ => by rw [List.drop_nil]; trivial
  | _ :: _, _, 0, h => h
  | _ :: _, _, n + 1, ⟨k, e, h1, h2⟩ => (h2.drop n).mono (by omega)
theorem Nm.scale {D E L : Nat} {c : Rat} (hc : Bd E L c) (f : List Int → List Int) : ∀ {l : List (Rat × List Int)} {K : Nat}, Nm D l K → Nm (D * E) (l.map fun t => (t.1 * c, f t.2)) (K * L)
  | [], _, _ => trivial
  | t :: l, K, ⟨k, e, h1, h2⟩ => by
    have ih := h2.scale hc f
    obtain ⟨x, rfl, hx⟩ := hc
    have hm := Nat.mul_le_mul_left k.natAbs hx
    have hm2 := Nat.mul_le_mul_right L h1
    refine ⟨k * x, ?_, ?_, ih.mono ?_⟩
    · show t.1 * _ = _
      rw [e, Rat.mkRat_mul_mkRat]
    · rw [Int.natAbs_mul]; omega
    · rw [Int.natAbs_mul, Nat.sub_mul]; omega
/-- The bound of a linear functional. -/
theorem Nm.lin {D E L : Nat} (hD : 0 < D) (hE : 0 < E) {φ : List Int → Rat} : ∀ {l : List (Rat × List Int)} {K : Nat}, Nm D l K → (∀ t ∈ l, Bd E L (φ t.2)) → Bd (D * E) (K * L) (lin φ l)
  | [], K, _, _ => (Bd.zero _).mono (Nat.zero_le _)
  | t :: l, K, ⟨k, e, h1, h2⟩, hb => by
    have ih := h2.lin hD hE (fun s hs => hb s (by simp [hs]))
    have h3 : Bd D k.natAbs t.1 := ⟨k, e, Nat.le_refl _⟩
    have h4 := h3.mul (hb t (by simp))
    rw [lin_cons]
    refine (h4.add ih (Nat.mul_pos hD hE)).mono ?_
    have hm2 := Nat.mul_le_mul_right L h1
    rw [Nat.sub_mul]; omega
theorem lin_append (φ : List Int → Rat) : ∀ (l m : List (Rat × List Int)), lin φ (l ++ m) = lin φ l + lin φ m
  | [], m => by rw [List.nil_append, lin_nil, Rat.zero_add]
  | t :: l, m => by rw [List.cons_append, lin_cons, lin_cons, lin_append φ l m, Rat.add_assoc]
theorem lin_congr {φ ψ : List Int → Rat} : ∀ {l : List (Rat × List Int)}, (∀ t ∈ l, φ t.2 = ψ t.2) → lin φ l = lin ψ l
  | [], _ => rfl
  | t :: l, h => by rw [lin_cons, lin_cons, h t (by simp), lin_congr (fun s hs => h s (by simp [hs]))]
/-- Numbers with parts at most nine and four lie over one of three divisors. -/
def fitD (ds : List Nat) (D : Nat) : Bool := ds.all (fun d => decide (D % d = 0)) && decide (9 * (ds.map fun d => D / d).sum ≤ (if ds.length ≤ 3 then 171 else 279))
def fits (ds : List Nat) : Bool := fitD ds 4 || fitD ds 6 || fitD ds 12
theorem fits_all (ds : List Nat) (hl : ds.length ≤ 4) (hd : ∀ d ∈ ds, 1 ≤ d ∧ d ≤ 4) : fits ds = true := by
  have four : ∀ d, 1 ≤ d ∧ d ≤ 4 → d = 1 ∨ d = 2 ∨ d = 3 ∨ d = 4 := fun d h => by omega
  match ds, hl, hd with
  | [], _, _ => decide
  | [a], _, h =>
    rcases four a (h a (by simp)) with rfl | rfl | rfl | rfl <;> decide
  | [a, b], _, h =>
    rcases four a (h a (by simp)) with rfl | rfl | rfl | rfl <;> rcases four b (h b (by simp)) with rfl | rfl | rfl | rfl <;> decide
  | [a, b, c], _, h =>
    rcases four a (h a (by simp)) with rfl | rfl | rfl | rfl <;> rcases four b (h b (by simp)) with rfl | rfl | rfl | rfl <;> rcases four c (h c (by simp)) with rfl | rfl | rfl | rfl <;> decide
  | [a, b, c, d], _, h =>
    rcases four a (h a (by simp)) with rfl | rfl | rfl | rfl <;> rcases four b (h b (by simp)) with rfl | rfl | rfl | rfl <;> rcases four c (h c (by simp)) with rfl | rfl | rfl | rfl <;> rcases four d (h d (by simp)) with rfl | rfl | rfl | rfl <;> decide
  | _ :: _ :: _ :: _ :: _ :: _, hl, _ => simp at hl
end Go.Rs
end
section
/- Plain: monomials ascend; which lists are monomials; written polynomials are valid; bounds. -/
namespace Go.Mm
open Go.Mo Go.Qn Go.Ev
theorem ordT_app (a b : List Int) (x y : Int) : ∀ k, k ≤ a.length → k ≤ b.length → ordT (a ++ [x]) (b ++ [y]) k = ordT a b k
  | 0, _, _ => rfl
  | k + 1, h1, h2 => by
    have e1 : (a ++ [x]).getD k 0 = a.getD k 0 := by rw [List.getD_eq_getElem?_getD, List.getElem?_append_left (by omega), List.getD_eq_getElem?_getD]
    have e2 : (b ++ [y]).getD k 0 = b.getD k 0 := by rw [List.getD_eq_getElem?_getD, List.getElem?_append_left (by omega), List.getD_eq_getElem?_getD]
    rw [Rs.ordT_succ, Rs.ordT_succ, e1, e2, ordT_app a b x y k (by omega) (by omega)]
theorem ordT_last {a b : List Int} {n : Nat} (ha : a.length = n) (hb : b.length = n) (x y : Int) : ordT (a ++ [x]) (b ++ [y]) (n + 1) = if x = y then ordT a b n else if y < x then -1 else 1 := by
  have e1 : (a ++ [x]).getD n 0 = x := by rw [List.getD_eq_getElem?_getD, List.getElem?_append_right (by omega), ha]; simp
  have e2 : (b ++ [y]).getD n 0 = y := by rw [List.getD_eq_getElem?_getD, List.getElem?_append_right (by omega), hb]; simp
  rw [Rs.ordT_succ, e1, e2, ordT_app a b x y n (by omega) (by omega)]
theorem ord_same {a b : List Int} (h : a.sum = b.sum) : ord a b = ordT a b a.length := by unfold ord; rw [if_pos h]
theorem ord_less {a b : List Int} (h : a.sum < b.sum) : ord a b < 0 := by unfold ord; rw [if_neg (by omega), if_pos h]; decide
theorem exact_asc : ∀ (n d : Nat), (exactL n d).Pairwise (fun a b => ord a b < 0)
  | 0, d => by
    unfold exactL
    split
    · exact List.pairwise_singleton _ _
    · exact List.Pairwise.nil
  | n + 1, d => by
    unfold exactL
    rw [List.pairwise_flatMap]
    refine ⟨fun j hj => ?_, ?_⟩
    · rw [List.pairwise_map]
      refine List.Pairwise.imp_of_mem ?_ (exact_asc n j)
      intro a b ha hb h
      obtain ⟨l1, _, s1⟩ := exact_mem n j a ha
      obtain ⟨l2, _, s2⟩ := exact_mem n j b hb
      rw [ord_same (s1.trans s2.symm), l1] at h
      rw [ord_same (by rw [List.sum_append, List.sum_append, s1, s2]), List.length_append, l1]
      rw [show n + [((d - j : Nat) : Int)].length = n + 1 from rfl, ordT_last l1 l2, if_pos rfl]
      exact h
    · refine List.Pairwise.imp_of_mem ?_ List.pairwise_lt_range
      intro j k hj hk hjk x hx y hy
      have hj2 := List.mem_range.1 hj
      have hk2 := List.mem_range.1 hk
      obtain ⟨a, ha, rfl⟩ := List.mem_map.1 hx
      obtain ⟨b, hb, rfl⟩ := List.mem_map.1 hy
      obtain ⟨l1, _, s1⟩ := exact_mem n j a ha
      obtain ⟨l2, _, s2⟩ := exact_mem n k b hb
      rw [ord_same (by rw [List.sum_append, List.sum_append, s1, s2]; simp; omega), List.length_append, l1]
      rw [show n + [((d - j : Nat) : Int)].length = n + 1 from rfl, ordT_last l1 l2, if_neg (by omega), if_pos (by omega)]
      decide
theorem mons_asc (n d : Nat) : (mons n d).Pairwise (fun a b => ord a b < 0) := by
  unfold mons
  rw [List.pairwise_flatMap]
  refine ⟨fun j _ => exact_asc n j, ?_⟩
  refine List.Pairwise.imp_of_mem ?_ List.pairwise_lt_range
  intro j k _ _ hjk x hx y hy
  refine ord_less ?_
  rw [(exact_mem n j x hx).2.2, (exact_mem n k y hy).2.2]
  omega
theorem mons_nodup (n d : Nat) : (mons n d).Nodup := by
  refine (mons_asc n d).imp ?_
  intro a b h e
  rw [e, Rs.ord_self] at h
  omega
theorem exact_of : ∀ (n d : Nat) (m : List Int), m.length = n → (∀ e ∈ m, 0 ≤ e) → m.sum = d → m ∈ exactL n d
  | 0, d, m, hl, _, hs => by
    obtain rfl := List.length_eq_zero_iff.1 hl
    have : d = 0 := by simp at hs; omega
    subst this
    simp [exactL]
  | n + 1, d, m, hl, h0, hs => by
    obtain ⟨m', x, rfl⟩ : ∃ m' x, m = m' ++ [x] := by
      rcases List.eq_nil_or_concat m with rfl | ⟨m', x, rfl⟩
      · simp at hl
      · exact ⟨m', x, by simp⟩
    have hx := h0 x (by simp)
    have h1 : ∀ e ∈ m', 0 ≤ e := fun e he => h0 e (by simp [he])
    have h2 := sum_nonneg m' h1
    rw [List.sum_append, List.sum_singleton] at hs
    unfold exactL
    refine List.mem_flatMap.2 ⟨m'.sum.toNat, List.mem_range.2 (by omega), List.mem_map.2 ⟨m', exact_of n _ m' (by simpa using hl) h1 (by omega), ?_⟩⟩
    rw [show ((d - m'.sum.toNat : Nat) : Int) = x by omega]
theorem mons_of {n d : Nat} {m : List Int} (hl : m.length = n) (h0 : ∀ e ∈ m, 0 ≤ e) (hs : m.sum ≤ d) : m ∈ mons n d := by
  have h2 := sum_nonneg m h0
  exact List.mem_flatMap.2 ⟨m.sum.toNat, List.mem_range.2 (by omega), exact_of n _ m hl h0 (by omega)⟩
theorem mons_sum {n d : Nat} {m : List Int} (h : m ∈ mons n d) : 0 ≤ m.sum ∧ m.sum ≤ d := by
  obtain ⟨j, hj, hm⟩ := List.mem_flatMap.1 h
  have hj2 := List.mem_range.1 hj
  have := (exact_mem n j m hm).2.2
  omega
theorem mons_le {n d e : Nat} {m : List Int} (h : m ∈ mons n d) (hde : d ≤ e) : m ∈ mons n e :=
  mons_of (mons_mem h).1 (fun x hx => ((mons_mem h).2 x hx).1) (by have := (mons_sum h).2; omega)
theorem mons_vld {n d : Nat} {m : List Int} (h : m ∈ mons n d) (hn : n ≤ 6) (hd : d ≤ 24) : vldM m = true :=
  vldM_iff.2 ⟨by rw [(mons_mem h).1]; exact hn, fun x hx => ((mons_mem h).2 x hx).1, by have := (mons_sum h).2; omega⟩
theorem addL_sum : ∀ {a b : List Int}, a.length = b.length → (addL a b).sum = a.sum + b.sum
  | [], [], _ => rfl
  | x :: a, y :: b, h => by
    have ih := addL_sum (a := a) (b := b) (by simpa using h)
    show ((x + y) :: addL a b).sum = _
    rw [List.sum_cons, List.sum_cons, List.sum_cons, ih]; omega
theorem addL_mem {n d e : Nat} {a b : List Int} (ha : a ∈ mons n d) (hb : b ∈ mons n e) : addL a b ∈ mons n (d + e) := by
  have l1 := (mons_mem ha).1
  have l2 := (mons_mem hb).1
  have hl : a.length = b.length := l1.trans l2.symm
  refine mons_of ((addL_len hl).trans l1) (fun x hx => ?_) ?_
  · unfold addL at hx
    obtain ⟨i, hi, rfl⟩ := List.getElem_of_mem hx
    rw [List.getElem_zipWith]
    have h1 := ((mons_mem ha).2 _ (List.getElem_mem (l := a) (n := i) (by simp at hi; omega))).1
    have h2 := ((mons_mem hb).2 _ (List.getElem_mem (l := b) (n := i) (by simp at hi; omega))).1
    omega
  · rw [addL_sum hl]
    have h1 := (mons_sum ha).2
    have h2 := (mons_sum hb).2
    omega
theorem zeros_mem (n : Nat) : List.replicate n (0 : Int) ∈ mons n 0 :=
  mons_of (by simp) (fun e he => by rw [(List.mem_replicate.1 he).2]; exact Int.le_refl _) (by simp)
theorem addL_zeros : ∀ {n : Nat} {a : List Int}, a.length = n → addL a (List.replicate n 0) = a
  | 0, [], _ => rfl
  | n + 1, x :: a, h => by
    have ih := addL_zeros (n := n) (a := a) (by simpa using h)
    show (x + 0) :: addL a (List.replicate n 0) = _
    rw [ih, Int.add_zero]
/-- Values at different things are the values of a function. -/
theorem fun_of {α : Type} [DecidableEq α] : ∀ (ms : List α) (qs : List Rat), ms.Nodup → qs.length = ms.length → ∃ φ : α → Rat, qs = ms.map φ
  | [], [], _, _ => ⟨fun _ => 0, rfl⟩
  | [], _ :: _, _, h => absurd h (by simp)
  | _ :: _, [], _, h => absurd h (by simp)
  | m :: ms, q :: qs, hn, hl => by
    obtain ⟨h1, h2⟩ := List.nodup_cons.1 hn
    obtain ⟨φ, e⟩ := fun_of ms qs h2 (by simpa using hl)
    refine ⟨fun x => if x = m then q else φ x, ?_⟩
    rw [List.map_cons, if_pos rfl, e]
    congr 1
    refine List.map_congr_left fun x hx => ?_
    exact (if_neg (fun h : x = m => h1 (by rw [← h]; exact hx))).symm
end Go.Mm
namespace Go.Rs
open Go.Mo Go.Rq Go.Mm Go.Qn Go.Ev Go.Proofs.Tg
/-- A merge of sorted lists is sorted, if the order is one among their members. -/
theorem merge_asc {α : Type} (le : α → α → Bool) {P : α → Prop} (trans : ∀ a b c, P a → P b → P c → le a b = true → le b c = true → le a c = true) (total : ∀ a b, P a → P b → le a b = true ∨ le b a = true) :
    ∀ (l r : List α), (∀ x ∈ l, P x) → (∀ x ∈ r, P x) → l.Pairwise (fun a b => le a b = true) → r.Pairwise (fun a b => le a b = true) → (List.merge l r le).Pairwise (fun a b => le a b = true)
  | [], r, _, _, _, h => by simpa using h
  | a :: l, [], _, _, h, _ => by simpa using h
  | a :: l, b :: r, hl, hr, h1, h2 => by
    obtain ⟨h3, h4⟩ := List.pairwise_cons.1 h1
    obtain ⟨h5, h6⟩ := List.pairwise_cons.1 h2
    have pa := hl a (by simp)
    have pb := hr b (by simp)
    have hl' : ∀ x ∈ l, P x := fun x hx => hl x (by simp [hx])
    have hr' : ∀ x ∈ r, P x := fun x hx => hr x (by simp [hx])
    rw [List.cons_merge_cons]
    by_cases h : le a b = true
    · rw [if_pos h]
      refine List.Pairwise.cons (fun x hx => ?_) (merge_asc le trans total l (b :: r) hl' hr h4 h2)
      rcases List.mem_merge.1 hx with hx | hx
      · exact h3 x hx
      · rcases List.mem_cons.1 hx with rfl | hx
        · exact h
        · exact trans a b x pa pb (hr' x hx) h (h5 x hx)
    · rw [if_neg h]
      have hba : le b a = true := (total a b pa pb).resolve_left h
      refine List.Pairwise.cons (fun x hx => ?_) (merge_asc le trans total (a :: l) r hl hr' h1 h6)
      rcases List.mem_merge.1 hx with hx | hx
      · rcases List.mem_cons.1 hx with rfl | hx
        · exact hba
        · exact trans b a x pb pa (hl' x hx) hba (h3 x hx)
      · exact h5 x hx
termination_by l r => l.length + r.length
theorem sort_asc {α : Type} (le : α → α → Bool) {P : α → Prop} (trans : ∀ a b c, P a → P b → P c → le a b = true → le b c = true → le a c = true) (total : ∀ a b, P a → P b → le a b = true ∨ le b a = true) :
    ∀ (n : Nat) (l : List α), l.length ≤ n + 1 → (∀ x ∈ l, P x) → (msrt le n l).Pairwise (fun a b => le a b = true)
  | 0, l, h, _ => by
    match l, h with
    | [], _ => exact List.Pairwise.nil
    | [a], _ => exact List.pairwise_singleton _ _
  | n + 1, l, h, hp => by
    by_cases h2 : l.length < 2
    · rw [msrt_short le h2]
      match l, h2 with
      | [], _ => exact List.Pairwise.nil
      | [a], _ => exact List.pairwise_singleton _ _
    · rw [msrt_step le h2]
      refine merge_asc le trans total _ _ (fun x hx => hp x (List.mem_of_mem_take ((msrt_mem le).1 hx))) (fun x hx => hp x (List.mem_of_mem_drop ((msrt_mem le).1 hx))) (sort_asc le trans total n _ (by rw [List.length_take]; omega) (fun x hx => hp x (List.mem_of_mem_take hx))) (sort_asc le trans total n _ (by rw [List.length_drop]; omega) (fun x hx => hp x (List.mem_of_mem_drop hx)))
/-- A polynomial's terms as texts and exponents. -/
def wrT (l : List (Rat × List Int)) : List Term := l.map fun t => (qtx t.1, t.2)
theorem coefOk_q {q : Rat} (h : q ≠ 0) : coefOk (qtx q) = true := by
  unfold coefOk qtx
  rw [bs_data, rd_text (canon q)]
  refine decide_eq_true ?_
  intro e
  exact h (Rat.num_eq_zero.1 (Int.natAbs_eq_zero.1 e))
/-- What the written polynomials of the laws are. -/
structure PolyOk (v d : Nat) (l : List (Rat × List Int)) : Prop where
  desc : Desc l
  mem : ∀ t ∈ l, t.1 ≠ 0 ∧ t.2 ∈ mons v d
  few : l.length ≤ 4096
theorem PolyOk.vld {v d : Nat} {l : List (Rat × List Int)} (h : PolyOk v d l) (hv : v ≤ 6) (hd : d ≤ 24) : VldP v (wrT l) := by
  have hl : (wrT l).length = l.length := List.length_map _
  refine ⟨by rw [hl]; exact h.few, ⟨by omega, by omega, fun i hi hi2 => ?_⟩, fun h0 => ?_⟩
  · have hi3 : i < l.length := by omega
    have hm := h.mem _ (List.getElem_mem hi3)
    have e1 : (wrT l)[i] = (qtx l[i].1, l[i].2) := by simp [wrT]
    rw [e1]
    refine ⟨termOk_iff.2 ⟨coefOk_q hm.1, by rw [(mons_mem hm.2).1], low20_iff.2 fun x hx => by have := (mons_mem hm.2).2 x hx; omega⟩, fun hp => ?_⟩
    have e2 : ((wrT l).getD (i - 1) default).2 = (l[i - 1]'(by omega)).2 := by
      rw [List.getD_eq_getElem?_getD, List.getElem?_eq_getElem (by omega)]
      simp [wrT]
    rw [e2]
    exact List.pairwise_iff_getElem.1 h.desc (i - 1) i (by omega) hi3 (by omega)
  · have h1 : 0 < l.length := by omega
    have e1 : (wrT l)[0] = (qtx l[0].1, l[0].2) := by simp [wrT]
    rw [e1]
    exact mons_vld (h.mem _ (List.getElem_mem h1)).2 hv hd
end Go.Rs
end
section
/- Plain: a monomial's number in the order. -/
namespace Go.Mm
open Go.Mo
/-- The place of the first n exponents among the monomials of their degree. -/
def pos (m : List Int) : Nat → Nat
  | 0 => 0
  | n + 1 => (monTo n (m.take n).sum.toNat).length + pos m n
theorem exTo_pre (n d : Nat) {k k' : Nat} (h : k ≤ k') : ∃ r, exTo n d k' = exTo n d k ++ r := by
  obtain ⟨i, rfl⟩ : ∃ i, k' = k + i := ⟨k' - k, by omega⟩
  clear h
  induction i with
  | zero => exact ⟨[], by simp⟩
  | succ i ih =>
    obtain ⟨r, e⟩ := ih
    exact ⟨r ++ _, by rw [show k + (i + 1) = (k + i) + 1 from rfl, exTo_succ, e, List.append_assoc]⟩
theorem monTo_pre (n : Nat) {k k' : Nat} (h : k ≤ k') : ∃ r, monTo n k' = monTo n k ++ r := by
  obtain ⟨i, rfl⟩ : ∃ i, k' = k + i := ⟨k' - k, by omega⟩
  clear h
  induction i with
  | zero => exact ⟨[], by simp⟩
  | succ i ih =>
    obtain ⟨r, e⟩ := ih
    exact ⟨r ++ _, by rw [show k + (i + 1) = (k + i) + 1 from rfl, monTo_succ, e, List.append_assoc]⟩
theorem at_pre {α : Type} {l a b r : List α} {x : α} {i : Nat} (e : l = (a ++ b) ++ r) (h : b[i]? = some x) : l[a.length + i]? = some x := by
  have hi := (List.getElem?_eq_some_iff.1 h).1
  rw [e, List.getElem?_append_left (by rw [List.length_append]; omega), List.getElem?_append_right (by omega), Nat.add_sub_cancel_left]
  exact h
theorem pos_at {m : List Int} (h0 : ∀ e ∈ m, 0 ≤ e) : ∀ n, n ≤ m.length → (exactL n (m.take n).sum.toNat)[pos m n]? = some (m.take n)
  | 0, _ => rfl
  | n + 1, h => by
    have ih := pos_at h0 n (by omega)
    have hs := sum_take_succ m n (by omega)
    have hx := h0 m[n] (List.getElem_mem _)
    have hn := sum_nonneg (m.take n) (fun e he => h0 e (List.mem_of_mem_take he))
    obtain ⟨r, hr⟩ := exTo_pre n (m.take (n + 1)).sum.toNat (k := (m.take n).sum.toNat + 1) (k' := (m.take (n + 1)).sum.toNat + 1) (by omega)
    rw [exTo_all, exTo_succ] at hr
    show (exactL (n + 1) _)[(monTo n (m.take n).sum.toNat).length + pos m n]? = _
    rw [← exTo_cnt n (m.take (n + 1)).sum.toNat]
    refine at_pre hr ?_
    rw [List.getElem?_map, ih]
    show some (m.take n ++ [(((m.take (n + 1)).sum.toNat - (m.take n).sum.toNat : Nat) : Int)]) = _
    have e1 : (((m.take (n + 1)).sum.toNat - (m.take n).sum.toNat : Nat) : Int) = m[n] := by omega
    rw [e1, ← List.take_succ_eq_append_getElem (by omega)]
def rank (m : List Int) : Nat := (monTo m.length m.sum.toNat).length + pos m m.length
theorem rank_at {n d : Nat} {m : List Int} (h : m ∈ mons n d) : (mons n d)[rank m]? = some m := by
  have hl := (mons_mem h).1
  have hs := mons_sum h
  obtain ⟨r, hr⟩ := monTo_pre n (k := m.sum.toNat + 1) (k' := d + 1) (by omega)
  rw [monTo_all, monTo_succ] at hr
  unfold rank
  rw [hl]
  refine at_pre hr ?_
  have := pos_at (fun e he => ((mons_mem h).2 e he).1) m.length (Nat.le_refl _)
  rw [List.take_length, hl] at this
  exact this
theorem rank_lt {n d : Nat} {m : List Int} (h : m ∈ mons n d) : rank m < cnt n d := (List.getElem?_eq_some_iff.1 (rank_at h)).1
/-- What the loops of Index hold. -/
theorem pos_one {m : List Int} : pos m 1 = 0 := by
  show (monTo 0 (m.take 0).sum.toNat).length + 0 = 0
  rfl
theorem pos_succ (m : List Int) (n : Nat) : pos m (n + 1) = (monTo n (m.take n).sum.toNat).length + pos m n := rfl
theorem monTo_step (n k : Nat) : (monTo (n + 1) (k + 1)).length = (monTo (n + 1) k).length + cnt n k := by rw [monTo_len, exact_cnt]
theorem rank_le {n d : Nat} {m : List Int} (h : m ∈ mons n d) : rank m ≤ cnt n d := Nat.le_of_lt (rank_lt h)
end Go.Mm
end
