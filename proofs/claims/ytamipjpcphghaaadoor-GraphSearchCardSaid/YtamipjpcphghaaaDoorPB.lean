/- Plain law of Tree: the library's parents are the reference's. -/
import Derived.Test.YtamipjpcphghaaaDoorSpecT
namespace Go.Gr
/-- Two ascending lists with the same members are one. -/
theorem asc_ext : ∀ {l m : List Int}, l.Pairwise (· < ·) → m.Pairwise (· < ·) → (∀ x, x ∈ l ↔ x ∈ m) → l = m
  | [], [], _, _, _ => rfl
  | [], y :: m, _, _, h => by have := (h y).2 (by simp); simp at this
  | x :: l, [], _, _, h => by have := (h x).1 (by simp); simp at this
  | x :: l, y :: m, h1, h2, h => by
    rw [List.pairwise_cons] at h1 h2
    have hxy : x = y := by
      have a := (h x).1 (by simp)
      have b := (h y).2 (by simp)
      rcases List.mem_cons.1 a with e | e
      · exact e
      · rcases List.mem_cons.1 b with e2 | e2
        · exact e2.symm
        · have := h1.1 y e2
          have := h2.1 x e
          omega
    subst hxy
    congr 1
    refine asc_ext h1.2 h2.2 (fun z => ⟨fun hz => ?_, fun hz => ?_⟩)
    · rcases List.mem_cons.1 ((h z).1 (by simp [hz])) with e | e
      · subst e; have := h1.1 z hz; omega
      · exact e
    · rcases List.mem_cons.1 ((h z).2 (by simp [hz])) with e | e
      · subst e; have := h2.1 z hz; omega
      · exact e
theorem asc_pairwise {l : List Int} (h : asc l) : l.Pairwise (· < ·) := by
  rw [List.pairwise_iff_getElem]
  intro i j hi hj hij
  have : ∀ d, ∀ j (hj : j < l.length), j = i + d + 1 → l[i] < l[j] := by
    intro d
    induction d with
    | zero =>
      intro j hj e
      have := (h j hj hj).2 (by omega)
      subst e
      simpa using this
    | succ d ih =>
      intro j hj e
      have h1 := ih (j - 1) (by omega) (by omega)
      have h2 := (h j hj hj).2 (by omega)
      omega
  exact this (j - i - 1) j hj (by omega)
theorem asc_range {l : List Int} (h : asc l) : ∀ x ∈ l, 0 ≤ x ∧ x < 64 := by
  intro x hx
  obtain ⟨i, hi, rfl⟩ := List.getElem_of_mem hx
  exact (h i hi hi).1
theorem setOf_bit : ∀ {l : List Int}, (∀ x ∈ l, 0 ≤ x) → ∀ j : Nat, (setOf l).testBit j = true ↔ (j : Int) ∈ l := by
  intro l
  have : ∀ (l : List Int) (s : Nat), (∀ x ∈ l, 0 ≤ x) → ∀ j : Nat, (l.foldl (fun s v => bset s v.toNat) s).testBit j = true ↔ s.testBit j = true ∨ (j : Int) ∈ l := by
    intro l
    induction l with
    | nil => intro s _ j; simp
    | cons x l ih =>
      intro s h j
      have hx := h x (by simp)
      rw [List.foldl_cons, ih _ (fun y hy => h y (by simp [hy])), bset_bit]
      simp only [Bool.or_eq_true, decide_eq_true_eq, List.mem_cons]
      have : (x.toNat = j) ↔ ((j : Int) = x) := by omega
      rw [this, or_assoc]
  intro h j
  have := this l 0 h j
  simpa [setOf] using this
def vertsZ (s : Nat) : List Int := (verts s).map fun v : Nat => (v : Int)
theorem vertsZ_asc (s : Nat) : (vertsZ s).Pairwise (· < ·) := by
  unfold vertsZ verts
  rw [List.pairwise_map]
  refine List.Pairwise.filter _ ?_
  exact List.Pairwise.imp (fun h => by omega) List.pairwise_lt_range
theorem mem_vertsZ {s : Nat} {x : Int} : x ∈ vertsZ s ↔ 0 ≤ x ∧ x < 64 ∧ s.testBit x.toNat = true := by
  unfold vertsZ
  rw [List.mem_map]
  constructor
  · rintro ⟨v, hv, rfl⟩
    rw [mem_verts] at hv
    exact ⟨by omega, by omega, by simpa using hv.2⟩
  · rintro ⟨h1, h2, h3⟩
    exact ⟨x.toNat, by rw [mem_verts]; exact ⟨by omega, h3⟩, by omega⟩
theorem vertsZ_setOf {l : List Int} (h : asc l) : vertsZ (setOf l) = l := by
  refine asc_ext (vertsZ_asc _) (asc_pairwise h) (fun x => ?_)
  rw [mem_vertsZ]
  constructor
  · rintro ⟨h1, h2, h3⟩
    have := (setOf_bit (fun y hy => (asc_range h y hy).1) _).1 h3
    rwa [show ((x.toNat : Nat) : Int) = x from by omega] at this
  · intro hx
    have := asc_range h x hx
    exact ⟨this.1, this.2, (setOf_bit (fun y hy => (asc_range h y hy).1) _).2 (by rwa [show ((x.toNat : Nat) : Int) = x from by omega])⟩
/-- How many pairs of equal elements two lists have. -/
def common (a b : List Int) : Nat := (a.map fun x => b.count x).sum
theorem common_snoc (a b : List Int) (x : Int) : common (a ++ [x]) b = common a b + b.count x := by simp [common]
theorem count_snoc (b : List Int) (y x : Int) : (b ++ [y]).count x = b.count x + if y = x then 1 else 0 := by
  rw [List.count_append, List.count_singleton]
  by_cases h : y = x <;> simp [h]
theorem common_size {a b : List Int} (ha : asc a) (hb : asc b) : common a b = size (setOf a &&& setOf b) := by
  have hnd : b.Nodup := (asc_pairwise hb).imp (fun h => by omega)
  have h1 : ∀ l : List Int, (l.map fun x => b.count x).sum = (l.filter fun x => decide (x ∈ b)).length := by
    intro l
    induction l with
    | nil => rfl
    | cons x l ih =>
      rw [List.map_cons, List.sum_cons, ih]
      by_cases hx : x ∈ b
      · rw [List.filter_cons_of_pos (by simpa using hx), List.Nodup.count hnd, if_pos hx]; simp; omega
      · rw [List.filter_cons_of_neg (by simpa using hx), List.count_eq_zero_of_not_mem hx]; simp
  unfold common
  rw [h1]
  conv => lhs; rw [← vertsZ_setOf ha]
  unfold vertsZ size verts
  rw [List.filter_map, List.length_map, List.filter_filter]
  congr 1
  apply List.filter_congr
  intro j hj
  simp only [Function.comp, Nat.testBit_and]
  rw [Bool.and_comm]
  congr 1
  rw [Bool.eq_iff_iff, setOf_bit (fun y hy => (asc_range hb y hy).1)]
  simp
/-- One pair of lists is looked at by the reference. -/
def rpair (ls : List (List Int)) (inn : Nat → Bool) (i : Nat) (b : Int × Int × Int) (k : Nat) : Int × Int × Int :=
  if inn i = false ∧ inn k = true ∧ b.2.2 < ((common (ls.getD i []) (ls.getD k []) : Nat) : Int) then ((i : Int), (k : Int), ((common (ls.getD i []) (ls.getD k []) : Nat) : Int)) else b
def rrow (ls : List (List Int)) (inn : Nat → Bool) (i : Nat) (b : Int × Int × Int) (k : Nat) : Int × Int × Int := (List.range k).foldl (rpair ls inn i) b
theorem rrow_succ (ls : List (List Int)) (inn : Nat → Bool) (i : Nat) (b : Int × Int × Int) (k : Nat) : rrow ls inn i b (k + 1) = rpair ls inn i (rrow ls inn i b k) k := by
  simp [rrow, List.range_succ, List.foldl_append]
def rall (ls : List (List Int)) (inn : Nat → Bool) (m : Nat) : Nat → Int × Int × Int
  | 0 => (0, -1, -1)
  | i + 1 => rrow ls inn i (rall ls inn m i) m
def updF {α : Type} (f : Nat → α) (i : Nat) (x : α) : Nat → α := fun k => if k = i then x else f k
/-- What the reference has after r rounds: which lists are in the tree, and the parents. -/
def rtree (ls : List (List Int)) : Nat → (Nat → Bool) × (Nat → Int)
  | 0 => (fun _ => false, fun _ => 0)
  | r + 1 =>
    let b := rall ls (rtree ls r).1 ls.length ls.length
    (updF (rtree ls r).1 b.1.toNat true, updF (rtree ls r).2 b.1.toNat (if b.2.2 ≤ 0 then -1 else b.2.1))
/-- The reference's choice is a list of the table. -/
theorem rall_lt {ls : List (List Int)} {inn : Nat → Bool} {m : Nat} (hm : 0 < m) : ∀ i, i ≤ m → 0 ≤ (rall ls inn m i).1 ∧ (rall ls inn m i).1 < m := by
  have hrow : ∀ i (b : Int × Int × Int), i < m → (0 ≤ b.1 ∧ b.1 < m) → ∀ k, 0 ≤ (rrow ls inn i b k).1 ∧ (rrow ls inn i b k).1 < m := by
    intro i b hi hb k
    induction k with
    | zero => exact hb
    | succ k ih =>
      rw [rrow_succ]
      unfold rpair
      split
      · dsimp only; omega
      · exact ih
  intro i
  induction i with
  | zero => intro _; simp [rall]; omega
  | succ i ih => intro hi; exact hrow i _ (by omega) (ih (by omega)) m
theorem rall_none {ls : List (List Int)} {inn : Nat → Bool} {m : Nat} (h : ∀ k, inn k = false) : ∀ i, rall ls inn m i = (0, -1, -1)
  | 0 => rfl
  | i + 1 => by
    have : ∀ k, rrow ls inn i (rall ls inn m i) k = rall ls inn m i := by
      intro k
      induction k with
      | zero => rfl
      | succ k ih => rw [rrow_succ, ih]; unfold rpair; rw [if_neg (fun hc => by rw [h k] at hc; cases hc.2.1)]
    show rrow ls inn i (rall ls inn m i) m = _
    rw [this, rall_none h i]
/-- Both choose alike, as long as the reference has chosen something. -/
theorem rall_all {ls : List (List Int)} (ha : ∀ l ∈ ls, asc l) {inn : Nat → Bool} {inT m : Nat} (hm : m = ls.length) (hi : ∀ i, i < m → inn i = inT.testBit i) :
    ∀ i, i ≤ m → (rall ls inn m i = allTo (ls.map setOf) inT m i) ∨ (rall ls inn m i = (0, -1, -1) ∧ allTo (ls.map setOf) inT m i = (-1, -1, -1)) := by
  have hpair : ∀ i k, i < m → k < m → ∀ b c : Int × Int × Int, (b = c ∨ (b = (0, -1, -1) ∧ c = (-1, -1, -1))) →
      (rpair ls inn i b k = pairStep (ls.map setOf) inT i c k ∨ (rpair ls inn i b k = (0, -1, -1) ∧ pairStep (ls.map setOf) inT i c k = (-1, -1, -1))) := by
    intro i k hii hk b c hbc
    have e1 : ls.getD i [] = ls[i] := by simp [show i < ls.length by omega]
    have e2 : ls.getD k [] = ls[k] := by simp [show k < ls.length by omega]
    have e3 : (ls.map setOf).getD i 0 = setOf ls[i] := by simp [show i < ls.length by omega]
    have e4 : (ls.map setOf).getD k 0 = setOf ls[k] := by simp [show k < ls.length by omega]
    have hc := common_size (ha ls[i] (List.getElem_mem _)) (ha ls[k] (List.getElem_mem _))
    have h22 : b.2.2 = c.2.2 := by rcases hbc with rfl | ⟨rfl, rfl⟩ <;> rfl
    unfold rpair pairStep
    rw [e1, e2, e3, e4, hc, hi i hii, hi k hk, h22]
    split
    · exact .inl rfl
    · exact hbc
  have hrow : ∀ i, i < m → ∀ b c : Int × Int × Int, (b = c ∨ (b = (0, -1, -1) ∧ c = (-1, -1, -1))) → ∀ k, k ≤ m →
      (rrow ls inn i b k = rowTo (ls.map setOf) inT i c k ∨ (rrow ls inn i b k = (0, -1, -1) ∧ rowTo (ls.map setOf) inT i c k = (-1, -1, -1))) := by
    intro i hii b c hbc k
    induction k with
    | zero => intro _; exact hbc
    | succ k ih =>
      intro hk
      rw [rrow_succ, rowTo_succ]
      exact hpair i k hii (by omega) _ _ (ih (by omega))
  intro i
  induction i with
  | zero => intro _; exact .inr ⟨rfl, rfl⟩
  | succ i ih => intro hi2; exact hrow i (by omega) _ _ (ih (by omega)) m (Nat.le_refl _)
structure Alike (ls : List (List Int)) (r : Nat) : Prop where
  inn : ∀ i, i < ls.length → (rtree ls (r + 1)).1 i = (treeTo (ls.map setOf) r).1.testBit i
  out : ∀ i, i < ls.length → (rtree ls (r + 1)).1 i = true → (rtree ls (r + 1)).2 i = (treeTo (ls.map setOf) r).2.getD i 0
  rest : ∀ i, i < ls.length → (rtree ls (r + 1)).1 i = false → (treeTo (ls.map setOf) r).2.getD i 0 = -1
  many : r + 1 ≤ ((List.range ls.length).filter (rtree ls (r + 1)).1).length
theorem filter_one_more {p q : Nat → Bool} {b n : Nat} (hb : b < n) (h0 : p b = false) (h1 : q b = true) (h2 : ∀ i, p i = true → q i = true) : ((List.range n).filter p).length + 1 ≤ ((List.range n).filter q).length := by
  have hle : ∀ l : List Nat, (l.filter p).length ≤ (l.filter q).length := by
    intro l
    induction l with
    | nil => simp
    | cons x l ih =>
      by_cases hp : p x = true
      · simp [hp, h2 x hp]; omega
      · by_cases hq : q x = true <;> simp [hp, hq] <;> omega
  have : ∀ l : List Nat, b ∈ l → (l.filter p).length + 1 ≤ (l.filter q).length := by
    intro l
    induction l with
    | nil => simp
    | cons x l ih =>
      intro hm
      by_cases e : x = b
      · subst e
        have := hle l
        simp [h0, h1]; omega
      · have := ih ((List.mem_cons.1 hm).resolve_left (fun e2 => e e2.symm))
        by_cases hp : p x = true
        · simp [hp, h2 x hp]; omega
        · by_cases hq : q x = true <;> simp [hp, hq] <;> omega
  exact this _ (by simpa using hb)
theorem alike {ls : List (List Int)} (ha : ∀ l ∈ ls, asc l) (hm : ls.length ≤ 64) (h0 : 0 < ls.length) : ∀ r, r + 1 ≤ ls.length → Alike ls r
  | 0, _ => by
    have e : rtree ls 1 = (updF (fun _ => false) 0 true, updF (fun _ => 0) 0 (-1)) := by
      simp only [rtree, rall_none (ls := ls) (inn := fun _ => false) (m := ls.length) (fun _ => rfl)]
      rfl
    refine ⟨fun i hi => ?_, fun i hi h => ?_, fun i hi h => ?_, ?_⟩
    · rw [e]; simp only [treeTo, updF, bset_bit]
      by_cases h : i = 0
      · simp [h]
      · have : ¬ 0 = i := fun e => h e.symm
        simp [h, this]
    · rw [e] at h ⊢
      simp only [updF] at h ⊢
      by_cases h2 : i = 0
      · subst h2; simp [treeTo, h0]
      · rw [if_neg h2] at h; cases h
    · simp [treeTo, hi]
    · rw [e]
      have := filter_one_more (p := fun _ => false) (q := updF (fun _ => false) 0 true) (b := 0) (n := ls.length) h0 rfl rfl (by simp)
      simp only at this ⊢
      omega
  | r + 1, hr => by
    have ih := alike ha hm h0 r (by omega)
    have hg := grows (sets := ls.map setOf) (by simpa using hm) (by simpa using h0) r (by simp; omega)
    obtain ⟨i0, k0, c0, hi0, hk0, hf, ht, he⟩ := tree_best hg (by simp; omega)
    rw [List.length_map] at hi0 hk0 he
    have hra : rall ls (rtree ls (r + 1)).1 ls.length ls.length = ((i0 : Int), (k0 : Int), (c0 : Int)) := by
      rcases rall_all ha (inn := (rtree ls (r + 1)).1) (inT := (treeTo (ls.map setOf) r).1) rfl ih.inn ls.length (Nat.le_refl _) with h | ⟨_, h⟩
      · rw [h, he]
      · rw [he] at h
        have := congrArg (fun x => x.1) h
        simp at this
    have e1 : rtree ls (r + 1 + 1) = (updF (rtree ls (r + 1)).1 i0 true, updF (rtree ls (r + 1)).2 i0 (if (c0 : Int) ≤ 0 then -1 else (k0 : Int))) := by
      show (let b := rall ls (rtree ls (r + 1)).1 ls.length ls.length
            (updF (rtree ls (r + 1)).1 b.1.toNat true, updF (rtree ls (r + 1)).2 b.1.toNat (if b.2.2 ≤ 0 then -1 else b.2.1))) = _
      rw [hra]; rfl
    have e2 : treeTo (ls.map setOf) (r + 1) = (bset (treeTo (ls.map setOf) r).1 i0, if (0 : Int) < (c0 : Int) then (treeTo (ls.map setOf) r).2.set i0 (k0 : Int) else (treeTo (ls.map setOf) r).2) := by
      simp only [treeTo, List.length_map, he]; rfl
    have hlen := hg.len
    rw [List.length_map] at hlen
    have hfi : (rtree ls (r + 1)).1 i0 = false := by rw [ih.inn i0 hi0]; exact hf
    have hrest := ih.rest i0 hi0 hfi
    refine ⟨fun i hi => ?_, fun i hi h => ?_, fun i hi h => ?_, ?_⟩
    · rw [e1, e2]; simp only [updF, bset_bit]
      by_cases h : i = i0
      · simp [h]
      · have : ¬ i0 = i := fun e => h e.symm
        simp [h, this, ih.inn i hi]
    · rw [e1] at h ⊢
      rw [e2]
      simp only [updF] at h ⊢
      by_cases h2 : i = i0
      · subst h2
        rw [if_pos rfl]
        by_cases hc : (0 : Int) < (c0 : Int)
        · rw [if_pos hc, if_neg (by omega)]; simp [hlen, hi]
        · rw [if_neg hc, if_pos (by omega), hrest]
      · rw [if_neg h2] at h ⊢
        have := ih.out i hi h
        rw [this]
        split
        · rw [List.getD_eq_getElem?_getD, List.getD_eq_getElem?_getD, List.getElem?_set_ne (fun e => h2 e.symm)]
        · rfl
    · rw [e1] at h
      rw [e2]
      simp only [updF] at h ⊢
      by_cases h2 : i = i0
      · rw [if_pos h2] at h; cases h
      · rw [if_neg h2] at h
        have := ih.rest i hi h
        split
        · rw [List.getD_eq_getElem?_getD, List.getElem?_set_ne (fun e => h2 e.symm), ← List.getD_eq_getElem?_getD]; exact this
        · exact this
    · rw [e1]
      have := filter_one_more (p := (rtree ls (r + 1)).1) (q := updF (rtree ls (r + 1)).1 i0 true) (b := i0) (n := ls.length) hi0 hfi (by simp [updF]) (by
        intro i h; unfold updF; split
        · rfl
        · exact h)
      have := ih.many
      dsimp only
      omega
theorem filter_full {p : Nat → Bool} {n : Nat} (h : n ≤ ((List.range n).filter p).length) : ∀ i, i < n → p i = true := by
  intro i hi
  have h1 : ((List.range n).filter p).length ≤ (List.range n).length := List.length_filter_le _ _
  rw [List.length_range] at h1
  have := List.length_filter_eq_length_iff.1 (show ((List.range n).filter p).length = (List.range n).length by rw [List.length_range]; omega)
  exact this i (by simpa using hi)
/-- The reference's parents are the library's. -/
theorem rtree_tree {ls : List (List Int)} (ha : ∀ l ∈ ls, asc l) (hm : ls.length ≤ 64) : (List.range ls.length).map (rtree ls ls.length).2 = tree (ls.map setOf) := by
  by_cases h0 : 0 < ls.length
  · have hA := alike ha hm h0 (ls.length - 1) (by omega)
    have hg := grows (sets := ls.map setOf) (by simpa using hm) (by simpa using h0) (ls.length - 1) (by simp; omega)
    have e : ls.length - 1 + 1 = ls.length := by omega
    obtain ⟨_, ho, _, hmany⟩ := hA
    rw [e] at ho hmany
    have hall := filter_full hmany
    unfold tree
    rw [List.length_map]
    have hl := hg.len
    rw [List.length_map] at hl
    apply List.ext_getElem
    · simp [hl]
    · intro i h1 h2
      have hi : i < ls.length := by simpa using h1
      rw [List.getElem_map, List.getElem_range, ho i hi (hall i hi)]
      simp [List.getD_eq_getElem?_getD, List.getElem?_eq_getElem h2]
  · have : ls = [] := List.eq_nil_of_length_eq_zero (by omega)
    subst this
    rfl
end Go.Gr
