/- Parts of the proof: E2, C1, E3, E4, N2, E6, E8, SP0, SP1, SP2. -/
import Derived.Test.YtodapfjmgnekkaaGreatDoorMU0
import Derived.Test.YtodapfjmgnekkaaGreatDoorMU1
import Derived.Test.YtodapfjmgnekkaaGreatDoorMU3
section
/- Parities: the inner product modulo 2 of a list of exponents and a sign vector, by sums and by bits. Plain numbers. -/
namespace Go.Ev
open Go.Gr
def pr (row : List Int) (x : Nat) : Nat → Nat
  | 0 => 0
  | i + 1 => pr row x i + (if x.testBit i = true then (row.getD i 0).toNat else 0)
theorem pr_xor (row : List Int) (x y : Nat) : ∀ n, pr row (x ^^^ y) n % 2 = (pr row x n + pr row y n) % 2
  | 0 => rfl
  | n + 1 => by
    have ih := pr_xor row x y n
    simp only [pr, Nat.testBit_xor]
    cases x.testBit n <;> cases y.testBit n <;> simp <;> omega
/-- The sign vectors of n variables that are orthogonal to all rows. -/
def V (rows : List (List Int)) (n x : Nat) : Prop := x < 2 ^ n ∧ ∀ row ∈ rows, pr row x n % 2 = 0
theorem V_space (rows : List (List Int)) (n : Nat) : Space (V rows n) n :=
  ⟨fun _ h => h.1, fun x y hx hy => ⟨Nat.xor_lt_two_pow hx.1 hy.1, fun row hr => by
    have := pr_xor row x y n
    have h1 := hx.2 row hr
    have h2 := hy.2 row hr
    omega⟩⟩
/-- A list of numbers as bits: bit i is the parity of number i. -/
def pk (l : List Int) : Nat → Nat
  | 0 => 0
  | k + 1 => pk l k ^^^ (((l.getD k 0).toNat % 2) <<< k)
theorem pk_bit (l : List Int) (b : Nat) : ∀ k, (pk l k).testBit b = (decide (b < k) && decide ((l.getD b 0).toNat % 2 = 1))
  | 0 => by simp [pk]
  | k + 1 => by
    rw [pk, Nat.testBit_xor, pk_bit l b k, Nat.testBit_shiftLeft]
    have h01 : (l.getD k 0).toNat % 2 = 0 ∨ (l.getD k 0).toNat % 2 = 1 := by omega
    by_cases e : b = k
    · subst e
      rcases h01 with h | h <;> rw [h] <;> simp
    · by_cases hlt : b < k
      · simp [hlt, show b < k + 1 by omega, show ¬ k ≤ b by omega]
      · have : k ≤ b := by omega
        simp only [hlt, show ¬ b < k + 1 by omega, decide_false, Bool.false_and, Bool.false_xor, ge_iff_le, this, decide_true, Bool.true_and]
        rcases h01 with h | h
        · rw [h]; simp
        · rw [h]
          exact Nat.testBit_lt_two_pow (i := b - k) (x := 1) (Nat.lt_of_lt_of_le (show 1 < 2 ^ 1 by decide) (Nat.pow_le_pow_right (by omega) (by omega)))
theorem pk_lt (l : List Int) (k : Nat) : pk l k < 2 ^ k := by
  apply Nat.lt_pow_two_of_testBit
  intro i hi
  rw [pk_bit]; simp; omega
theorem cnt_and (l : List Int) (x k : Nat) : ∀ n, n ≤ k → ((List.range n).filter (x &&& pk l k).testBit).length % 2 = pr l x n % 2
  | 0, _ => rfl
  | n + 1, h => by
    have ih := cnt_and l x k n (by omega)
    rw [List.range_succ, List.filter_append, List.length_append, pr]
    simp only [List.filter_cons, List.filter_nil, Nat.testBit_and, pk_bit, show n < k by omega, decide_true, Bool.true_and]
    cases x.testBit n
    · simp; omega
    · by_cases h2 : (l.getD n 0).toNat % 2 = 1
      · simp only [h2, decide_true, Bool.and_true, if_true, List.length_singleton]; omega
      · simp only [h2, decide_false, Bool.and_false, Bool.false_eq_true, if_false, if_true, List.length_nil]; omega
theorem cnt_high (z k : Nat) (hz : z < 2 ^ k) : ∀ m, ((List.range (k + m)).filter z.testBit).length = ((List.range k).filter z.testBit).length
  | 0 => rfl
  | m + 1 => by
    have : z.testBit (k + m) = false := Nat.testBit_lt_two_pow (Nat.lt_of_lt_of_le hz (Nat.pow_le_pow_right (by omega) (by omega)))
    rw [show k + (m + 1) = k + m + 1 from rfl, List.range_succ, List.filter_append, List.length_append, cnt_high z k hz m]
    simp [this]
/-- The number of common bits of a sign vector and the packed exponents is odd exactly if the inner product is. -/
theorem size_and (l : List Int) (x k : Nat) (hk : k ≤ 64) : size (x &&& pk l k) % 2 = pr l x k % 2 := by
  have hz : x &&& pk l k < 2 ^ k := Nat.lt_of_le_of_lt Nat.and_le_right (pk_lt l k)
  have := cnt_high _ k hz (64 - k)
  rw [show k + (64 - k) = 64 by omega] at this
  unfold size verts
  rw [this]
  exact cnt_and l x k k (Nat.le_refl _)
/-- The inner product of two lists. -/
def dotN (a s : List Int) : Nat → Int
  | 0 => 0
  | i + 1 => dotN a s i + a.getD i 0 * s.getD i 0
/-- A list of zeros and ones. -/
def Bit01 (s : List Int) : Prop := ∀ x ∈ s, x = 0 ∨ x = 1
theorem getD_mem (s : List Int) (i : Nat) (h : i < s.length) : s.getD i 0 ∈ s := by
  rw [List.getD_eq_getElem?_getD, List.getElem?_eq_getElem h, Option.getD_some]; exact List.getElem_mem h
theorem dotN_pr (a s : List Int) (k : Nat) (hs : Bit01 s) (hk : k = s.length) (ha : ∀ x ∈ a, 0 ≤ x) : ∀ n, n ≤ k → dotN a s n = (pr a (pk s k) n : Nat)
  | 0, _ => rfl
  | n + 1, h => by
    have h0 : 0 ≤ a.getD n 0 := by
      rcases Nat.lt_or_ge n a.length with h1 | h1
      · exact ha _ (getD_mem a n h1)
      · rw [List.getD_eq_getElem?_getD, List.getElem?_eq_none h1]; simp
    rw [dotN, pr, dotN_pr a s k hs hk ha n (by omega), pk_bit]
    simp only [show n < k by omega, decide_true, Bool.true_and]
    generalize a.getD n 0 = x at *
    rcases hs _ (getD_mem s n (by omega)) with e | e <;> rw [e] <;> simp
    omega
/-- A sign vector as a list. -/
def unp (x n : Nat) : List Int := (List.range n).map fun i => if x.testBit i = true then 1 else 0
theorem unp_len (x n : Nat) : (unp x n).length = n := by simp [unp]
theorem unp_getD (x n i : Nat) (h : i < n) : (unp x n).getD i 0 = if x.testBit i = true then 1 else 0 := by
  unfold unp
  rw [List.getD_eq_getElem?_getD, List.getElem?_map, List.getElem?_range h]; rfl
theorem unp_bit (x n : Nat) : Bit01 (unp x n) := by
  intro v hv
  obtain ⟨i, _, rfl⟩ := List.mem_map.1 hv
  split <;> simp
theorem pk_unp {x n : Nat} (hx : x < 2 ^ n) : pk (unp x n) n = x := by
  refine Nat.eq_of_testBit_eq fun b => ?_
  rw [pk_bit]
  by_cases hb : b < n
  · rw [unp_getD x n b hb]
    cases x.testBit b <;> simp [hb]
  · simp [hb]
    exact (Nat.testBit_lt_two_pow (Nat.lt_of_lt_of_le hx (Nat.pow_le_pow_right (n := 2) (by omega) (by omega : n ≤ b))))
end Go.Ev
end
section
/- Characters and classes of monomials. Plain lists. -/
namespace Go.Ev
open Go.Gr Go.Mo
def b01 (l : List Int) : Bool := l.all fun x => x == 0 || x == 1
theorem b01_iff {l : List Int} : b01 l = true ↔ Bit01 l := by unfold b01 Bit01; simp
def badM (l : List (List Int)) : Bool := l.any fun m => !vldM m
def badS (s : List (List Int)) : Bool := s.any fun v => !b01 v
def diffL (s l : List (List Int)) : Bool := s.any fun v => l.any fun m => decide (v.length ≠ m.length)
/-- The error of sign vectors and monomials. -/
def chk (s l : List (List Int)) : Int := if badM l = true ∨ badS s = true then 1 else if diffL s l = true then 4 else 0
theorem badM_iff {l : List (List Int)} : badM l = true ↔ ∃ m ∈ l, vldM m = false := by unfold badM; simp
theorem badS_iff {l : List (List Int)} : badS l = true ↔ ∃ m ∈ l, b01 m = false := by unfold badS; simp
theorem diffL_iff {s l : List (List Int)} : diffL s l = true ↔ ∃ v ∈ s, ∃ m ∈ l, v.length ≠ m.length := by unfold diffL; simp
theorem chk_bad {s l : List (List Int)} (h : (∃ m ∈ l, vldM m = false) ∨ ∃ v ∈ s, b01 v = false) : chk s l = 1 := by
  unfold chk
  rw [if_pos (h.imp badM_iff.2 badS_iff.2)]
theorem chk_diff {s l : List (List Int)} (h1 : ∀ m ∈ l, vldM m = true) (h2 : ∀ v ∈ s, b01 v = true) (h : ∃ v ∈ s, ∃ m ∈ l, v.length ≠ m.length) : chk s l = 4 := by
  unfold chk
  rw [if_neg, if_pos (diffL_iff.2 h)]
  rw [badM_iff, badS_iff]
  rintro (⟨m, hm, e⟩ | ⟨m, hm, e⟩)
  · rw [h1 m hm] at e; cases e
  · rw [h2 m hm] at e; cases e
theorem chk_ok {s l : List (List Int)} (h1 : ∀ m ∈ l, vldM m = true) (h2 : ∀ v ∈ s, b01 v = true) (h : ∀ v ∈ s, ∀ m ∈ l, v.length = m.length) : chk s l = 0 := by
  unfold chk
  rw [if_neg, if_neg]
  · rw [diffL_iff]
    rintro ⟨v, hv, m, hm, e⟩
    exact e (h v hv m hm)
  · rw [badM_iff, badS_iff]
    rintro (⟨m, hm, e⟩ | ⟨m, hm, e⟩)
    · rw [h1 m hm] at e; cases e
    · rw [h2 m hm] at e; cases e
theorem chk_inv {s l : List (List Int)} (h : chk s l = 0) : (∀ m ∈ l, vldM m = true) ∧ (∀ v ∈ s, b01 v = true) ∧ ∀ v ∈ s, ∀ m ∈ l, v.length = m.length := by
  unfold chk at h
  split at h
  · omega
  · rename_i h1
    split at h
    · omega
    · rename_i h2
      rw [badM_iff, badS_iff] at h1
      rw [diffL_iff] at h2
      refine ⟨fun m hm => ?_, fun v hv => ?_, fun v hv m hm => ?_⟩
      · cases e : vldM m with
        | true => rfl
        | false => exact absurd (.inl ⟨m, hm, e⟩) h1
      · cases e : b01 v with
        | true => rfl
        | false => exact absurd (.inr ⟨v, hv, e⟩) h1
      · apply Classical.byContradiction
        intro e
        exact h2 ⟨v, hv, m, hm, e⟩
/-- The character of a monomial. -/
def chr (s : List (List Int)) (m : List Int) : List Int := s.map fun v => dotN m v v.length % 2
theorem chr_len (s : List (List Int)) (m : List Int) : (chr s m).length = s.length := by simp [chr]
theorem chr_bit (s : List (List Int)) (m : List Int) : ∀ x ∈ chr s m, x = 0 ∨ x = 1 := by
  intro x hx
  obtain ⟨v, _, rfl⟩ := List.mem_map.1 hx
  omega
theorem chr_odd {m v : List Int} (hv : Bit01 v) (hm : ∀ x ∈ m, 0 ≤ x) (hl : v.length = m.length) (h64 : m.length ≤ 64) : (dotN m v v.length % 2 = if size (pk v v.length &&& pk m m.length) % 2 = 1 then 1 else 0) := by
  rw [size_and m _ m.length h64, dotN_pr m v v.length hv rfl hm v.length (Nat.le_refl _), hl]
  split <;> omega
/-- The classes: keys so far and the indices of each. -/
def clsSt (ks : List (List Int)) : Nat → List (List Int) × List (List Nat)
  | 0 => ([], [])
  | i + 1 =>
    let K := (clsSt ks i).1
    let C := (clsSt ks i).2
    let k := K.idxOf (ks.getD i [])
    if k < K.length then (K, C.set k (C.getD k [] ++ [i])) else (K ++ [ks.getD i []], C ++ [[i]])
theorem clsSt_len (ks : List (List Int)) : ∀ i, (clsSt ks i).1.length = (clsSt ks i).2.length ∧ (clsSt ks i).1.length ≤ i
  | 0 => by simp [clsSt]
  | i + 1 => by
    have ih := clsSt_len ks i
    simp only [clsSt]
    split
    · simp only [List.length_set]; omega
    · simp only [List.length_append, List.length_cons, List.length_nil]; omega
theorem clsSt_old {ks : List (List Int)} {i : Nat} (h : (clsSt ks i).1.idxOf (ks.getD i []) < (clsSt ks i).1.length) : clsSt ks (i + 1) = ((clsSt ks i).1, (clsSt ks i).2.set ((clsSt ks i).1.idxOf (ks.getD i [])) ((clsSt ks i).2.getD ((clsSt ks i).1.idxOf (ks.getD i [])) [] ++ [i])) := by
  simp only [clsSt]; rw [if_pos h]
theorem clsSt_new {ks : List (List Int)} {i : Nat} (h : ¬ (clsSt ks i).1.idxOf (ks.getD i []) < (clsSt ks i).1.length) : clsSt ks (i + 1) = ((clsSt ks i).1 ++ [ks.getD i []], (clsSt ks i).2 ++ [[i]]) := by
  simp only [clsSt]; rw [if_neg h]
theorem clsSt_each (ks : List (List Int)) : ∀ i j, ((clsSt ks i).2.getD j []).length ≤ i
  | 0, j => by simp [clsSt]
  | i + 1, j => by
    have ih := clsSt_each ks i
    by_cases hc : (clsSt ks i).1.idxOf (ks.getD i []) < (clsSt ks i).1.length
    · rw [clsSt_old hc]
      have hk := (clsSt_len ks i).1
      generalize (clsSt ks i).1.idxOf (ks.getD i []) = k at *
      have h1 := ih j
      have h2 := ih k
      generalize (clsSt ks i).2 = C at *
      simp only [List.getD_eq_getElem?_getD, List.getElem?_set] at h1 h2 ⊢
      by_cases e : k = j
      · subst e
        rw [if_pos rfl, if_pos (by omega)]
        simp only [Option.getD_some, List.length_append, List.length_cons, List.length_nil]
        omega
      · rw [if_neg e]; omega
    · rw [clsSt_new hc]
      have h1 := ih j
      generalize (clsSt ks i).2 = C at *
      simp only [List.getD_eq_getElem?_getD] at h1 ⊢
      rcases Nat.lt_or_ge j C.length with h | h
      · rw [List.getElem?_append_left h]; omega
      · rw [List.getElem?_append_right h]
        cases hh : j - C.length with
        | zero => simp
        | succ z => simp
end Go.Ev
end
section
/- Sign symmetries: what the search over all sign vectors finds. Plain numbers. -/
namespace Go.Ev
open Go.Gr
/-- The parities of the rows, as marks. -/
def occF (rows : List (List Int)) (i : Nat) : Bool := rows.any fun r => pk r r.length == i
theorem occF_app (rows : List (List Int)) (r : List Int) (i : Nat) : occF (rows ++ [r]) i = (occF rows i || (pk r r.length == i)) := by
  unfold occF; rw [List.any_append]; simp
/-- A sign vector that has an even number of bits in common with each marked number. -/
def goodS (f : Nat → Bool) (x : Nat) : Bool := (List.range 64).all fun e => !(f e && decide (size (x &&& e) % 2 = 1))
theorem goodS_iff {f : Nat → Bool} {x : Nat} : goodS f x = true ↔ ∀ e, e < 64 → f e = true → size (x &&& e) % 2 ≠ 1 := by
  unfold goodS
  rw [List.all_eq_true]
  constructor
  · intro h e he hf
    have := h e (List.mem_range.2 he)
    simpa [hf] using this
  · intro h e he
    have := h e (List.mem_range.1 he)
    cases hf : f e with
    | false => rfl
    | true => simpa using this hf
theorem good_V {rows : List (List Int)} {n x : Nat} (hn : n ≤ 6) (hx : x < 2 ^ n) (hr : ∀ r ∈ rows, r.length = n) : goodS (occF rows) x = true ↔ V rows n x := by
  have h6 : 2 ^ n ≤ 2 ^ 6 := Nat.pow_le_pow_right (by omega) hn
  rw [goodS_iff]
  constructor
  · intro h
    refine ⟨hx, fun r hr' => ?_⟩
    have hl := hr r hr'
    have hp := pk_lt r r.length
    rw [hl] at hp
    have := h (pk r n) (by omega) (by unfold occF; exact List.any_eq_true.2 ⟨r, hr', by rw [hl]; simp⟩)
    rw [size_and r x n (by omega)] at this
    omega
  · intro h e he hf
    unfold occF at hf
    obtain ⟨r, hr', hre⟩ := List.any_eq_true.1 hf
    have hl := hr r hr'
    have e2 : pk r n = e := by rw [hl] at hre; simpa using hre
    rw [← e2, size_and r x n (by omega), h.2 r hr']
    decide
/-- The vectors that the search has found below s. -/
def fnd (f : Nat → Bool) (s : Nat) : List Nat := (List.range s).filter fun x => decide (0 < x) && goodS f x
theorem fnd_succ (f : Nat → Bool) (s : Nat) (hs : 0 < s) : fnd f (s + 1) = fnd f s ++ (if goodS f s = true then [s] else []) := by
  unfold fnd
  rw [List.range_succ, List.filter_append]
  congr 1
  simp [List.filter_cons, hs]
theorem fnd_one (f : Nat → Bool) : fnd f 1 = [] := rfl
theorem fnd_len (f : Nat → Bool) (s : Nat) : (fnd f s).length ≤ s := by
  unfold fnd
  exact Nat.le_trans (List.length_filter_le _ _) (by simp)
theorem fnd_space {rows : List (List Int)} {n : Nat} (hn : n ≤ 6) (hr : ∀ r ∈ rows, r.length = n) :
    (∀ v ∈ fnd (occF rows) (2 ^ n), V rows n v) ∧ ∀ x, V rows n x → Span (fnd (occF rows) (2 ^ n)) x := by
  constructor
  · intro v hv
    obtain ⟨h1, h2⟩ := List.mem_filter.1 hv
    have h1 := List.mem_range.1 h1
    rw [Bool.and_eq_true] at h2
    exact (good_V hn h1 hr).1 h2.2
  · intro x hx
    by_cases h0 : x = 0
    · subst h0; exact .zero
    · exact Span.mem (List.mem_filter.2 ⟨List.mem_range.2 hx.1, by rw [(good_V hn hx.1 hr).2 hx, decide_eq_true (Nat.pos_of_ne_zero h0)]; rfl⟩)
end Go.Ev
end
section
/- The reduced vectors, by search: a test that can be run. Plain numbers. -/
namespace Go.Ev
def Vb (rows : List (List Int)) (n x : Nat) : Bool := decide (x < 2 ^ n) && rows.all fun r => pr r x n % 2 == 0
theorem Vb_iff {rows : List (List Int)} {n x : Nat} : Vb rows n x = true ↔ V rows n x := by unfold Vb V; simp
def leadB (x k : Nat) : Bool := x.testBit k && (List.range k).all fun b => !x.testBit b
theorem leadB_iff {x k : Nat} : leadB x k = true ↔ Lead x k := by unfold leadB Lead; simp
def redB (rows : List (List Int)) (n x : Nat) : Bool := (List.range (2 ^ n)).all fun t => (List.range n).all fun k => (List.range n).all fun l => !(Vb rows n t && leadB t k && leadB x l && decide (l < k) && x.testBit k)
theorem redB_iff {rows : List (List Int)} {n x : Nat} (hx : x < 2 ^ n) : redB rows n x = true ↔ Red (V rows n) x := by
  unfold redB Red
  simp only [List.all_eq_true, List.mem_range]
  constructor
  · intro h t k l ht hk hl hlk
    have := h t ht.1 k (lead_lt ht.1 hk) l (lead_lt hx hl)
    cases hb : x.testBit k with
    | false => rfl
    | true => rw [Vb_iff.2 ht, leadB_iff.2 hk, leadB_iff.2 hl, decide_eq_true hlk, hb] at this; cases this
  · intro h t _ k _ l _
    by_cases hc : V rows n t ∧ Lead t k ∧ Lead x l ∧ l < k
    · rw [h t k l hc.1 hc.2.1 hc.2.2.1 hc.2.2.2]; simp
    · cases hv : Vb rows n t with
      | false => rfl
      | true =>
        cases h1 : leadB t k with
        | false => rfl
        | true =>
          cases h2 : leadB x l with
          | false => rfl
          | true =>
            have : ¬ l < k := fun h3 => hc ⟨Vb_iff.1 hv, leadB_iff.1 h1, leadB_iff.1 h2, h3⟩
            rw [decide_eq_false this]; rfl
def keepB (rows : List (List Int)) (n x : Nat) : Bool := Vb rows n x && redB rows n x
/-- The rows of the echelon form are those that the search keeps. -/
theorem rows_keep {rows : List (List Int)} {n r : Nat} {us : List Nat} {p : Nat → Nat} (h : EInv (V rows n) n us r p) : us.take r = kern (keepB rows n) n (2 ^ n - 1) :=
  rows_kern h (V_space rows n) (keepB rows n) (fun x _ hx => by unfold keepB; rw [Bool.and_eq_true, Vb_iff, redB_iff hx])
end Go.Ev
end
section
/- The text of a number's negative; a sign vector applied to a polynomial. -/
namespace Go.Mo
open Go.Qn Go.Lib
def negL (l : List UInt8) : List UInt8 := if l.head? = some 45 then l.tail else 45 :: l
theorem negL_text {b : Bool} {n d : Nat} : negL (text b n d) = text (!b) n d := by
  cases b with
  | true => simp [negL, text]
  | false =>
    have hne := dec_ne n
    have hh : (text false n d).head? ≠ some 45 := by
      unfold text
      simp only [Bool.false_eq_true, if_false, List.nil_append]
      rw [List.head?_append]
      cases hx : decDigits n with
      | nil => exact absurd hx hne
      | cons c t =>
        simp only [List.head?_cons, Option.some_or]
        intro e
        injection e with e
        have := dec_allD n c (by rw [hx]; simp)
        rw [e] at this
        exact absurd this (by decide)
    unfold negL
    rw [if_neg hh]
    simp [text]
theorem rd_neg {l : List UInt8} {b : Bool} {n d : Nat} (h : rd l = some (b, n, d)) (h0 : n ≠ 0) : rd (negL l) = some (!b, n, d) := by
  obtain ⟨hc, rfl⟩ := rd_some h
  rw [negL_text]
  exact rd_text ⟨hc.1, hc.2.1, fun e => absurd e h0⟩
theorem negL_negL {l : List UInt8} {b : Bool} {n d : Nat} (h : rd l = some (b, n, d)) : negL (negL l) = l := by
  obtain ⟨hc, rfl⟩ := rd_some h
  rw [negL_text, negL_text, Bool.not_not]
theorem negL_len (l : List UInt8) : (negL l).length ≤ l.length + 1 := by
  unfold negL; split
  · rw [List.length_tail]; omega
  · simp
theorem negL_ne (l : List UInt8) : negL l ≠ l := by
  intro h
  have := congrArg List.length h
  unfold negL at this
  split at this
  · rename_i h1
    cases l with
    | nil => simp at h1
    | cons c t => simp at this
  · simp at this
def negB (s : ByteArray) : ByteArray := ⟨(negL s.data.toList).toArray⟩
theorem negB_data (s : ByteArray) : (negB s).data.toList = negL s.data.toList := by simp [negB]
theorem coef_some {s : ByteArray} (h : coefOk s = true) : ∃ b n d, rd s.data.toList = some (b, n, d) ∧ n ≠ 0 := by
  unfold coefOk at h
  split at h
  · rename_i b n d hr
    exact ⟨b, n, d, hr, by simpa using h⟩
  · cases h
theorem coef_neg {s : ByteArray} (h : coefOk s = true) : coefOk (negB s) = true := by
  obtain ⟨b, n, d, hr, h0⟩ := coef_some h
  unfold coefOk
  rw [negB_data, rd_neg hr h0]
  simpa using h0
theorem negB_negB {s : ByteArray} (h : coefOk s = true) : negB (negB s) = s := by
  obtain ⟨b, n, d, hr, h0⟩ := coef_some h
  have : (negB (negB s)).data.toList = s.data.toList := by rw [negB_data, negB_data, negL_negL hr]
  cases s
  rename_i dt
  have e : (negB (negB ⟨dt⟩)).data = dt := Array.toList_inj.1 this
  exact congrArg ByteArray.mk e
theorem negB_ne (s : ByteArray) : negB s ≠ s := by
  intro h
  have : (negB s).data.toList = s.data.toList := by rw [h]
  rw [negB_data] at this
  exact negL_ne _ this
theorem negB_size (s : ByteArray) : (negB s).size ≤ s.size + 1 := by
  have h1 := negL_len s.data.toList
  have h2 : (negB s).size = (negL s.data.toList).length := rfl
  have h3 : s.data.toList.length = s.size := rfl
  omega
/-! A sign vector applied. -/
def oddT (s e : List Int) : Bool := decide (Gr.size (Ev.pk s s.length &&& Ev.pk e e.length) % 2 = 1)
def appT (s : List Int) (t : Term) : Term := if oddT s t.2 = true then (negB t.1, t.2) else t
theorem appT_exps (s : List Int) (t : Term) : (appT s t).2 = t.2 := by unfold appT; split <;> rfl
theorem appT_ok {s : List Int} {v : Int} {t : Term} (h : termOk v t = true) : termOk v (appT s t) = true := by
  rw [termOk_iff] at h ⊢
  rw [appT_exps]
  refine ⟨?_, h.2⟩
  unfold appT
  split
  · exact coef_neg h.1
  · exact h.1
theorem appT_appT {s : List Int} {v : Int} {t : Term} (h : termOk v t = true) : appT s (appT s t) = t := by
  rw [termOk_iff] at h
  by_cases ho : oddT s t.2 = true
  · have e1 : appT s t = (negB t.1, t.2) := if_pos ho
    rw [e1]
    unfold appT
    rw [if_pos ho, negB_negB h.1]
  · have e1 : appT s t = t := if_neg ho
    rw [e1, e1]
theorem appT_size (s : List Int) (t : Term) : (appT s t).1.size ≤ t.1.size + 1 := by
  unfold appT
  split
  · exact negB_size _
  · omega
theorem appT_same {s : List Int} {t : Term} : appT s t = t ↔ oddT s t.2 = false := by
  unfold appT
  constructor
  · intro h
    cases ho : oddT s t.2 with
    | false => rfl
    | true =>
      rw [if_pos ho] at h
      exact absurd (congrArg Prod.fst h) (negB_ne _)
  · intro h
    rw [if_neg (by rw [h]; decide)]
theorem app_valid {s : List Int} {v : Int} {ts : List Term} (h : VldP v ts) : VldP v (ts.map (appT s)) := by
  obtain ⟨h1, ⟨h2, h3, h4⟩, h5⟩ := h
  refine ⟨by simpa using h1, ⟨h2, h3, ?_⟩, ?_⟩
  · intro i hi hl
    have hl' : i < ts.length := by simpa using hl
    obtain ⟨a, b⟩ := h4 i hl' hl'
    rw [List.getElem_map]
    refine ⟨appT_ok a, fun hi0 => ?_⟩
    have := b hi0
    have hi1 : i - 1 < ts.length := by omega
    rw [appT_exps]
    simp only [List.getD_eq_getElem?_getD, List.getElem?_map, List.getElem?_eq_getElem hi1, Option.map_some, Option.getD_some, appT_exps]
    simpa [List.getD_eq_getElem?_getD, List.getElem?_eq_getElem hi1] using this
  · intro h
    have h' : 0 < ts.length := by simpa using h
    rw [List.getElem_map, appT_exps]
    exact h5 h'
theorem app_app {s : List Int} {v : Int} {ts : List Term} (h : VldP v ts) : (ts.map (appT s)).map (appT s) = ts := by
  rw [List.map_map]
  have : ∀ t ∈ ts, (appT s ∘ appT s) t = t := by
    intro t ht
    obtain ⟨i, hi, rfl⟩ := List.getElem_of_mem ht
    exact appT_appT (h.2.1.2.2 i hi hi).1
  exact (List.map_congr_left this).trans (List.map_id' _)
theorem app_same {s : List Int} {ts : List Term} : ts.map (appT s) = ts ↔ ∀ t ∈ ts, oddT s t.2 = false := by
  constructor
  · intro h t ht
    obtain ⟨i, hi, rfl⟩ := List.getElem_of_mem ht
    have : (ts.map (appT s))[i]? = ts[i]? := by rw [h]
    rw [List.getElem?_map, List.getElem?_eq_getElem hi, Option.map_some] at this
    injection this with this
    exact appT_same.1 this
  · intro h
    exact (List.map_congr_left (fun t ht => appT_same.2 (h t ht))).trans (List.map_id' _)
end Go.Mo
end
section
/- Sums of sign vectors: plain. -/
namespace Go.Ev
open Go.Gr Go.Mo
theorem V_zero (rows : List (List Int)) (n : Nat) : V rows n 0 :=
  ⟨Nat.two_pow_pos n, fun row _ => by have := pr_xor row 0 0 n; rw [Nat.xor_self] at this; omega⟩
/-- The sum of the vectors of a list that a number selects by its bits. -/
def selX (K : List Nat) (b : Nat) : Nat → Nat
  | 0 => 0
  | i + 1 => selX K b i ^^^ (if b.testBit i = true then K.getD i 0 else 0)
theorem selX_V {rows : List (List Int)} {n : Nat} {K : List Nat} (hK : ∀ x ∈ K, V rows n x) (b : Nat) : ∀ i, V rows n (selX K b i)
  | 0 => V_zero rows n
  | i + 1 => by
    unfold selX
    refine (V_space rows n).xor _ _ (selX_V hK b i) ?_
    split
    · by_cases h : i < K.length
      · have : K.getD i 0 = K[i] := by simp [h]
        rw [this]; exact hK _ (List.getElem_mem _)
      · have : K.getD i 0 = 0 := by simp [h]
        rw [this]; exact V_zero rows n
    · exact V_zero rows n
theorem selX_lt {n : Nat} {K : List Nat} (hK : ∀ x ∈ K, x < 2 ^ n) (b : Nat) : ∀ i, selX K b i < 2 ^ n
  | 0 => Nat.two_pow_pos n
  | i + 1 => by
    unfold selX
    refine Nat.xor_lt_two_pow (selX_lt hK b i) ?_
    split
    · by_cases h : i < K.length
      · have : K.getD i 0 = K[i] := by simp [h]
        rw [this]; exact hK _ (List.getElem_mem _)
      · have : K.getD i 0 = 0 := by simp [h]
        rw [this]; exact Nat.two_pow_pos n
    · exact Nat.two_pow_pos n
theorem unp_zero (n : Nat) : unp 0 n = List.replicate n 0 := by
  unfold unp
  simp [List.map_const']
/-- The sum of two vectors, made up to position k. -/
def mixL (x y n k : Nat) : List Int := unp (x ^^^ y) k ++ (unp x n).drop k
theorem mixL_len (x y : Nat) {n k : Nat} (h : k ≤ n) : (mixL x y n k).length = n := by
  unfold mixL
  rw [List.length_append, unp_len, List.length_drop, unp_len]; omega
theorem mixL_zero (x y n : Nat) : mixL x y n 0 = unp x n := by simp [mixL, unp]
theorem mixL_full (x y n : Nat) : mixL x y n n = unp (x ^^^ y) n := by
  unfold mixL
  rw [List.drop_of_length_le (by rw [unp_len]; exact Nat.le_refl _), List.append_nil]
theorem mixL_at (x y : Nat) {n k : Nat} (h : k < n) : (mixL x y n k)[k]'(by rw [mixL_len x y (by omega)]; exact h) = if x.testBit k = true then 1 else 0 := by
  unfold mixL
  rw [List.getElem_append_right (by rw [unp_len]; exact Nat.le_refl _)]
  simp [unp]
theorem mixL_set (x y : Nat) {n k : Nat} (h : k < n) : (mixL x y n k).set k (if (x ^^^ y).testBit k = true then 1 else 0) = mixL x y n (k + 1) := by
  have hd : (unp x n).drop k = (if x.testBit k = true then 1 else 0) :: (unp x n).drop (k + 1) := by
    rw [List.drop_eq_getElem_cons (by rw [unp_len]; exact h)]
    simp [unp]
  have hu : unp (x ^^^ y) (k + 1) = unp (x ^^^ y) k ++ [if (x ^^^ y).testBit k = true then 1 else 0] := by
    unfold unp; rw [List.range_succ, List.map_append]; rfl
  unfold mixL
  rw [hd, hu, List.set_append_right _ _ (by rw [unp_len]; exact Nat.le_refl _), unp_len, Nat.sub_self, List.set_cons_zero, List.append_assoc]
  rfl
theorem bit_step (p q b : Bool) : ((if p = true then (1 : Int) else 0) + (if q = true then 1 else 0) * (if b = true then 1 else 0)) % 2 = if (p ^^ (b && q)) = true then 1 else 0 := by
  cases p <;> cases q <;> cases b <;> rfl
theorem sel_bit (u : Nat) (b : Bool) (k : Nat) : (if b = true then u else 0).testBit k = (b && u.testBit k) := by
  cases b <;> simp
/-- A vector of the space changes no term. -/
theorem odd_V {rows : List (List Int)} {n x : Nat} (hn : n ≤ 64) (h : V rows n x) {e : List Int} (he : e ∈ rows) (hl : e.length = n) : oddT (unp x n) e = false := by
  unfold oddT
  rw [unp_len, pk_unp h.1, hl, size_and e x n hn]
  have := h.2 e he
  simp [this]
theorem V_odd {rows : List (List Int)} {n x : Nat} (hn : n ≤ 64) (hx : x < 2 ^ n) (hr : ∀ e ∈ rows, e.length = n) (h : ∀ e ∈ rows, oddT (unp x n) e = false) : V rows n x := by
  refine ⟨hx, fun e he => ?_⟩
  have := h e he
  unfold oddT at this
  rw [unp_len, pk_unp hx, hr e he, size_and e x n hn] at this
  have h2 : ¬ pr e x n % 2 = 1 := by simpa using this
  omega
end Go.Ev
end
section
/- Classes and products of monomials: plain. -/
namespace Go.Ev
open Go.Gr Go.Mo
/-- What the classes hold: the keys are different, each index is in the class of its key. -/
structure ClsInv (ks : List (List Int)) (i : Nat) : Prop where
  nodup : (clsSt ks i).1.Nodup
  mem : ∀ x, x < i → ks.getD x [] ∈ (clsSt ks i).1
  cls : ∀ j, j < (clsSt ks i).1.length → (clsSt ks i).2.getD j [] = (List.range i).filter (fun x => decide (ks.getD x [] = (clsSt ks i).1.getD j []))
theorem getD_idxOf {K : List (List Int)} {q : List Int} (h : K.idxOf q < K.length) : K.getD (K.idxOf q) [] = q := by
  simp [List.getD_eq_getElem?_getD, h]
theorem clsInv (ks : List (List Int)) : ∀ i, ClsInv ks i
  | 0 => ⟨by simp [clsSt], fun x h => by omega, fun j h => by simp [clsSt] at h⟩
  | i + 1 => by
    have ih := clsInv ks i
    have hl := (clsSt_len ks i).1
    obtain ⟨h1, h2, h3⟩ := ih
    by_cases hc : (clsSt ks i).1.idxOf (ks.getD i []) < (clsSt ks i).1.length
    · have e := clsSt_old hc
      have hq := getD_idxOf hc
      refine ⟨by rw [e]; exact h1, fun x hx => ?_, fun j hj => ?_⟩
      · rw [e]
        by_cases hxi : x < i
        · exact h2 x hxi
        · obtain rfl : x = i := by omega
          exact List.idxOf_lt_length_iff.1 hc
      · rw [e] at hj ⊢
        simp only at hj ⊢
        have h3j := h3 j hj
        rw [List.range_succ, List.filter_append]
        generalize (clsSt ks i).1.idxOf (ks.getD i []) = k at *
        by_cases hjk : j = k
        · subst hjk
          rw [List.getD_eq_getElem?_getD, List.getElem?_set_self (by omega), Option.getD_some, h3j]
          rw [hq]
          simp
        · have hne : ¬ ks.getD i [] = (clsSt ks i).1.getD j [] := by
            rw [← hq]
            intro he
            have a1 : (clsSt ks i).1.getD k [] = (clsSt ks i).1[k] := by simp [hc]
            have a2 : (clsSt ks i).1.getD j [] = (clsSt ks i).1[j] := by simp [hj]
            rw [a1, a2] at he
            exact hjk ((List.getElem_inj h1).1 he).symm
          rw [List.getD_eq_getElem?_getD, List.getElem?_set_ne (by omega), ← List.getD_eq_getElem?_getD, h3j]
          simpa [List.filter_cons] using hne
    · have e := clsSt_new hc
      have hq : ks.getD i [] ∉ (clsSt ks i).1 := fun h => hc (List.idxOf_lt_length_iff.2 h)
      refine ⟨?_, fun x hx => ?_, fun j hj => ?_⟩
      · rw [e]
        refine List.nodup_append.2 ⟨h1, by simp, fun a ha b hb => ?_⟩
        rw [List.mem_singleton.1 hb]
        rintro rfl
        exact hq ha
      · rw [e]
        by_cases hxi : x < i
        · exact List.mem_append_left _ (h2 x hxi)
        · obtain rfl : x = i := by omega
          exact List.mem_append_right _ (by simp)
      · rw [e] at hj ⊢
        simp only at hj ⊢
        rw [List.range_succ, List.filter_append]
        by_cases hji : j < (clsSt ks i).1.length
        · have h3j := h3 j hji
          have a1 : ((clsSt ks i).1 ++ [ks.getD i []]).getD j [] = (clsSt ks i).1.getD j [] := by
            simp only [List.getD_eq_getElem?_getD, List.getElem?_append_left hji]
          have a2 : ((clsSt ks i).2 ++ [[i]]).getD j [] = (clsSt ks i).2.getD j [] := by
            simp only [List.getD_eq_getElem?_getD, List.getElem?_append_left (show j < (clsSt ks i).2.length by omega)]
          have hne : ¬ ks.getD i [] = (clsSt ks i).1.getD j [] := by
            intro he
            have a1 : (clsSt ks i).1.getD j [] = (clsSt ks i).1[j] := by simp [hji]
            rw [a1] at he
            exact hq (by rw [he]; exact List.getElem_mem _)
          rw [a1, a2, h3j]
          simpa [List.filter_cons] using hne
        · have hj2 : j = (clsSt ks i).1.length := by
            rw [List.length_append, List.length_cons, List.length_nil] at hj; omega
          subst hj2
          have a1 : ((clsSt ks i).1 ++ [ks.getD i []]).getD (clsSt ks i).1.length [] = ks.getD i [] := by
            simp [List.getD_eq_getElem?_getD]
          have a2 : ((clsSt ks i).2 ++ [[i]]).getD (clsSt ks i).1.length [] = [i] := by
            rw [hl]; simp [List.getD_eq_getElem?_getD]
          rw [a1, a2]
          have hn : (List.range i).filter (fun x => decide (ks.getD x [] = ks.getD i [])) = [] := by
            rw [List.filter_eq_nil_iff]
            intro x hx
            have := h2 x (List.mem_range.1 hx)
            simp only [decide_eq_true_eq]
            intro he
            exact hq (he ▸ this)
          rw [hn]
          simp
/-- The number of the class of an index. -/
def cix (ks : List (List Int)) (x : Nat) : Nat := (clsSt ks ks.length).1.idxOf (ks.getD x [])
theorem cix_lt {ks : List (List Int)} {x : Nat} (h : x < ks.length) : cix ks x < (clsSt ks ks.length).2.length := by
  rw [← (clsSt_len ks ks.length).1]
  exact List.idxOf_lt_length_iff.2 ((clsInv ks ks.length).mem x h)
theorem cix_mem {ks : List (List Int)} {x j : Nat} (hj : j < (clsSt ks ks.length).2.length) : x ∈ (clsSt ks ks.length).2.getD j [] ↔ x < ks.length ∧ cix ks x = j := by
  have hI := clsInv ks ks.length
  rw [← (clsSt_len ks ks.length).1] at hj
  rw [hI.cls j hj, List.mem_filter, List.mem_range]
  refine ⟨fun ⟨h1, h2⟩ => ⟨h1, ?_⟩, fun ⟨h1, h2⟩ => ⟨h1, ?_⟩⟩
  · have h2 := of_decide_eq_true h2
    unfold cix
    have a1 : (clsSt ks ks.length).1.getD j [] = (clsSt ks ks.length).1[j] := by simp [hj]
    rw [h2, a1]
    exact hI.nodup.idxOf_getElem j hj
  · refine decide_eq_true ?_
    subst h2
    exact (getD_idxOf (List.idxOf_lt_length_iff.2 (hI.mem x h1))).symm
theorem cix_nodup (ks : List (List Int)) (j : Nat) : ((clsSt ks ks.length).2.getD j []).Nodup := by
  by_cases hj : j < (clsSt ks ks.length).1.length
  · rw [(clsInv ks ks.length).cls j hj]
    exact List.nodup_range.filter _
  · have : (clsSt ks ks.length).2.getD j [] = [] := by
      rw [(clsSt_len ks ks.length).1] at hj
      rw [List.getD_eq_getElem?_getD, List.getElem?_eq_none (by omega)]; rfl
    rw [this]; exact List.nodup_nil
theorem cix_eq {ks : List (List Int)} {x y : Nat} (hx : x < ks.length) (hy : y < ks.length) : cix ks x = cix ks y ↔ ks.getD x [] = ks.getD y [] := by
  have hI := clsInv ks ks.length
  refine ⟨fun h => ?_, fun h => by unfold cix; rw [h]⟩
  have h1 := getD_idxOf (List.idxOf_lt_length_iff.2 (hI.mem x hx))
  have h2 := getD_idxOf (List.idxOf_lt_length_iff.2 (hI.mem y hy))
  rw [← h1, ← h2]
  unfold cix at h
  rw [h]
/-- The numbers of the classes, made up to element k of class i. -/
def mkd (ix : Nat → Nat) (C : List Nat) (n i k : Nat) : List Int := (List.range n).map fun x => if ix x < i then (ix x : Int) + 1 else if ix x = i ∧ x ∈ C.take k then (i : Int) + 1 else 0
theorem mkd_len (ix : Nat → Nat) (C : List Nat) (n i k : Nat) : (mkd ix C n i k).length = n := by simp [mkd]
theorem mkd_zero (ix : Nat → Nat) (C : List Nat) (n : Nat) : mkd ix C n 0 0 = List.replicate n 0 := by
  unfold mkd
  rw [List.eq_replicate_iff]
  refine ⟨by simp, fun b hb => ?_⟩
  obtain ⟨x, _, rfl⟩ := List.mem_map.1 hb
  simp
theorem mkd_get (ix : Nat → Nat) (C : List Nat) {n i k x : Nat} (hx : x < n) : (mkd ix C n i k)[x]'(by rw [mkd_len]; exact hx) = if ix x < i then (ix x : Int) + 1 else if ix x = i ∧ x ∈ C.take k then (i : Int) + 1 else 0 := by simp [mkd]
theorem mkd_at (ix : Nat → Nat) (C : List Nat) {n i k x : Nat} (hx : x < n) (hi : ix x = i) (hC : C.Nodup) (hk : k < C.length) (he : C[k] = x) : (mkd ix C n i k)[x]'(by rw [mkd_len]; exact hx) = 0 := by
  rw [mkd_get ix C hx, if_neg (by omega), if_neg]
  rintro ⟨_, hm⟩
  rw [List.mem_take_iff_getElem] at hm
  obtain ⟨j, hj, hjx⟩ := hm
  have := (List.getElem_inj hC).1 (hjx.trans he.symm)
  omega
theorem mkd_set (ix : Nat → Nat) (C : List Nat) {n i k x : Nat} (_hx : x < n) (hi : ix x = i) (hk : k < C.length) (he : C[k] = x) : (mkd ix C n i k).set x ((i : Int) + 1) = mkd ix C n i (k + 1) := by
  refine List.ext_getElem (by simp [mkd]) fun j h1 h2 => ?_
  have hj : j < n := by rw [mkd_len] at h2; exact h2
  rw [mkd_get ix C hj, List.getElem_set]
  have ht : C.take (k + 1) = C.take k ++ [x] := by rw [List.take_succ_eq_append_getElem hk, he]
  by_cases hjx : x = j
  · subst hjx
    rw [if_pos rfl, if_neg (by omega), if_pos ⟨hi, by rw [ht]; simp⟩]
  · rw [if_neg hjx, mkd_get ix C hj]
    have e : (j ∈ C.take (k + 1)) ↔ j ∈ C.take k := by
      rw [ht]
      simp only [List.mem_append, List.mem_singleton]
      exact ⟨fun h => h.resolve_right (fun e => hjx e.symm), .inl⟩
    simp only [e]
theorem mkd_next (ix : Nat → Nat) (C C' : List Nat) {n i : Nat} (h : ∀ x, x < n → ix x = i → x ∈ C) : mkd ix C n i C.length = mkd ix C' n (i + 1) 0 := by
  unfold mkd
  refine List.map_congr_left fun x hx => ?_
  have hx := List.mem_range.1 hx
  rw [List.take_length, List.take_zero]
  by_cases h1 : ix x < i
  · rw [if_pos h1, if_pos (by omega)]
  · by_cases h2 : ix x = i
    · rw [if_neg h1, if_pos ⟨h2, h x hx h2⟩, if_pos (by omega), h2]
    · rw [if_neg h1, if_neg (fun e => h2 e.1), if_neg (by omega), if_neg (by simp)]
theorem mkd_full (ix : Nat → Nat) (C : List Nat) {n m x : Nat} (hx : x < n) (h : ix x < m) : (mkd ix C n m 0)[x]'(by rw [mkd_len]; exact hx) = (ix x : Int) + 1 := by
  rw [mkd_get ix C hx, if_pos h]
/-- The sum of two monomials. -/
def addL (a b : List Int) : List Int := List.zipWith (· + ·) a b
theorem addL_len {a b : List Int} (h : a.length = b.length) : (addL a b).length = a.length := by simp [addL, h]
theorem addL_getD {a b : List Int} (h : a.length = b.length) (i : Nat) : (addL a b).getD i 0 = a.getD i 0 + b.getD i 0 := by
  unfold addL
  simp only [List.getD_eq_getElem?_getD, List.getElem?_zipWith]
  rcases Nat.lt_or_ge i a.length with h1 | h1
  · rw [List.getElem?_eq_getElem h1, List.getElem?_eq_getElem (by omega)]; rfl
  · rw [List.getElem?_eq_none h1, List.getElem?_eq_none (by omega)]; rfl
theorem dotN_add {a b : List Int} (h : a.length = b.length) (v : List Int) : ∀ n, dotN (addL a b) v n = dotN a v n + dotN b v n
  | 0 => rfl
  | n + 1 => by
    simp only [dotN]
    rw [dotN_add h v n, addL_getD h, Int.add_mul]; omega
/-- The character of a product is 0 exactly if the characters are equal. -/
theorem chr_zero_iff {s : List (List Int)} {a b : List Int} (h : a.length = b.length) : chr s (addL a b) = List.replicate s.length 0 ↔ chr s a = chr s b := by
  unfold chr
  rw [List.eq_replicate_iff, List.map_inj_left]
  constructor
  · rintro ⟨_, h1⟩ v hv
    have := h1 _ (List.mem_map_of_mem hv)
    rw [dotN_add h] at this
    omega
  · intro h1
    refine ⟨by simp, fun x hx => ?_⟩
    obtain ⟨v, hv, rfl⟩ := List.mem_map.1 hx
    have := h1 v hv
    rw [dotN_add h]
    omega
/-- The exponents of a term have the character 0. -/
theorem chr_row {rows : List (List Int)} {n : Nat} {K : List Nat} (hn : n ≤ 64) (hK : ∀ x ∈ K, V rows n x) {e : List Int} (he : e ∈ rows) (hl : e.length = n) (h0 : ∀ x ∈ e, 0 ≤ x) : chr (K.map (unp · n)) e = List.replicate (K.map (unp · n)).length 0 := by
  unfold chr
  rw [List.eq_replicate_iff]
  refine ⟨by simp, fun x hx => ?_⟩
  obtain ⟨v, hv, rfl⟩ := List.mem_map.1 hx
  obtain ⟨y, hy, rfl⟩ := List.mem_map.1 hv
  have h1 := odd_V hn (hK y hy) he hl
  unfold oddT at h1
  rw [chr_odd (unp_bit y n) h0 (by rw [unp_len, hl]) (by omega)]
  have h2 := of_decide_eq_false h1
  rw [if_neg h2]
/-- The coefficient of a monomial among terms. -/
def cof (ts : List Term) (m : List Int) (z : ByteArray) : ByteArray := match ts.find? (fun t => decide (t.2 = m)) with
  | some t => t.1
  | none => z
theorem cof_none {ts : List Term} {m : List Int} {z : ByteArray} (h : ∀ t ∈ ts, t.2 ≠ m) : cof ts m z = z := by
  unfold cof
  rw [List.find?_eq_none.2 (fun t ht => by simp; exact h t ht)]
end Go.Ev
end
section
/- Partitions made vertex by vertex from an equivalence, and a coarser one: plain. -/
namespace Go.Sp
open Classical
structure Eqv (C : Nat → Nat → Prop) : Prop where
  refl : ∀ a, C a a
  symm : ∀ a b, C a b → C b a
  trans : ∀ a b c, C a b → C b c → C a c
inductive MadeR (C : Nat → Nat → Prop) : Nat → List (List Int) → Prop
  | zero : MadeR C 0 []
  | skip {k : Nat} {ls : List (List Int)} : MadeR C k ls → (∃ l ∈ ls, (k : Int) ∈ l) → MadeR C (k + 1) ls
  | add {k : Nat} {ls : List (List Int)} {l : List Int} : MadeR C k ls → (∀ m ∈ ls, (k : Int) ∉ m) → l.Pairwise (· < ·) → (∀ x : Int, x ∈ l ↔ ∃ v : Nat, x = v ∧ C k v) → MadeR C (k + 1) (ls ++ [l])
theorem asc_same {l m : List Int} (hl : l.Pairwise (· < ·)) (hm : m.Pairwise (· < ·)) (h : ∀ x, x ∈ l ↔ x ∈ m) : l = m := by
  have nd : ∀ {l : List Int}, l.Pairwise (· < ·) → l.Nodup := fun h => h.imp (fun hab e => by omega)
  have hp : l.Perm m := (List.perm_ext_iff_of_nodup (nd hl) (nd hm)).2 h
  exact List.Perm.eq_of_pairwise (le := (· < ·)) (fun a b _ _ h1 h2 => by omega) hl hm hp
theorem MadeR.same {C C' : Nat → Nat → Prop} : ∀ {k : Nat} {ls ms : List (List Int)}, (∀ a b, a < k → (C a b ↔ C' a b)) → MadeR C k ls → MadeR C' k ms → ls = ms := by
  intro k
  induction k with
  | zero => intro ls ms _ h1 h2; cases h1; cases h2; rfl
  | succ k ih =>
    intro ls ms hc h1 h2
    have hc' : ∀ a b, a < k → (C a b ↔ C' a b) := fun a b h => hc a b (by omega)
    cases h1 with
    | skip h1 e1 =>
      cases h2 with
      | skip h2 e2 => exact ih hc' h1 h2
      | add h2 e2 _ _ =>
        obtain ⟨l, hl, hk⟩ := e1
        rw [ih hc' h1 h2] at hl
        exact absurd hk (e2 l hl)
    | add h1 e1 p1 q1 =>
      cases h2 with
      | skip h2 e2 =>
        obtain ⟨l, hl, hk⟩ := e2
        rw [← ih hc' h1 h2] at hl
        exact absurd hk (e1 l hl)
      | add h2 e2 p2 q2 =>
        rw [ih hc' h1 h2, asc_same p1 p2 (fun x => (q1 x).trans (Iff.trans ⟨fun ⟨v, e, h⟩ => ⟨v, e, (hc k v (by omega)).1 h⟩, fun ⟨v, e, h⟩ => ⟨v, e, (hc k v (by omega)).2 h⟩⟩ (q2 x).symm))]
/-- Each block is the class of a number. -/
theorem MadeR.each {C : Nat → Nat → Prop} {k : Nat} {ls : List (List Int)} (h : MadeR C k ls) : ∀ l ∈ ls, ∃ r, r < k ∧ ∀ x : Int, x ∈ l ↔ ∃ v : Nat, x = v ∧ C r v := by
  induction h with
  | zero => intro l hl; cases hl
  | skip _ _ ih => intro l hl; obtain ⟨r, h1, h2⟩ := ih l hl; exact ⟨r, by omega, h2⟩
  | @add k ls l _ _ _ q ih =>
    intro m hm
    rcases List.mem_append.1 hm with h | h
    · obtain ⟨r, h1, h2⟩ := ih m h; exact ⟨r, by omega, h2⟩
    · rw [List.mem_singleton.1 h]; exact ⟨k, by omega, q⟩
/-- Which numbers are in a block. -/
theorem MadeR.mem {C : Nat → Nat → Prop} (hE : Eqv C) {k : Nat} {ls : List (List Int)} (h : MadeR C k ls) (v : Nat) : (∃ l ∈ ls, (v : Int) ∈ l) ↔ ∃ j, j < k ∧ C j v := by
  induction h with
  | zero => simp
  | @skip k ls _ e ih =>
    rw [ih]
    constructor
    · rintro ⟨j, h1, h2⟩; exact ⟨j, by omega, h2⟩
    · rintro ⟨j, h1, h2⟩
      by_cases hj : j < k
      · exact ⟨j, hj, h2⟩
      · obtain rfl : j = k := by omega
        rw [← ih]
        obtain ⟨l, hl, hk⟩ := e
        refine ⟨l, hl, ?_⟩
        rename_i hM
        obtain ⟨r, _, hr⟩ := hM.each l hl
        obtain ⟨v', e1, e2⟩ := (hr j).1 hk
        obtain rfl : j = v' := by omega
        exact (hr v).2 ⟨v, rfl, hE.trans _ _ _ e2 h2⟩
  | @add k ls l _ e p q ih =>
    constructor
    · rintro ⟨m, hm, hv⟩
      rcases List.mem_append.1 hm with h | h
      · obtain ⟨j, h1, h2⟩ := ih.1 ⟨m, h, hv⟩; exact ⟨j, by omega, h2⟩
      · rw [List.mem_singleton.1 h] at hv
        obtain ⟨v', e1, e2⟩ := (q v).1 hv
        obtain rfl : v = v' := by omega
        exact ⟨k, by omega, e2⟩
    · rintro ⟨j, h1, h2⟩
      by_cases hj : j < k
      · obtain ⟨m, hm, hv⟩ := ih.2 ⟨j, hj, h2⟩
        exact ⟨m, List.mem_append_left _ hm, hv⟩
      · obtain rfl : j = k := by omega
        exact ⟨l, List.mem_append_right _ (by simp), (q v).2 ⟨v, rfl, h2⟩⟩
/-- The least numbers of the classes. -/
noncomputable def isRep (C : Nat → Nat → Prop) (j : Nat) : Bool := @decide (∀ i, i < j → ¬ C i j) (Classical.propDecidable _)
theorem isRep_iff {C : Nat → Nat → Prop} {j : Nat} : isRep C j = true ↔ ∀ i, i < j → ¬ C i j := by unfold isRep; exact @decide_eq_true_iff _ (Classical.propDecidable _)
noncomputable def reps (C : Nat → Nat → Prop) (k : Nat) : List Nat := (List.range k).filter (isRep C)
theorem MadeR.length {C : Nat → Nat → Prop} (hE : Eqv C) {k : Nat} {ls : List (List Int)} (h : MadeR C k ls) : ls.length = (reps C k).length := by
  induction h with
  | zero => rfl
  | @skip k ls hM e ih =>
    rw [ih]
    unfold reps
    rw [List.range_succ, List.filter_append]
    have : ¬ ∀ i, i < k → ¬ C i k := by
      obtain ⟨j, h1, h2⟩ := (hM.mem hE k).1 e
      exact fun h => h j h1 h2
    have hf : [k].filter (isRep C) = [] := by
      rw [List.filter_cons_of_neg (fun h => this (isRep_iff.1 h))]; rfl
    rw [List.length_append, hf]; rfl
  | @add k ls l hM e p q ih =>
    rw [List.length_append, ih]
    unfold reps
    rw [List.range_succ, List.filter_append]
    have : ∀ i, i < k → ¬ C i k := fun i hi hc => by
      obtain ⟨m, hm, hv⟩ := (hM.mem hE k).2 ⟨i, hi, hc⟩
      exact e m hm hv
    have hf : [k].filter (isRep C) = [k] := by
      rw [List.filter_cons_of_pos (isRep_iff.2 this)]; rfl
    rw [List.length_append, hf]; rfl
theorem least {P : Nat → Prop} {n : Nat} (h : P n) : ∃ m, P m ∧ m ≤ n ∧ ∀ i, i < m → ¬ P i := by
  induction n using Nat.strongRecOn with
  | _ n ih =>
    by_cases hc : ∃ i, i < n ∧ P i
    · obtain ⟨i, hi, hp⟩ := hc
      obtain ⟨m, h1, h2, h3⟩ := ih i hi hp
      exact ⟨m, h1, by omega, h3⟩
    · exact ⟨n, h, Nat.le_refl _, fun i hi hp => hc ⟨i, hi, hp⟩⟩
theorem sub_back {a b : List Nat} (ha : a.Nodup) (hs : ∀ x ∈ a, x ∈ b) (hl : b.length ≤ a.length) : ∀ x ∈ b, x ∈ a := by
  intro x hx
  apply Classical.byContradiction
  intro hn
  have h1 : (x :: a).Nodup := List.nodup_cons.2 ⟨hn, ha⟩
  have h2 : ∀ y ∈ x :: a, y ∈ b := fun y hy => by
    rcases List.mem_cons.1 hy with rfl | h
    · exact hx
    · exact hs y h
  have := h1.length_le_of_subset h2
  simp at this
  omega
section
variable {C C' : Nat → Nat → Prop} {n : Nat} {ls ms : List (List Int)}
theorem reps_sub (hs : ∀ a b, C a b → C' a b) : ∀ x ∈ reps C' n, x ∈ reps C n := by
  intro x hx
  unfold reps at hx ⊢
  rw [List.mem_filter] at hx ⊢
  refine ⟨hx.1, isRep_iff.2 fun i hi hc => ?_⟩
  exact (isRep_iff.1 hx.2) i hi (hs i x hc)
theorem reps_nodup (C : Nat → Nat → Prop) (n : Nat) : (reps C n).Nodup := List.nodup_range.filter _
/-- A coarser equivalence has no more blocks. -/
theorem coarse_le (hE : Eqv C) (hE' : Eqv C') (hs : ∀ a b, C a b → C' a b) (h : MadeR C n ls) (h' : MadeR C' n ms) : ms.length ≤ ls.length := by
  rw [h.length hE, h'.length hE']
  exact (reps_nodup C' n).length_le_of_subset (reps_sub hs)
/-- Each block lies in one of the coarser ones. -/
theorem coarse_sub (hE' : Eqv C') (hs : ∀ a b, C a b → C' a b) (h : MadeR C n ls) (h' : MadeR C' n ms) : ∀ l ∈ ls, ∃ m ∈ ms, ∀ x ∈ l, x ∈ m := by
  intro l hl
  obtain ⟨r, hr, hx⟩ := h.each l hl
  obtain ⟨m, hm, hv⟩ := (h'.mem hE' r).2 ⟨r, hr, hE'.refl r⟩
  obtain ⟨q, _, hy⟩ := h'.each m hm
  obtain ⟨r', e1, e2⟩ := (hy r).1 hv
  obtain rfl : r = r' := by omega
  refine ⟨m, hm, fun x hxl => ?_⟩
  obtain ⟨v, e3, e4⟩ := (hx x).1 hxl
  exact (hy x).2 ⟨v, e3, hE'.trans _ _ _ e2 (hs _ _ e4)⟩
/-- Equally many blocks: the same blocks. -/
theorem coarse_eq (hE : Eqv C) (hE' : Eqv C') (hs : ∀ a b, C a b → C' a b) (hn : ∀ a b, a < n → C' a b → b < n) (h : MadeR C n ls) (h' : MadeR C' n ms) (hl : ms.length = ls.length) : ls = ms := by
  have hr : ∀ x, x ∈ reps C n → x ∈ reps C' n := by
    have hle : (reps C n).length ≤ (reps C' n).length := by rw [← h.length hE, ← h'.length hE', hl]; exact Nat.le_refl _
    exact fun x hx => sub_back (reps_nodup C' n) (reps_sub hs) hle x hx
  refine MadeR.same (fun a b ha => ⟨hs a b, fun hc => ?_⟩) h h'
  have hb := hn a b ha hc
  have key : ∀ v, v < n → ∃ m, m < n ∧ C m v ∧ ∀ i, i < m → ¬ C' i m := by
    intro v hv
    obtain ⟨m, h1, h2, h3⟩ := least (P := fun m => C m v) (hE.refl v)
    refine ⟨m, by omega, h1, ?_⟩
    have hm : m ∈ reps C n := by
      unfold reps
      rw [List.mem_filter]
      exact ⟨List.mem_range.2 (by omega), isRep_iff.2 fun i hi hc => h3 i hi (hE.trans _ _ _ hc h1)⟩
    have := hr m hm
    unfold reps at this
    exact isRep_iff.1 (List.mem_filter.1 this).2
  obtain ⟨r, r1, r2, r3⟩ := key a ha
  obtain ⟨q, q1, q2, q3⟩ := key b hb
  have hrq : C' r q := hE'.trans _ _ _ (hs _ _ r2) (hE'.trans _ _ _ hc (hE'.symm _ _ (hs _ _ q2)))
  have : r = q := by
    rcases Nat.lt_trichotomy r q with h | h | h
    · exact absurd hrq (q3 r h)
    · exact h
    · exact absurd (hE'.symm _ _ hrq) (r3 q h)
  subst this
  exact hE.trans _ _ _ (hE.symm _ _ r2) q2
end
end Go.Sp
end
section
/- Rounds of coarser and coarser partitions; the first round behind which nothing changes: plain. -/
namespace Go.Sp
structure Rounds (N : Nat) where
  C : Nat → Nat → Nat → Prop
  B : Nat → List (List Int)
  eqv : ∀ t, Eqv (C t)
  mono : ∀ t a b, C t a b → C (t + 1) a b
  lt : ∀ t a b, a < N → C t a b → b < N
  made : ∀ t, MadeR (C t) N (B t)
section
variable {N : Nat} (R : Rounds N)
theorem Rounds.len_le (t : Nat) : (R.B (t + 1)).length ≤ (R.B t).length := coarse_le (R.eqv t) (R.eqv (t + 1)) (R.mono t) (R.made t) (R.made (t + 1))
theorem Rounds.sub (t : Nat) : ∀ l ∈ R.B t, ∃ m ∈ R.B (t + 1), ∀ x ∈ l, x ∈ m := coarse_sub (R.eqv (t + 1)) (R.mono t) (R.made t) (R.made (t + 1))
theorem Rounds.first_le : (R.B 0).length ≤ N := by
  rw [(R.made 0).length (R.eqv 0)]
  have := (reps_nodup (R.C 0) N).length_le_of_subset (l₂ := List.range N) (fun x hx => (List.mem_filter.1 hx).1)
  simpa using this
/-- The blocks of the first m rounds are each time fewer. -/
def Rounds.Fell (m : Nat) : Prop := ∀ t, t + 1 < m → (R.B (t + 1)).length ≠ (R.B t).length
/-- The loop has ended with the number m. -/
structure Rounds.Final (k m : Nat) : Prop where
  pos : 1 ≤ m
  le : m ≤ k
  fell : R.Fell m
  fin : m = k ∨ (R.B m).length = (R.B (m - 1)).length
theorem Rounds.fell_len {m : Nat} (h : R.Fell m) : ∀ t, t < m → (R.B t).length + t ≤ N
  | 0, _ => by have := R.first_le; omega
  | t + 1, ht => by
    have h1 := Rounds.fell_len h t (by omega)
    have h2 := R.len_le t
    have h3 := h t ht
    omega
theorem Rounds.fell_le {m : Nat} (h : R.Fell m) : m ≤ N + 1 := by
  rcases Nat.lt_or_ge (N + 1) m with h1 | h1
  · have := R.fell_len h (N + 1) h1
    omega
  · exact h1
theorem Rounds.fell_succ {m : Nat} (h : R.Fell m) (h1 : 1 ≤ m) (hn : (R.B m).length ≠ (R.B (m - 1)).length) : R.Fell (m + 1) := by
  intro t ht
  by_cases hm : t + 1 < m
  · exact h t hm
  · obtain rfl : m = t + 1 := by omega
    simpa using hn
/-- Behind the end for any number of rounds, the number is the same. -/
theorem Rounds.stable {big n k m : Nat} (hs : R.Final big n) (hb : N + 1 < big) (h : R.Final k m) : (n ≤ k → m = n) ∧ (k < n → m = k) := by
  have h1 := R.fell_le hs.fell
  have hfin : (R.B n).length = (R.B (n - 1)).length := by
    rcases hs.fin with e | e
    · omega
    · exact e
  have p1 := hs.pos
  have p2 := h.pos
  constructor
  · intro hk
    rcases Nat.lt_trichotomy m n with hlt | heq | hgt
    · rcases h.fin with e | e
      · omega
      · have := hs.fell (m - 1) (by omega)
        rw [show m - 1 + 1 = m by omega] at this
        exact absurd e this
    · exact heq
    · have := h.fell (n - 1) (by omega)
      rw [show n - 1 + 1 = n by omega] at this
      exact absurd hfin this
  · intro hk
    rcases h.fin with e | e
    · exact e
    · have hle := h.le
      have := hs.fell (m - 1) (by omega)
      rw [show m - 1 + 1 = m by omega] at this
      exact absurd e this
theorem Rounds.stable_le {big n : Nat} (hs : R.Final big n) : n ≤ N + 1 := R.fell_le hs.fell
/-- What the statement on the rounds asks. -/
theorem Rounds.law {big n k m1 m2 : Nat} (hs : R.Final big n) (hb : N + 1 < big) (h1 : R.Final k m1) (h2 : R.Final (k + 1) m2) :
    (n ≤ k → R.B (m1 - 1) = R.B (n - 1) ∧ R.B (m2 - 1) = R.B (n - 1)) ∧ (k < n → (R.B (m2 - 1)).length < (R.B (m1 - 1)).length) ∧ ∀ l ∈ R.B (m1 - 1), ∃ m ∈ R.B (m2 - 1), ∀ x ∈ l, x ∈ m := by
  have a1 := R.stable hs hb h1
  have a2 := R.stable hs hb h2
  have p1 := h1.pos
  refine ⟨fun hk => ?_, fun hk => ?_, ?_⟩
  · rw [a1.1 hk, a2.1 (by omega)]; exact ⟨rfl, rfl⟩
  · have e1 := a1.2 hk
    have hk1 : 1 ≤ k := by omega
    have e2 : m2 = k + 1 := by
      by_cases hn : n ≤ k + 1
      · have := a2.1 hn; omega
      · exact a2.2 (by omega)
    have := hs.fell (k - 1) (by omega)
    have := R.len_le (k - 1)
    rw [e1, e2, show k + 1 - 1 = k - 1 + 1 by omega]
    omega
  · by_cases hk : n ≤ k
    · rw [a1.1 hk, a2.1 (by omega)]
      exact fun l hl => ⟨l, hl, fun x hx => hx⟩
    · have e1 := a1.2 (by omega)
      have hk1 : 1 ≤ k := by omega
      have e2 : m2 = k + 1 := by
        by_cases hn : n ≤ k + 1
        · have := a2.1 hn; omega
        · exact a2.2 (by omega)
      rw [e1, e2, show k + 1 - 1 = k - 1 + 1 by omega]
      exact R.sub (k - 1)
end
end Go.Sp
end
section
/- Keys of monomials, edges that a set of monomials makes: plain. -/
namespace Go.Sp
open Go.Ev
/-- A monomial as a key: six numbers. -/
def kv (m : List Int) : List Int := (List.range 6).map fun i => m.getD i 0
theorem kv_len (m : List Int) : (kv m).length = 6 := by simp [kv]
theorem kv_at (m : List Int) {i : Nat} (h : i < 6) : (kv m)[i]? = some (m.getD i 0) := by simp [kv, h]
theorem kv_inj {a b : List Int} (hl : a.length = b.length) (h6 : a.length ≤ 6) (h : kv a = kv b) : a = b := by
  refine List.ext_getElem hl fun i h1 h2 => ?_
  have e : (kv a)[i]? = (kv b)[i]? := by rw [h]
  rw [kv_at a (by omega), kv_at b (by omega)] at e
  simpa [h1, h2] using e
theorem kv_bound {m : List Int} {c : Int} (hc : 0 ≤ c) (h : ∀ x ∈ m, 0 ≤ x ∧ x ≤ c) : ∀ x ∈ kv m, 0 ≤ x ∧ x ≤ c := by
  intro x hx
  obtain ⟨i, _, rfl⟩ := List.mem_map.1 hx
  by_cases hi : i < m.length
  · rw [List.getD_eq_getElem?_getD, List.getElem?_eq_getElem hi, Option.getD_some]; exact h _ (List.getElem_mem _)
  · rw [List.getD_eq_getElem?_getD, List.getElem?_eq_none (by omega)]; exact ⟨Int.le_refl _, hc⟩
theorem addL_bound {a b : List Int} {c : Int} (ha : ∀ x ∈ a, 0 ≤ x ∧ x ≤ c) (hb : ∀ x ∈ b, 0 ≤ x ∧ x ≤ c) : ∀ x ∈ addL a b, 0 ≤ x ∧ x ≤ 2 * c := by
  intro x hx
  unfold addL at hx
  obtain ⟨i, hi, rfl⟩ := List.getElem_of_mem hx
  rw [List.getElem_zipWith]
  rw [List.length_zipWith] at hi
  have h1 := ha (a[i]'(by omega)) (List.getElem_mem _)
  have h2 := hb (b[i]'(by omega)) (List.getElem_mem _)
  omega
theorem addL_comm (a b : List Int) : addL a b = addL b a := by
  unfold addL
  exact List.zipWith_comm_of_comm (fun x y => Int.add_comm x y)
/-- The edges that a set of monomials makes among the monomials of a basis, row by row. -/
def edRow (b S : List (List Int)) (i : Nat) : List (Int × Int) := ((List.range b.length).filter fun j => decide (i < j) && decide (addL (b.getD i []) (b.getD j []) ∈ S)).map fun j : Nat => ((i : Int), (j : Int))
def edTo (b S : List (List Int)) (k : Nat) : List (Int × Int) := (List.range k).flatMap (edRow b S)
theorem edTo_succ (b S : List (List Int)) (k : Nat) : edTo b S (k + 1) = edTo b S k ++ edRow b S k := by
  unfold edTo; rw [List.range_succ, List.flatMap_append]; simp
theorem edRow_mem {b S : List (List Int)} {i : Nat} {p : Int × Int} : p ∈ edRow b S i ↔ ∃ j : Nat, p = ((i : Int), (j : Int)) ∧ i < j ∧ j < b.length ∧ addL (b.getD i []) (b.getD j []) ∈ S := by
  unfold edRow
  simp only [List.mem_map, List.mem_filter, List.mem_range, Bool.and_eq_true, decide_eq_true_eq]
  constructor
  · rintro ⟨j, ⟨h1, h2, h3⟩, rfl⟩; exact ⟨j, rfl, h2, h1, h3⟩
  · rintro ⟨j, rfl, h2, h1, h3⟩; exact ⟨j, ⟨h1, h2, h3⟩, rfl⟩
theorem edTo_mem {b S : List (List Int)} {p : Int × Int} : p ∈ edTo b S b.length ↔ ∃ i j : Nat, p = ((i : Int), (j : Int)) ∧ i < j ∧ j < b.length ∧ addL (b.getD i []) (b.getD j []) ∈ S := by
  unfold edTo
  simp only [List.mem_flatMap, List.mem_range, edRow_mem]
  constructor
  · rintro ⟨i, _, j, h⟩; exact ⟨i, j, h⟩
  · rintro ⟨i, j, h1, h2, h3, h4⟩; exact ⟨i, by omega, j, h1, h2, h3, h4⟩
/-- One row, made up to column m. -/
def edPart (b S : List (List Int)) (i m : Nat) : List (Int × Int) := ((List.range m).filter fun j => decide (i < j) && decide (addL (b.getD i []) (b.getD j []) ∈ S)).map fun j : Nat => ((i : Int), (j : Int))
theorem edPart_full (b S : List (List Int)) (i : Nat) : edPart b S i b.length = edRow b S i := rfl
theorem edPart_low (b S : List (List Int)) (i : Nat) : edPart b S i (i + 1) = [] := by
  unfold edPart
  rw [List.filter_eq_nil_iff.2]
  · rfl
  · intro x hx
    have := List.mem_range.1 hx
    simp; omega
theorem edPart_succ (b S : List (List Int)) {i m : Nat} (h : i < m) : edPart b S i (m + 1) = edPart b S i m ++ if addL (b.getD i []) (b.getD m []) ∈ S then [((i : Int), (m : Int))] else [] := by
  unfold edPart
  rw [List.range_succ, List.filter_append, List.map_append]
  by_cases hc : addL (b.getD i []) (b.getD m []) ∈ S
  · rw [if_pos hc, List.filter_cons_of_pos (by simp [h]; simpa using hc)]; rfl
  · rw [if_neg hc, List.filter_cons_of_neg (by simp [h]; simpa using hc)]; rfl
theorem edTo_congr {b S S' : List (List Int)} (h : ∀ i j, i < b.length → j < b.length → (addL (b.getD i []) (b.getD j []) ∈ S ↔ addL (b.getD i []) (b.getD j []) ∈ S')) : edTo b S b.length = edTo b S' b.length := by
  unfold edTo
  have : ∀ i ∈ List.range b.length, edRow b S i = edRow b S' i := by
    intro i hi
    unfold edRow
    have hf : ((List.range b.length).filter fun j => decide (i < j) && decide (addL (b.getD i []) (b.getD j []) ∈ S)) = (List.range b.length).filter fun j => decide (i < j) && decide (addL (b.getD i []) (b.getD j []) ∈ S') :=
      List.filter_congr (fun j hj => by rw [decide_eq_decide.2 (h i j (List.mem_range.1 hi) (List.mem_range.1 hj))])
    rw [hf]
  rw [List.flatMap_def, List.flatMap_def, List.map_congr_left this]
/-- The products within the blocks. -/
def blockAll (b : List (List Int)) (ls : List (List Int)) : List (List Int) := ls.flatMap fun l => l.flatMap fun i => l.map fun j => addL (b.getD i.toNat []) (b.getD j.toNat [])
end Go.Sp
end
