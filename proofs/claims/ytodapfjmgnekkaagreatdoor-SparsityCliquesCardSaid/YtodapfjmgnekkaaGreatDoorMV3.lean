/- Parts of the proof: E6, E8, SP0, SP1, SP2, GWB, GWC, GWD. -/
import Derived.Deep.RegionWith
import Derived.Deep.RegionHeld3
import Derived.Deep.DeepCutAuto
import Derived.Maps.AppendAt
import Derived.Test.YtodapfjmgnekkaaGreatDoorMV0
import Derived.Test.YtodapfjmgnekkaaGreatDoorMV2
section
/- Sums of sign vectors: plain. -/
namespace Go.Ev
open Go.Gr Go.Mo
theorem V_zero (rows : List (List Int)) (n : Nat) : V rows n 0 :=
  ⟨Nat.two_pow_pos n, fun row _ => by have := pr_xor row 0 0 n; rw [Nat.xor_self] at this; omega⟩
/-- The sum of the vectors of a list that a number selects by its bits. -/
def selX (K : List Nat) (b : Nat) : Nat → Nat
  | 0 => 0
  | i + 1 => selX K b i ^^^ (if b.testBit i = true then K.getD i 0 else 0)
theorem selX_V {rows : List (List Int)} {n : Nat} {K : List Nat} (hK : ∀ x ∈ K, V rows n x) (b : Nat) : ∀ i, V rows n (selX K b i)
  | 0 => V_zero rows n
  | i + 1 => by
    unfold selX
    refine (V_space rows n).xor _ _ (selX_V hK b i) ?_
    split
    · by_cases h : i < K.length
      · have : K.getD i 0 = K[i] := by simp [h]
        rw [this]; exact hK _ (List.getElem_mem _)
      · have : K.getD i 0 = 0 := by simp [h]
        rw [this]; exact V_zero rows n
    · exact V_zero rows n
theorem selX_lt {n : Nat} {K : List Nat} (hK : ∀ x ∈ K, x < 2 ^ n) (b : Nat) : ∀ i, selX K b i < 2 ^ n
  | 0 => Nat.two_pow_pos n
  | i + 1 => by
    unfold selX
    refine Nat.xor_lt_two_pow (selX_lt hK b i) ?_
    split
    · by_cases h : i < K.length
      · have : K.getD i 0 = K[i] := by simp [h]
        rw [this]; exact hK _ (List.getElem_mem _)
      · have : K.getD i 0 = 0 := by simp [h]
        rw [this]; exact Nat.two_pow_pos n
    · exact Nat.two_pow_pos n
theorem unp_zero (n : Nat) : unp 0 n = List.replicate n 0 := by
  unfold unp
  simp [List.map_const']
/-- The sum of two vectors, made up to position k. -/
def mixL (x y n k : Nat) : List Int := unp (x ^^^ y) k ++ (unp x n).drop k
theorem mixL_len (x y : Nat) {n k : Nat} (h : k ≤ n) : (mixL x y n k).length = n := by
  unfold mixL
  rw [List.length_append, unp_len, List.length_drop, unp_len]; omega
theorem mixL_zero (x y n : Nat) : mixL x y n 0 = unp x n := by simp [mixL, unp]
theorem mixL_full (x y n : Nat) : mixL x y n n = unp (x ^^^ y) n := by
  unfold mixL
  rw [List.drop_of_length_le (by rw [unp_len]; exact Nat.le_refl _), List.append_nil]
theorem mixL_at (x y : Nat) {n k : Nat} (h : k < n) : (mixL x y n k)[k]'(by rw [mixL_len x y (by omega)]; exact h) = if x.testBit k = true then 1 else 0 := by
  unfold mixL
  rw [List.getElem_append_right (by rw [unp_len]; exact Nat.le_refl _)]
  simp [unp]
theorem mixL_set (x y : Nat) {n k : Nat} (h : k < n) : (mixL x y n k).set k (if (x ^^^ y).testBit k = true then 1 else 0) = mixL x y n (k + 1) := by
  have hd : (unp x n).drop k = (if x.testBit k = true then 1 else 0) :: (unp x n).drop (k + 1) := by
    rw [List.drop_eq_getElem_cons (by rw [unp_len]; exact h)]
    simp [unp]
  have hu : unp (x ^^^ y) (k + 1) = unp (x ^^^ y) k ++ [if (x ^^^ y).testBit k = true then 1 else 0] := by
    unfold unp; rw [List.range_succ, List.map_append]; rfl
  unfold mixL
  rw [hd, hu, List.set_append_right _ _ (by rw [unp_len]; exact Nat.le_refl _), unp_len, Nat.sub_self, List.set_cons_zero, List.append_assoc]
  rfl
theorem bit_step (p q b : Bool) : ((if p = true then (1 : Int) else 0) + (if q = true then 1 else 0) * (if b = true then 1 else 0)) % 2 = if (p ^^ (b && q)) = true then 1 else 0 := by
  cases p <;> cases q <;> cases b <;> rfl
theorem sel_bit (u : Nat) (b : Bool) (k : Nat) : (if b = true then u else 0).testBit k = (b && u.testBit k) := by
  cases b <;> simp
/-- A vector of the space changes no term. -/
theorem odd_V {rows : List (List Int)} {n x : Nat} (hn : n ≤ 64) (h : V rows n x) {e : List Int} (he : e ∈ rows) (hl : e.length = n) : oddT (unp x n) e = false := by
  unfold oddT
  rw [unp_len, pk_unp h.1, hl, size_and e x n hn]
  have := h.2 e he
  simp [this]
theorem V_odd {rows : List (List Int)} {n x : Nat} (hn : n ≤ 64) (hx : x < 2 ^ n) (hr : ∀ e ∈ rows, e.length = n) (h : ∀ e ∈ rows, oddT (unp x n) e = false) : V rows n x := by
  refine ⟨hx, fun e he => ?_⟩
  have := h e he
  unfold oddT at this
  rw [unp_len, pk_unp hx, hr e he, size_and e x n hn] at this
  have h2 : ¬ pr e x n % 2 = 1 := by simpa using this
  omega
end Go.Ev
end
section
/- Classes and products of monomials: plain. -/
namespace Go.Ev
open Go.Gr Go.Mo
/-- What the classes hold: the keys are different, each index is in the class of its key. -/
structure ClsInv (ks : List (List Int)) (i : Nat) : Prop where
  nodup : (clsSt ks i).1.Nodup
  mem : ∀ x, x < i → ks.getD x [] ∈ (clsSt ks i).1
  cls : ∀ j, j < (clsSt ks i).1.length → (clsSt ks i).2.getD j [] = (List.range i).filter (fun x => decide (ks.getD x [] = (clsSt ks i).1.getD j []))
theorem getD_idxOf {K : List (List Int)} {q : List Int} (h : K.idxOf q < K.length) : K.getD (K.idxOf q) [] = q := by
  simp [List.getD_eq_getElem?_getD, h]
theorem clsInv (ks : List (List Int)) : ∀ i, ClsInv ks i
  | 0 => ⟨by simp [clsSt], fun x h => by omega, fun j h => by simp [clsSt] at h⟩
  | i + 1 => by
    have ih := clsInv ks i
    have hl := (clsSt_len ks i).1
    obtain ⟨h1, h2, h3⟩ := ih
    by_cases hc : (clsSt ks i).1.idxOf (ks.getD i []) < (clsSt ks i).1.length
    · have e := clsSt_old hc
      have hq := getD_idxOf hc
      refine ⟨by rw [e]; exact h1, fun x hx => ?_, fun j hj => ?_⟩
      · rw [e]
        by_cases hxi : x < i
        · exact h2 x hxi
        · obtain rfl : x = i := by omega
          exact List.idxOf_lt_length_iff.1 hc
      · rw [e] at hj ⊢
        simp only at hj ⊢
        have h3j := h3 j hj
        rw [List.range_succ, List.filter_append]
        generalize (clsSt ks i).1.idxOf (ks.getD i []) = k at *
        by_cases hjk : j = k
        · subst hjk
          rw [List.getD_eq_getElem?_getD, List.getElem?_set_self (by omega), Option.getD_some, h3j]
          rw [hq]
          simp
        · have hne : ¬ ks.getD i [] = (clsSt ks i).1.getD j [] := by
            rw [← hq]
            intro he
            have a1 : (clsSt ks i).1.getD k [] = (clsSt ks i).1[k] := by simp [hc]
            have a2 : (clsSt ks i).1.getD j [] = (clsSt ks i).1[j] := by simp [hj]
            rw [a1, a2] at he
            exact hjk ((List.getElem_inj h1).1 he).symm
          rw [List.getD_eq_getElem?_getD, List.getElem?_set_ne (by omega), ← List.getD_eq_getElem?_getD, h3j]
          simpa [List.filter_cons] using hne
    · have e := clsSt_new hc
      have hq : ks.getD i [] ∉ (clsSt ks i).1 := fun h => hc (List.idxOf_lt_length_iff.2 h)
      refine ⟨?_, fun x hx => ?_, fun j hj => ?_⟩
      · rw [e]
        refine List.nodup_append.2 ⟨h1, by simp, fun a ha b hb => ?_⟩
        rw [List.mem_singleton.1 hb]
        rintro rfl
        exact hq ha
      · rw [e]
        by_cases hxi : x < i
        · exact List.mem_append_left _ (h2 x hxi)
        · obtain rfl : x = i := by omega
          exact List.mem_append_right _ (by simp)
      · rw [e] at hj ⊢
        simp only at hj ⊢
        rw [List.range_succ, List.filter_append]
        by_cases hji : j < (clsSt ks i).1.length
        · have h3j := h3 j hji
          have a1 : ((clsSt ks i).1 ++ [ks.getD i []]).getD j [] = (clsSt ks i).1.getD j [] := by
            simp only [List.getD_eq_getElem?_getD, List.getElem?_append_left hji]
          have a2 : ((clsSt ks i).2 ++ [[i]]).getD j [] = (clsSt ks i).2.getD j [] := by
            simp only [List.getD_eq_getElem?_getD, List.getElem?_append_left (show j < (clsSt ks i).2.length by omega)]
          have hne : ¬ ks.getD i [] = (clsSt ks i).1.getD j [] := by
            intro he
            have a1 : (clsSt ks i).1.getD j [] = (clsSt ks i).1[j] := by simp [hji]
            rw [a1] at he
            exact hq (by rw [he]; exact List.getElem_mem _)
          rw [a1, a2, h3j]
          simpa [List.filter_cons] using hne
        · have hj2 : j = (clsSt ks i).1.length := by
            rw [List.length_append, List.length_cons, List.length_nil] at hj; omega
          subst hj2
          have a1 : ((clsSt ks i).1 ++ [ks.getD i []]).getD (clsSt ks i).1.length [] = ks.getD i [] := by
            simp [List.getD_eq_getElem?_getD]
          have a2 : ((clsSt ks i).2 ++ [[i]]).getD (clsSt ks i).1.length [] = [i] := by
            rw [hl]; simp [List.getD_eq_getElem?_getD]
          rw [a1, a2]
          have hn : (List.range i).filter (fun x => decide (ks.getD x [] = ks.getD i [])) = [] := by
            rw [List.filter_eq_nil_iff]
            intro x hx
            have := h2 x (List.mem_range.1 hx)
            simp only [decide_eq_true_eq]
            intro he
            exact hq (he ▸ this)
          rw [hn]
          simp
/-- The number of the class of an index. -/
def cix (ks : List (List Int)) (x : Nat) : Nat := (clsSt ks ks.length).1.idxOf (ks.getD x [])
theorem cix_lt {ks : List (List Int)} {x : Nat} (h : x < ks.length) : cix ks x < (clsSt ks ks.length).2.length := by
  rw [← (clsSt_len ks ks.length).1]
  exact List.idxOf_lt_length_iff.2 ((clsInv ks ks.length).mem x h)
theorem cix_mem {ks : List (List Int)} {x j : Nat} (hj : j < (clsSt ks ks.length).2.length) : x ∈ (clsSt ks ks.length).2.getD j [] ↔ x < ks.length ∧ cix ks x = j := by
  have hI := clsInv ks ks.length
  rw [← (clsSt_len ks ks.length).1] at hj
  rw [hI.cls j hj, List.mem_filter, List.mem_range]
  refine ⟨fun ⟨h1, h2⟩ => ⟨h1, ?_⟩, fun ⟨h1, h2⟩ => ⟨h1, ?_⟩⟩
  · have h2 := of_decide_eq_true h2
    unfold cix
    have a1 : (clsSt ks ks.length).1.getD j [] = (clsSt ks ks.length).1[j] := by simp [hj]
    rw [h2, a1]
    exact hI.nodup.idxOf_getElem j hj
  · refine decide_eq_true ?_
    subst h2
    exact (getD_idxOf (List.idxOf_lt_length_iff.2 (hI.mem x h1))).symm
theorem cix_nodup (ks : List (List Int)) (j : Nat) : ((clsSt ks ks.length).2.getD j []).Nodup := by
  by_cases hj : j < (clsSt ks ks.length).1.length
  · rw [(clsInv ks ks.length).cls j hj]
    exact List.nodup_range.filter _
  · have : (clsSt ks ks.length).2.getD j [] = [] := by
      rw [(clsSt_len ks ks.length).1] at hj
      rw [List.getD_eq_getElem?_getD, List.getElem?_eq_none (by omega)]; rfl
    rw [this]; exact List.nodup_nil
theorem cix_eq {ks : List (List Int)} {x y : Nat} (hx : x < ks.length) (hy : y < ks.length) : cix ks x = cix ks y ↔ ks.getD x [] = ks.getD y [] := by
  have hI := clsInv ks ks.length
  refine ⟨fun h => ?_, fun h => by unfold cix; rw [h]⟩
  have h1 := getD_idxOf (List.idxOf_lt_length_iff.2 (hI.mem x hx))
  have h2 := getD_idxOf (List.idxOf_lt_length_iff.2 (hI.mem y hy))
  rw [← h1, ← h2]
  unfold cix at h
  rw [h]
/-- The numbers of the classes, made up to element k of class i. -/
def mkd (ix : Nat → Nat) (C : List Nat) (n i k : Nat) : List Int := (List.range n).map fun x => if ix x < i then (ix x : Int) + 1 else if ix x = i ∧ x ∈ C.take k then (i : Int) + 1 else 0
theorem mkd_len (ix : Nat → Nat) (C : List Nat) (n i k : Nat) : (mkd ix C n i k).length = n := by simp [mkd]
theorem mkd_zero (ix : Nat → Nat) (C : List Nat) (n : Nat) : mkd ix C n 0 0 = List.replicate n 0 := by
  unfold mkd
  rw [List.eq_replicate_iff]
  refine ⟨by simp, fun b hb => ?_⟩
  obtain ⟨x, _, rfl⟩ := List.mem_map.1 hb
  simp
theorem mkd_get (ix : Nat → Nat) (C : List Nat) {n i k x : Nat} (hx : x < n) : (mkd ix C n i k)[x]'(by rw [mkd_len]; exact hx) = if ix x < i then (ix x : Int) + 1 else if ix x = i ∧ x ∈ C.take k then (i : Int) + 1 else 0 := by simp [mkd]
theorem mkd_at (ix : Nat → Nat) (C : List Nat) {n i k x : Nat} (hx : x < n) (hi : ix x = i) (hC : C.Nodup) (hk : k < C.length) (he : C[k] = x) : (mkd ix C n i k)[x]'(by rw [mkd_len]; exact hx) = 0 := by
  rw [mkd_get ix C hx, if_neg (by omega), if_neg]
  rintro ⟨_, hm⟩
  rw [List.mem_take_iff_getElem] at hm
  obtain ⟨j, hj, hjx⟩ := hm
  have := (List.getElem_inj hC).1 (hjx.trans he.symm)
  omega
theorem mkd_set (ix : Nat → Nat) (C : List Nat) {n i k x : Nat} (_hx : x < n) (hi : ix x = i) (hk : k < C.length) (he : C[k] = x) : (mkd ix C n i k).set x ((i : Int) + 1) = mkd ix C n i (k + 1) := by
  refine List.ext_getElem (by simp [mkd]) fun j h1 h2 => ?_
  have hj : j < n := by rw [mkd_len] at h2; exact h2
  rw [mkd_get ix C hj, List.getElem_set]
  have ht : C.take (k + 1) = C.take k ++ [x] := by rw [List.take_succ_eq_append_getElem hk, he]
  by_cases hjx : x = j
  · subst hjx
    rw [if_pos rfl, if_neg (by omega), if_pos ⟨hi, by rw [ht]; simp⟩]
  · rw [if_neg hjx, mkd_get ix C hj]
    have e : (j ∈ C.take (k + 1)) ↔ j ∈ C.take k := by
      rw [ht]
      simp only [List.mem_append, List.mem_singleton]
      exact ⟨fun h => h.resolve_right (fun e => hjx e.symm), .inl⟩
    simp only [e]
theorem mkd_next (ix : Nat → Nat) (C C' : List Nat) {n i : Nat} (h : ∀ x, x < n → ix x = i → x ∈ C) : mkd ix C n i C.length = mkd ix C' n (i + 1) 0 := by
  unfold mkd
  refine List.map_congr_left fun x hx => ?_
  have hx := List.mem_range.1 hx
  rw [List.take_length, List.take_zero]
  by_cases h1 : ix x < i
  · rw [if_pos h1, if_pos (by omega)]
  · by_cases h2 : ix x = i
    · rw [if_neg h1, if_pos ⟨h2, h x hx h2⟩, if_pos (by omega), h2]
    · rw [if_neg h1, if_neg (fun e => h2 e.1), if_neg (by omega), if_neg (by simp)]
theorem mkd_full (ix : Nat → Nat) (C : List Nat) {n m x : Nat} (hx : x < n) (h : ix x < m) : (mkd ix C n m 0)[x]'(by rw [mkd_len]; exact hx) = (ix x : Int) + 1 := by
  rw [mkd_get ix C hx, if_pos h]
/-- The sum of two monomials. -/
def addL (a b : List Int) : List Int := List.zipWith (· + ·) a b
theorem addL_len {a b : List Int} (h : a.length = b.length) : (addL a b).length = a.length := by simp [addL, h]
theorem addL_getD {a b : List Int} (h : a.length = b.length) (i : Nat) : (addL a b).getD i 0 = a.getD i 0 + b.getD i 0 := by
  unfold addL
  simp only [List.getD_eq_getElem?_getD, List.getElem?_zipWith]
  rcases Nat.lt_or_ge i a.length with h1 | h1
  · rw [List.getElem?_eq_getElem h1, List.getElem?_eq_getElem (by omega)]; rfl
  · rw [List.getElem?_eq_none h1, List.getElem?_eq_none (by omega)]; rfl
theorem dotN_add {a b : List Int} (h : a.length = b.length) (v : List Int) : ∀ n, dotN (addL a b) v n = dotN a v n + dotN b v n
  | 0 => rfl
  | n + 1 => by
    simp only [dotN]
    rw [dotN_add h v n, addL_getD h, Int.add_mul]; omega
/-- The character of a product is 0 exactly if the characters are equal. -/
theorem chr_zero_iff {s : List (List Int)} {a b : List Int} (h : a.length = b.length) : chr s (addL a b) = List.replicate s.length 0 ↔ chr s a = chr s b := by
  unfold chr
  rw [List.eq_replicate_iff, List.map_inj_left]
  constructor
  · rintro ⟨_, h1⟩ v hv
    have := h1 _ (List.mem_map_of_mem hv)
    rw [dotN_add h] at this
    omega
  · intro h1
    refine ⟨by simp, fun x hx => ?_⟩
    obtain ⟨v, hv, rfl⟩ := List.mem_map.1 hx
    have := h1 v hv
    rw [dotN_add h]
    omega
/-- The exponents of a term have the character 0. -/
theorem chr_row {rows : List (List Int)} {n : Nat} {K : List Nat} (hn : n ≤ 64) (hK : ∀ x ∈ K, V rows n x) {e : List Int} (he : e ∈ rows) (hl : e.length = n) (h0 : ∀ x ∈ e, 0 ≤ x) : chr (K.map (unp · n)) e = List.replicate (K.map (unp · n)).length 0 := by
  unfold chr
  rw [List.eq_replicate_iff]
  refine ⟨by simp, fun x hx => ?_⟩
  obtain ⟨v, hv, rfl⟩ := List.mem_map.1 hx
  obtain ⟨y, hy, rfl⟩ := List.mem_map.1 hv
  have h1 := odd_V hn (hK y hy) he hl
  unfold oddT at h1
  rw [chr_odd (unp_bit y n) h0 (by rw [unp_len, hl]) (by omega)]
  have h2 := of_decide_eq_false h1
  rw [if_neg h2]
/-- The coefficient of a monomial among terms. -/
def cof (ts : List Term) (m : List Int) (z : ByteArray) : ByteArray := match ts.find? (fun t => decide (t.2 = m)) with
  | some t => t.1
  | none => z
theorem cof_none {ts : List Term} {m : List Int} {z : ByteArray} (h : ∀ t ∈ ts, t.2 ≠ m) : cof ts m z = z := by
  unfold cof
  rw [List.find?_eq_none.2 (fun t ht => by simp; exact h t ht)]
end Go.Ev
end
section
/- Partitions made vertex by vertex from an equivalence, and a coarser one: plain. -/
namespace Go.Sp
open Classical
structure Eqv (C : Nat → Nat → Prop) : Prop where
  refl : ∀ a, C a a
  symm : ∀ a b, C a b → C b a
  trans : ∀ a b c, C a b → C b c → C a c
inductive MadeR (C : Nat → Nat → Prop) : Nat → List (List Int) → Prop
  | zero : MadeR C 0 []
  | skip {k : Nat} {ls : List (List Int)} : MadeR C k ls → (∃ l ∈ ls, (k : Int) ∈ l) → MadeR C (k + 1) ls
  | add {k : Nat} {ls : List (List Int)} {l : List Int} : MadeR C k ls → (∀ m ∈ ls, (k : Int) ∉ m) → l.Pairwise (· < ·) → (∀ x : Int, x ∈ l ↔ ∃ v : Nat, x = v ∧ C k v) → MadeR C (k + 1) (ls ++ [l])
theorem asc_same {l m : List Int} (hl : l.Pairwise (· < ·)) (hm : m.Pairwise (· < ·)) (h : ∀ x, x ∈ l ↔ x ∈ m) : l = m := by
  have nd : ∀ {l : List Int}, l.Pairwise (· < ·) → l.Nodup := fun h => h.imp (fun hab e => by omega)
  have hp : l.Perm m := (List.perm_ext_iff_of_nodup (nd hl) (nd hm)).2 h
  exact List.Perm.eq_of_pairwise (le := (· < ·)) (fun a b _ _ h1 h2 => by omega) hl hm hp
theorem MadeR.same {C C' : Nat → Nat → Prop} : ∀ {k : Nat} {ls ms : List (List Int)}, (∀ a b, a < k → (C a b ↔ C' a b)) → MadeR C k ls → MadeR C' k ms → ls = ms := by
  intro k
  induction k with
  | zero => intro ls ms _ h1 h2; cases h1; cases h2; rfl
  | succ k ih =>
    intro ls ms hc h1 h2
    have hc' : ∀ a b, a < k → (C a b ↔ C' a b) := fun a b h => hc a b (by omega)
    cases h1 with
    | skip h1 e1 =>
      cases h2 with
      | skip h2 e2 => exact ih hc' h1 h2
      | add h2 e2 _ _ =>
        obtain ⟨l, hl, hk⟩ := e1
        rw [ih hc' h1 h2] at hl
        exact absurd hk (e2 l hl)
    | add h1 e1 p1 q1 =>
      cases h2 with
      | skip h2 e2 =>
        obtain ⟨l, hl, hk⟩ := e2
        rw [← ih hc' h1 h2] at hl
        exact absurd hk (e1 l hl)
      | add h2 e2 p2 q2 =>
        rw [ih hc' h1 h2, asc_same p1 p2 (fun x => (q1 x).trans (Iff.trans ⟨fun ⟨v, e, h⟩ => ⟨v, e, (hc k v (by omega)).1 h⟩, fun ⟨v, e, h⟩ => ⟨v, e, (hc k v (by omega)).2 h⟩⟩ (q2 x).symm))]
/-- Each block is the class of a number. -/
theorem MadeR.each {C : Nat → Nat → Prop} {k : Nat} {ls : List (List Int)} (h : MadeR C k ls) : ∀ l ∈ ls, ∃ r, r < k ∧ ∀ x : Int, x ∈ l ↔ ∃ v : Nat, x = v ∧ C r v := by
  induction h with
  | zero => intro l hl; cases hl
  | skip _ _ ih => intro l hl; obtain ⟨r, h1, h2⟩ := ih l hl; exact ⟨r, by omega, h2⟩
  | @add k ls l _ _ _ q ih =>
    intro m hm
    rcases List.mem_append.1 hm with h | h
    · obtain ⟨r, h1, h2⟩ := ih m h; exact ⟨r, by omega, h2⟩
    · rw [List.mem_singleton.1 h]; exact ⟨k, by omega, q⟩
/-- Which numbers are in a block. -/
theorem MadeR.mem {C : Nat → Nat → Prop} (hE : Eqv C) {k : Nat} {ls : List (List Int)} (h : MadeR C k ls) (v : Nat) : (∃ l ∈ ls, (v : Int) ∈ l) ↔ ∃ j, j < k ∧ C j v := by
  induction h with
  | zero => simp
  | @skip k ls _ e ih =>
    rw [ih]
    constructor
    · rintro ⟨j, h1, h2⟩; exact ⟨j, by omega, h2⟩
    · rintro ⟨j, h1, h2⟩
      by_cases hj : j < k
      · exact ⟨j, hj, h2⟩
      · obtain rfl : j = k := by omega
        rw [← ih]
        obtain ⟨l, hl, hk⟩ := e
        refine ⟨l, hl, ?_⟩
        rename_i hM
        obtain ⟨r, _, hr⟩ := hM.each l hl
        obtain ⟨v', e1, e2⟩ := (hr j).1 hk
        obtain rfl : j = v' := by omega
        exact (hr v).2 ⟨v, rfl, hE.trans _ _ _ e2 h2⟩
  | @add k ls l _ e p q ih =>
    constructor
    · rintro ⟨m, hm, hv⟩
      rcases List.mem_append.1 hm with h | h
      · obtain ⟨j, h1, h2⟩ := ih.1 ⟨m, h, hv⟩; exact ⟨j, by omega, h2⟩
      · rw [List.mem_singleton.1 h] at hv
        obtain ⟨v', e1, e2⟩ := (q v).1 hv
        obtain rfl : v = v' := by omega
        exact ⟨k, by omega, e2⟩
    · rintro ⟨j, h1, h2⟩
      by_cases hj : j < k
      · obtain ⟨m, hm, hv⟩ := ih.2 ⟨j, hj, h2⟩
        exact ⟨m, List.mem_append_left _ hm, hv⟩
      · obtain rfl : j = k := by omega
        exact ⟨l, List.mem_append_right _ (by simp), (q v).2 ⟨v, rfl, h2⟩⟩
/-- The least numbers of the classes. -/
noncomputable def isRep (C : Nat → Nat → Prop) (j : Nat) : Bool := @decide (∀ i, i < j → ¬ C i j) (Classical.propDecidable _)
theorem isRep_iff {C : Nat → Nat → Prop} {j : Nat} : isRep C j = true ↔ ∀ i, i < j → ¬ C i j := by unfold isRep; exact @decide_eq_true_iff _ (Classical.propDecidable _)
noncomputable def reps (C : Nat → Nat → Prop) (k : Nat) : List Nat := (List.range k).filter (isRep C)
theorem MadeR.length {C : Nat → Nat → Prop} (hE : Eqv C) {k : Nat} {ls : List (List Int)} (h : MadeR C k ls) : ls.length = (reps C k).length := by
  induction h with
  | zero => rfl
  | @skip k ls hM e ih =>
    rw [ih]
    unfold reps
    rw [List.range_succ, List.filter_append]
    have : ¬ ∀ i, i < k → ¬ C i k := by
      obtain ⟨j, h1, h2⟩ := (hM.mem hE k).1 e
      exact fun h => h j h1 h2
    have hf : [k].filter (isRep C) = [] := by
      rw [List.filter_cons_of_neg (fun h => this (isRep_iff.1 h))]; rfl
    rw [List.length_append, hf]; rfl
  | @add k ls l hM e p q ih =>
    rw [List.length_append, ih]
    unfold reps
    rw [List.range_succ, List.filter_append]
    have : ∀ i, i < k → ¬ C i k := fun i hi hc => by
      obtain ⟨m, hm, hv⟩ := (hM.mem hE k).2 ⟨i, hi, hc⟩
      exact e m hm hv
    have hf : [k].filter (isRep C) = [k] := by
      rw [List.filter_cons_of_pos (isRep_iff.2 this)]; rfl
    rw [List.length_append, hf]; rfl
theorem least {P : Nat → Prop} {n : Nat} (h : P n) : ∃ m, P m ∧ m ≤ n ∧ ∀ i, i < m → ¬ P i := by
  induction n using Nat.strongRecOn with
  | _ n ih =>
    by_cases hc : ∃ i, i < n ∧ P i
    · obtain ⟨i, hi, hp⟩ := hc
      obtain ⟨m, h1, h2, h3⟩ := ih i hi hp
      exact ⟨m, h1, by omega, h3⟩
    · exact ⟨n, h, Nat.le_refl _, fun i hi hp => hc ⟨i, hi, hp⟩⟩
theorem sub_back {a b : List Nat} (ha : a.Nodup) (hs : ∀ x ∈ a, x ∈ b) (hl : b.length ≤ a.length) : ∀ x ∈ b, x ∈ a := by
  intro x hx
  apply Classical.byContradiction
  intro hn
  have h1 : (x :: a).Nodup := List.nodup_cons.2 ⟨hn, ha⟩
  have h2 : ∀ y ∈ x :: a, y ∈ b := fun y hy => by
    rcases List.mem_cons.1 hy with rfl | h
    · exact hx
    · exact hs y h
  have := h1.length_le_of_subset h2
  simp at this
  omega
section
variable {C C' : Nat → Nat → Prop} {n : Nat} {ls ms : List (List Int)}
theorem reps_sub (hs : ∀ a b, C a b → C' a b) : ∀ x ∈ reps C' n, x ∈ reps C n := by
  intro x hx
  unfold reps at hx ⊢
  rw [List.mem_filter] at hx ⊢
  refine ⟨hx.1, isRep_iff.2 fun i hi hc => ?_⟩
  exact (isRep_iff.1 hx.2) i hi (hs i x hc)
theorem reps_nodup (C : Nat → Nat → Prop) (n : Nat) : (reps C n).Nodup := List.nodup_range.filter _
/-- A coarser equivalence has no more blocks. -/
theorem coarse_le (hE : Eqv C) (hE' : Eqv C') (hs : ∀ a b, C a b → C' a b) (h : MadeR C n ls) (h' : MadeR C' n ms) : ms.length ≤ ls.length := by
  rw [h.length hE, h'.length hE']
  exact (reps_nodup C' n).length_le_of_subset (reps_sub hs)
/-- Each block lies in one of the coarser ones. -/
theorem coarse_sub (hE' : Eqv C') (hs : ∀ a b, C a b → C' a b) (h : MadeR C n ls) (h' : MadeR C' n ms) : ∀ l ∈ ls, ∃ m ∈ ms, ∀ x ∈ l, x ∈ m := by
  intro l hl
  obtain ⟨r, hr, hx⟩ := h.each l hl
  obtain ⟨m, hm, hv⟩ := (h'.mem hE' r).2 ⟨r, hr, hE'.refl r⟩
  obtain ⟨q, _, hy⟩ := h'.each m hm
  obtain ⟨r', e1, e2⟩ := (hy r).1 hv
  obtain rfl : r = r' := by omega
  refine ⟨m, hm, fun x hxl => ?_⟩
  obtain ⟨v, e3, e4⟩ := (hx x).1 hxl
  exact (hy x).2 ⟨v, e3, hE'.trans _ _ _ e2 (hs _ _ e4)⟩
/-- Equally many blocks: the same blocks. -/
theorem coarse_eq (hE : Eqv C) (hE' : Eqv C') (hs : ∀ a b, C a b → C' a b) (hn : ∀ a b, a < n → C' a b → b < n) (h : MadeR C n ls) (h' : MadeR C' n ms) (hl : ms.length = ls.length) : ls = ms := by
  have hr : ∀ x, x ∈ reps C n → x ∈ reps C' n := by
    have hle : (reps C n).length ≤ (reps C' n).length := by rw [← h.length hE, ← h'.length hE', hl]; exact Nat.le_refl _
    exact fun x hx => sub_back (reps_nodup C' n) (reps_sub hs) hle x hx
  refine MadeR.same (fun a b ha => ⟨hs a b, fun hc => ?_⟩) h h'
  have hb := hn a b ha hc
  have key : ∀ v, v < n → ∃ m, m < n ∧ C m v ∧ ∀ i, i < m → ¬ C' i m := by
    intro v hv
    obtain ⟨m, h1, h2, h3⟩ := least (P := fun m => C m v) (hE.refl v)
    refine ⟨m, by omega, h1, ?_⟩
    have hm : m ∈ reps C n := by
      unfold reps
      rw [List.mem_filter]
      exact ⟨List.mem_range.2 (by omega), isRep_iff.2 fun i hi hc => h3 i hi (hE.trans _ _ _ hc h1)⟩
    have := hr m hm
    unfold reps at this
    exact isRep_iff.1 (List.mem_filter.1 this).2
  obtain ⟨r, r1, r2, r3⟩ := key a ha
  obtain ⟨q, q1, q2, q3⟩ := key b hb
  have hrq : C' r q := hE'.trans _ _ _ (hs _ _ r2) (hE'.trans _ _ _ hc (hE'.symm _ _ (hs _ _ q2)))
  have : r = q := by
    rcases Nat.lt_trichotomy r q with h | h | h
    · exact absurd hrq (q3 r h)
    · exact h
    · exact absurd (hE'.symm _ _ hrq) (r3 q h)
  subst this
  exact hE.trans _ _ _ (hE.symm _ _ r2) q2
end
end Go.Sp
end
section
/- Rounds of coarser and coarser partitions; the first round behind which nothing changes: plain. -/
namespace Go.Sp
structure Rounds (N : Nat) where
  C : Nat → Nat → Nat → Prop
  B : Nat → List (List Int)
  eqv : ∀ t, Eqv (C t)
  mono : ∀ t a b, C t a b → C (t + 1) a b
  lt : ∀ t a b, a < N → C t a b → b < N
  made : ∀ t, MadeR (C t) N (B t)
section
variable {N : Nat} (R : Rounds N)
theorem Rounds.len_le (t : Nat) : (R.B (t + 1)).length ≤ (R.B t).length := coarse_le (R.eqv t) (R.eqv (t + 1)) (R.mono t) (R.made t) (R.made (t + 1))
theorem Rounds.sub (t : Nat) : ∀ l ∈ R.B t, ∃ m ∈ R.B (t + 1), ∀ x ∈ l, x ∈ m := coarse_sub (R.eqv (t + 1)) (R.mono t) (R.made t) (R.made (t + 1))
theorem Rounds.first_le : (R.B 0).length ≤ N := by
  rw [(R.made 0).length (R.eqv 0)]
  have := (reps_nodup (R.C 0) N).length_le_of_subset (l₂ := List.range N) (fun x hx => (List.mem_filter.1 hx).1)
  simpa using this
/-- The blocks of the first m rounds are each time fewer. -/
def Rounds.Fell (m : Nat) : Prop := ∀ t, t + 1 < m → (R.B (t + 1)).length ≠ (R.B t).length
/-- The loop has ended with the number m. -/
structure Rounds.Final (k m : Nat) : Prop where
  pos : 1 ≤ m
  le : m ≤ k
  fell : R.Fell m
  fin : m = k ∨ (R.B m).length = (R.B (m - 1)).length
theorem Rounds.fell_len {m : Nat} (h : R.Fell m) : ∀ t, t < m → (R.B t).length + t ≤ N
  | 0, _ => by have := R.first_le; omega
  | t + 1, ht => by
    have h1 := Rounds.fell_len h t (by omega)
    have h2 := R.len_le t
    have h3 := h t ht
    omega
theorem Rounds.fell_le {m : Nat} (h : R.Fell m) : m ≤ N + 1 := by
  rcases Nat.lt_or_ge (N + 1) m with h1 | h1
  · have := R.fell_len h (N + 1) h1
    omega
  · exact h1
theorem Rounds.fell_succ {m : Nat} (h : R.Fell m) (h1 : 1 ≤ m) (hn : (R.B m).length ≠ (R.B (m - 1)).length) : R.Fell (m + 1) := by
  intro t ht
  by_cases hm : t + 1 < m
  · exact h t hm
  · obtain rfl : m = t + 1 := by omega
    simpa using hn
/-- Behind the end for any number of rounds, the number is the same. -/
theorem Rounds.stable {big n k m : Nat} (hs : R.Final big n) (hb : N + 1 < big) (h : R.Final k m) : (n ≤ k → m = n) ∧ (k < n → m = k) := by
  have h1 := R.fell_le hs.fell
  have hfin : (R.B n).length = (R.B (n - 1)).length := by
    rcases hs.fin with e | e
    · omega
    · exact e
  have p1 := hs.pos
  have p2 := h.pos
  constructor
  · intro hk
    rcases Nat.lt_trichotomy m n with hlt | heq | hgt
    · rcases h.fin with e | e
      · omega
      · have := hs.fell (m - 1) (by omega)
        rw [show m - 1 + 1 = m by omega] at this
        exact absurd e this
    · exact heq
    · have := h.fell (n - 1) (by omega)
      rw [show n - 1 + 1 = n by omega] at this
      exact absurd hfin this
  · intro hk
    rcases h.fin with e | e
    · exact e
    · have hle := h.le
      have := hs.fell (m - 1) (by omega)
      rw [show m - 1 + 1 = m by omega] at this
      exact absurd e this
theorem Rounds.stable_le {big n : Nat} (hs : R.Final big n) : n ≤ N + 1 := R.fell_le hs.fell
/-- What the statement on the rounds asks. -/
theorem Rounds.law {big n k m1 m2 : Nat} (hs : R.Final big n) (hb : N + 1 < big) (h1 : R.Final k m1) (h2 : R.Final (k + 1) m2) :
    (n ≤ k → R.B (m1 - 1) = R.B (n - 1) ∧ R.B (m2 - 1) = R.B (n - 1)) ∧ (k < n → (R.B (m2 - 1)).length < (R.B (m1 - 1)).length) ∧ ∀ l ∈ R.B (m1 - 1), ∃ m ∈ R.B (m2 - 1), ∀ x ∈ l, x ∈ m := by
  have a1 := R.stable hs hb h1
  have a2 := R.stable hs hb h2
  have p1 := h1.pos
  refine ⟨fun hk => ?_, fun hk => ?_, ?_⟩
  · rw [a1.1 hk, a2.1 (by omega)]; exact ⟨rfl, rfl⟩
  · have e1 := a1.2 hk
    have hk1 : 1 ≤ k := by omega
    have e2 : m2 = k + 1 := by
      by_cases hn : n ≤ k + 1
      · have := a2.1 hn; omega
      · exact a2.2 (by omega)
    have := hs.fell (k - 1) (by omega)
    have := R.len_le (k - 1)
    rw [e1, e2, show k + 1 - 1 = k - 1 + 1 by omega]
    omega
  · by_cases hk : n ≤ k
    · rw [a1.1 hk, a2.1 (by omega)]
      exact fun l hl => ⟨l, hl, fun x hx => hx⟩
    · have e1 := a1.2 (by omega)
      have hk1 : 1 ≤ k := by omega
      have e2 : m2 = k + 1 := by
        by_cases hn : n ≤ k + 1
        · have := a2.1 hn; omega
        · exact a2.2 (by omega)
      rw [e1, e2, show k + 1 - 1 = k - 1 + 1 by omega]
      exact R.sub (k - 1)
end
end Go.Sp
end
section
/- Keys of monomials, edges that a set of monomials makes: plain. -/
namespace Go.Sp
open Go.Ev
/-- A monomial as a key: six numbers. -/
def kv (m : List Int) : List Int := (List.range 6).map fun i => m.getD i 0
theorem kv_len (m : List Int) : (kv m).length = 6 := by simp [kv]
theorem kv_at (m : List Int) {i : Nat} (h : i < 6) : (kv m)[i]? = some (m.getD i 0) := by simp [kv, h]
theorem kv_inj {a b : List Int} (hl : a.length = b.length) (h6 : a.length ≤ 6) (h : kv a = kv b) : a = b := by
  refine List.ext_getElem hl fun i h1 h2 => ?_
  have e : (kv a)[i]? = (kv b)[i]? := by rw [h]
  rw [kv_at a (by omega), kv_at b (by omega)] at e
  simpa [h1, h2] using e
theorem kv_bound {m : List Int} {c : Int} (hc : 0 ≤ c) (h : ∀ x ∈ m, 0 ≤ x ∧ x ≤ c) : ∀ x ∈ kv m, 0 ≤ x ∧ x ≤ c := by
  intro x hx
  obtain ⟨i, _, rfl⟩ := List.mem_map.1 hx
  by_cases hi : i < m.length
  · rw [List.getD_eq_getElem?_getD, List.getElem?_eq_getElem hi, Option.getD_some]; exact h _ (List.getElem_mem _)
  · rw [List.getD_eq_getElem?_getD, List.getElem?_eq_none (by omega)]; exact ⟨Int.le_refl _, hc⟩
theorem addL_bound {a b : List Int} {c : Int} (ha : ∀ x ∈ a, 0 ≤ x ∧ x ≤ c) (hb : ∀ x ∈ b, 0 ≤ x ∧ x ≤ c) : ∀ x ∈ addL a b, 0 ≤ x ∧ x ≤ 2 * c := by
  intro x hx
  unfold addL at hx
  obtain ⟨i, hi, rfl⟩ := List.getElem_of_mem hx
  rw [List.getElem_zipWith]
  rw [List.length_zipWith] at hi
  have h1 := ha (a[i]'(by omega)) (List.getElem_mem _)
  have h2 := hb (b[i]'(by omega)) (List.getElem_mem _)
  omega
theorem addL_comm (a b : List Int) : addL a b = addL b a := by
  unfold addL
  exact List.zipWith_comm_of_comm (fun x y => Int.add_comm x y)
/-- The edges that a set of monomials makes among the monomials of a basis, row by row. -/
def edRow (b S : List (List Int)) (i : Nat) : List (Int × Int) := ((List.range b.length).filter fun j => decide (i < j) && decide (addL (b.getD i []) (b.getD j []) ∈ S)).map fun j : Nat => ((i : Int), (j : Int))
def edTo (b S : List (List Int)) (k : Nat) : List (Int × Int) := (List.range k).flatMap (edRow b S)
theorem edTo_succ (b S : List (List Int)) (k : Nat) : edTo b S (k + 1) = edTo b S k ++ edRow b S k := by
  unfold edTo; rw [List.range_succ, List.flatMap_append]; simp
theorem edRow_mem {b S : List (List Int)} {i : Nat} {p : Int × Int} : p ∈ edRow b S i ↔ ∃ j : Nat, p = ((i : Int), (j : Int)) ∧ i < j ∧ j < b.length ∧ addL (b.getD i []) (b.getD j []) ∈ S := by
  unfold edRow
  simp only [List.mem_map, List.mem_filter, List.mem_range, Bool.and_eq_true, decide_eq_true_eq]
  constructor
  · rintro ⟨j, ⟨h1, h2, h3⟩, rfl⟩; exact ⟨j, rfl, h2, h1, h3⟩
  · rintro ⟨j, rfl, h2, h1, h3⟩; exact ⟨j, ⟨h1, h2, h3⟩, rfl⟩
theorem edTo_mem {b S : List (List Int)} {p : Int × Int} : p ∈ edTo b S b.length ↔ ∃ i j : Nat, p = ((i : Int), (j : Int)) ∧ i < j ∧ j < b.length ∧ addL (b.getD i []) (b.getD j []) ∈ S := by
  unfold edTo
  simp only [List.mem_flatMap, List.mem_range, edRow_mem]
  constructor
  · rintro ⟨i, _, j, h⟩; exact ⟨i, j, h⟩
  · rintro ⟨i, j, h1, h2, h3, h4⟩; exact ⟨i, by omega, j, h1, h2, h3, h4⟩
/-- One row, made up to column m. -/
def edPart (b S : List (List Int)) (i m : Nat) : List (Int × Int) := ((List.range m).filter fun j => decide (i < j) && decide (addL (b.getD i []) (b.getD j []) ∈ S)).map fun j : Nat => ((i : Int), (j : Int))
theorem edPart_full (b S : List (List Int)) (i : Nat) : edPart b S i b.length = edRow b S i := rfl
theorem edPart_low (b S : List (List Int)) (i : Nat) : edPart b S i (i + 1) = [] := by
  unfold edPart
  rw [List.filter_eq_nil_iff.2]
  · rfl
  · intro x hx
    have := List.mem_range.1 hx
    simp; omega
theorem edPart_succ (b S : List (List Int)) {i m : Nat} (h : i < m) : edPart b S i (m + 1) = edPart b S i m ++ if addL (b.getD i []) (b.getD m []) ∈ S then [((i : Int), (m : Int))] else [] := by
  unfold edPart
  rw [List.range_succ, List.filter_append, List.map_append]
  by_cases hc : addL (b.getD i []) (b.getD m []) ∈ S
  · rw [if_pos hc, List.filter_cons_of_pos (by simp [h]; simpa using hc)]; rfl
  · rw [if_neg hc, List.filter_cons_of_neg (by simp [h]; simpa using hc)]; rfl
theorem edTo_congr {b S S' : List (List Int)} (h : ∀ i j, i < b.length → j < b.length → (addL (b.getD i []) (b.getD j []) ∈ S ↔ addL (b.getD i []) (b.getD j []) ∈ S')) : edTo b S b.length = edTo b S' b.length := by
  unfold edTo
  have : ∀ i ∈ List.range b.length, edRow b S i = edRow b S' i := by
    intro i hi
    unfold edRow
    have hf : ((List.range b.length).filter fun j => decide (i < j) && decide (addL (b.getD i []) (b.getD j []) ∈ S)) = (List.range b.length).filter fun j => decide (i < j) && decide (addL (b.getD i []) (b.getD j []) ∈ S') :=
      List.filter_congr (fun j hj => by rw [decide_eq_decide.2 (h i j (List.mem_range.1 hi) (List.mem_range.1 hj))])
    rw [hf]
  rw [List.flatMap_def, List.flatMap_def, List.map_congr_left this]
/-- The products within the blocks. -/
def blockAll (b : List (List Int)) (ls : List (List Int)) : List (List Int) := ls.flatMap fun l => l.flatMap fun i => l.map fun j => addL (b.getD i.toNat []) (b.getD j.toNat [])
end Go.Sp
end
section
/- The elements of a set, in a slice. -/
namespace Go.Proofs.Tg.Gx
open Go.RowKit Go.Gr
theorem int_info : (Tryz.prog.info? 3).map (fun i => (i.zero, i.size, i.bytes)) = some (some (.int .i64 0), 1, 8) := by kernel_rfl
set_option maxHeartbeats 1000000
theorem verts_any (s : Nat) (w : World) (hs : s < 18446744073709551616) (hT : Tab w) :
    Calls Tryz.prog 48 #[.int .u64 s] w (RetOwn 3 (verts s).length 1 ((verts s).map vn) w) := by
  obtain ⟨i0, hi, hz0, hz1, hz2⟩ := info_parts int_info
  have hlen : (verts s).length ≤ 64 := size_le s
  go_enter Tryz.func48, Tryz.ntmps48
  go_wp2
  go_loopw [0, 3] (fun t v wr => ∃ (x : Nat) (l : List Nat), t = .int .u64 x ∧ x < 18446744073709551616 ∧ Hid (verts s = l ++ verts x) ∧ l.length ≤ 64 ∧ wr.ownsRow w.heap.size 3 1 v l.length (l.map vn) ∧ Below w.heap.size w wr)
    (fun t _ _ => (intOf t).toNat)
  case atStart => exact ⟨s, [], rfl, hs, Lib.hid rfl, by simp, World.ownsRow_nil _ _ _ _, Below.refl _ _⟩
  case round =>
    obtain ⟨x, l, rfl, hx, HV, hl, hown, hb⟩ := hrel
    by_cases hx0 : x = 0
    · subst hx0
      go_wp2
      go_ret
      obtain ⟨A, c, hv, hc, _⟩ := Sl.of_own hown
      have hv2 : verts s = l := by rw [HV.out, verts_zero, List.append_nil]
      rw [hv2]
      exact ⟨A, c, by rw [← hv]; rfl, hc, by rw [← hv]; exact hown, hb⟩
    · have hxp : 0 < x := by omega
      have hxb : ((x : Int) != 0) = true := by simp; omega
      have ht := tz_any x wr hx hx0 (hT.below hb hT.1)
      obtain ⟨hv, hlt⟩ := verts_cons x hx hx0
      have hk := (Lib.lowest_bit 64 x hx0 hx).2
      generalize Lib.ctz 64 x = c at ht hv hk
      have HT := Lib.hid ht
      have e1 : (x : Int) - 1 = ((x - 1 : Nat) : Int) := by omega
      have HV2 : Hid (verts s = (l ++ [c]) ++ verts (x &&& (x - 1))) := by
        rw [List.append_assoc]; exact HV.out.trans (by rw [hv]; rfl)
      have hll : (l ++ [c]).length ≤ 64 := by have := congrArg List.length HV2.out; simp at this; simp; omega
      have HE := Lib.hid e1
      clear ht hv e1 hx0 HV
      go_wp2_with (first
        | (go_at_call 75; refine HT.out.mono ?_; rintro e w' ⟨rfl, rfl⟩)
        | (at_builtin; refine wpList_append_own _ rfl _ _ 36 rfl w.heap.size 3 i0 (.int .i64 0) 1 8 Tryz.underlying36 hi hz0 hz1 hz2 rfl (by decide) _ _ _ rfl (hown.alloc _) ⟨wr.heap.size, 0, none⟩ 1 1 [.int .i64 c] rfl rfl ?c1 ?c2 ?c3 ?c4 ?c5 ?_
           case c1 => exact cell_one_new _ _ _
           case c2 => simp [Value.oneCell']
           case c3 => simp only [maxLen]; omega
           case c4 => omega
           case c5 => have := hb.size; simp; omega
           intro v' w1 hown' hgrow _))
      have ea : bits BinOp.and IntKind.u64 (x : Int) ((x : Int) - 1) = ((x &&& (x - 1) : Nat) : Int) := by
        rw [HE.out, u64_and_nat _ _ hx (by omega)]
      go_roundw
      case rel =>
        refine ⟨x &&& (x - 1), l ++ [c], ?_, and_lt _ hx, HV2, hll, ?_, ?_⟩
        · rw [ea]
        · simpa [vn] using hown'
        · refine (hb.alloc hb.size _).grown hgrow (by have := hb.size; simp; omega) (fun k hk => (hown.lt k hk).1)
      case measure => simp [intOf, ea]; omega
end Go.Proofs.Tg.Gx
end
section
/- The adjacency: 64 sets in a block; connect. -/
namespace Go.Gr
def upd (A : Nat → Nat) (i s : Nat) : Nat → Nat := fun k => if k = i then s else A k
def connect (A : Nat → Nat) (i j : Nat) : Nat → Nat := upd (upd A i (bset (A i) j)) j (bset (upd A i (bset (A i) j) j) i)
def Small (A : Nat → Nat) : Prop := ∀ i, A i < 18446744073709551616
theorem Small.upd {A : Nat → Nat} (h : Small A) {i s : Nat} (hs : s < 18446744073709551616) : Small (upd A i s) := fun k => by
  unfold Gr.upd; split
  · exact hs
  · exact h k
theorem Small.connect {A : Nat → Nat} (h : Small A) {i j : Nat} (hi : i < 64) (hj : j < 64) : Small (connect A i j) :=
  (h.upd (bset_lt (h i) hj)).upd (bset_lt ((h.upd (bset_lt (h i) hj)) j) hi)
theorem Small.zero : Small (fun _ => 0) := fun _ => by simp
end Go.Gr
namespace Go.Proofs.Tg.Gx
open Go.RowKit Go.Gr
def adjA (A : Nat → Nat) : Array Value := ((List.range 64).map fun i => vs (A i)).toArray
theorem adjA_size (A : Nat → Nat) : (adjA A).size = 64 := by simp [adjA]
theorem adjA_at (A : Nat → Nat) {i : Nat} (hi : i < 64) : (adjA A)[i]? = some (.int .u64 (A i : Nat)) := by
  simp [adjA, hi, vs]
theorem adjA_set (A : Nat → Nat) {i : Nat} (_ : i < 64) (s : Nat) : (adjA A).setIfInBounds i (.int .u64 s) = adjA (upd A i s) := by
  apply Array.ext
  · simp [adjA]
  · intro k h1 h2
    rw [Array.getElem_setIfInBounds (by simpa using h1)]
    simp only [adjA, upd, vs, List.getElem_toArray, List.getElem_map, List.getElem_range]
    by_cases hk : i = k
    · subst hk; simp
    · rw [if_neg hk, if_neg (fun e => hk e.symm)]
abbrev AdjAt (w : World) (g : Nat) (A : Nat → Nat) : Prop := Blk w g 89 (adjA A)
theorem AdjAt.cell {w : World} {g : Nat} {A : Nat → Nat} (h : AdjAt w g A) {i : Nat} (hi : i < 64) : w.cell? ⟨g, i, none⟩ = some (.int .u64 (A i : Nat)) := (Blk.cell h i).trans (adjA_at A hi)
set_option maxHeartbeats 1000000
theorem grown_set {w w' : World} {g : Nat} (h : w.grownBy w' (some g)) (i : Nat) (u : Value) : w.grownBy (w'.setCell ⟨g, i, none⟩ u) (some g) :=
  ⟨h.os, h.tape, h.output, by simpa [World.setCell] using h.size, fun k hk hne => (Below.heap_setCell w' ⟨g, i, none⟩ u k (fun e => hne (by rw [e]))).trans (h.block k hk hne)⟩
theorem grown_drew {w w' : World} {row : Option Nat} (h : w.grownBy w' row) : w.grownBy w'.drew row := ⟨h.os, h.tape, h.output, h.size, h.block⟩
theorem grown_drewN {w w' : World} {row : Option Nat} (h : w.grownBy w' row) (n : Nat) : w.grownBy (w'.drewN n) row := ⟨h.os, h.tape, h.output, h.size, h.block⟩
theorem AdjAt.set {w : World} {g : Nat} {A : Nat → Nat} (h : AdjAt w g A) {i : Nat} (hi : i < 64) (s : Nat) : AdjAt (w.setCell ⟨g, i, none⟩ (.int .u64 s)) g (upd A i s) := by
  have := Blk.set h i (.int .u64 s)
  rwa [adjA_set A hi] at this
theorem connect_any (g i j : Nat) (A : Nat → Nat) (w : World) (hA : AdjAt w g A) (hS : Small A) (hi : i < 64) (hj : j < 64) :
    Calls Tryz.prog 74 #[.pointer (some ⟨g, 0, none⟩), .int .i64 i, .int .i64 j] w fun e w' => e = .returned (.tuple #[]) ∧ AdjAt w' g (connect A i j) ∧ w.grownBy w' (some g) := by
  go_enter Tryz.func74, Tryz.ntmps74
  go_upto_region 0 with fail
  go_cut [] (fun wx => AdjAt wx g (upd A i (bset (A i) j)) ∧ w.grownBy wx (some g))
  case first =>
    have hc := hA.cell hi
    have hf := Blk.frozen hA i
    have hs := hS i
    go_region_with (go_at_call 47; refine (with_any _ _ _ hs hj).mono ?_; rintro e w' ⟨rfl, rfl⟩)
    go_wp2_with fail
    go_meet
    exact ⟨Blk.drew (hA.set hi _), grown_drew (grown_set (World.grownBy.refl _ _) i _)⟩
  case rest =>
    obtain ⟨hA1, hg1⟩ := hcut
    have hs := (hS.upd (i := i) (bset_lt (hS i) hj)) j
    have hc := hA1.cell hj
    have hf := Blk.frozen hA1 j
    go_wp2
    go_region_with (go_at_call 47; refine (with_any _ _ _ hs hi).mono ?_; rintro e w' ⟨rfl, rfl⟩)
    go_wp2
    go_end0
    exact ⟨rfl, Blk.drew (hA1.set hj _), grown_drew (grown_set hg1 j _)⟩
end Go.Proofs.Tg.Gx
end
section
/- The edges of an adjacency, written out. -/
namespace Go.Gr
/-- The edges that go from i to greater vertices. -/
def rowEdges (A : Nat → Nat) (i : Nat) : List (Int × Int) := (verts (andn (A i) (firstN i))).map fun j : Nat => ((i : Int), (j : Int))
def writeEdges (A : Nat → Nat) (n : Nat) : List (Int × Int) := (List.range n).flatMap (rowEdges A)
theorem writeEdges_succ (A : Nat → Nat) (n : Nat) : writeEdges A (n + 1) = writeEdges A n ++ rowEdges A n := by
  simp [writeEdges, List.range_succ]
theorem rowEdges_len (A : Nat → Nat) (i : Nat) : (rowEdges A i).length ≤ 64 := by
  simp only [rowEdges, List.length_map]; exact size_le _
end Go.Gr
namespace Go.Proofs.Tg.Gx
open Go.RowKit Go.Gr
def ecells (es : List (Int × Int)) : List Value := es.flatMap fun e => [vi e.1, vi e.2]
theorem ecells_len (es : List (Int × Int)) : (ecells es).length = es.length * 2 := by
  induction es with
  | nil => rfl
  | cons e es ih => simp only [ecells, List.flatMap_cons, List.length_append, List.length_cons, List.length_nil] at ih ⊢; omega
theorem ecells_app (a b : List (Int × Int)) : ecells (a ++ b) = ecells a ++ ecells b := by simp [ecells]
theorem pair_info : (Tryz.prog.info? 83).map (fun i => (i.zero, i.size, i.bytes)) = some (some (.agg #[.int .i64 0, .int .i64 0]), 2, 16) := by kernel_rfl
theorem cell_two_new' (w : World) (a b : Value) (t : TypeId) : ∀ j u, [a, b][j]? = some u → (w.alloc (.cells #[a, b] t)).cell? ((⟨w.heap.size, 0, none⟩ : Addr).add j) = some u := by
  intro j u hu
  rw [add_lit, Nat.zero_add, Blk.cell (Blk.new w t #[a, b]) j]
  simpa using hu
set_option maxHeartbeats 1000000
set_option maxRecDepth 100000
def RetGraph (n : Int) (es : List (Int × Int)) (w : World) (e : Ending) (w' : World) : Prop :=
  ∃ A c, e = .returned (.agg #[.int .i64 n, .slice A es.length c]) ∧ es.length ≤ c ∧ w'.ownsRow w.heap.size 83 2 (.slice A es.length c) es.length (ecells es) ∧ Below w.heap.size w w'
theorem write_any (g n : Nat) (A : Nat → Nat) (w : World) (hA : AdjAt w g A) (hS : Small A) (hn : n ≤ 64) (hT : Tab w) :
    Calls Tryz.prog 88 #[.pointer (some ⟨g, 0, none⟩), .int .i64 n] w (RetGraph n (writeEdges A n) w) := by
  obtain ⟨i0, hi, hz0, hz1, hz2⟩ := info_parts pair_info
  have hgl := Blk.lt hA
  go_enter Tryz.func88, Tryz.ntmps88
  go_wp2
  go_loopw [12] (fun i wr => ∃ (k : Nat) (E : Option Addr) (c : Nat) (es : List (Int × Int)), i = .int .i64 k ∧ k ≤ n ∧ Blk wr w.heap.size 40 #[.int .i64 0, .slice none 0 0] ∧ Blk wr (w.heap.size + 1) 40 #[.int .i64 n, .slice E es.length c] ∧
      wr.ownsRow (w.heap.size + 2) 83 2 (.slice E es.length c) es.length (ecells es) ∧ es.length ≤ c ∧ es.length ≤ 64 * k ∧ Hid (es = writeEdges A k) ∧ Below w.heap.size w wr) (fun i _ => n - (intOf i).toNat)
  case atStart =>
    refine ⟨0, none, 0, [], rfl, Nat.zero_le _, ?_, ?_, World.ownsRow_nil _ _ _ _, by simp, by simp, Lib.hid (by simp [writeEdges]), ?_⟩
    · exact Blk.alloc (Blk.new _ _ _) _
    · have := Blk.new (w.alloc (Obj.cells #[Value.int IntKind.i64 0, Value.slice none 0 0] 40)) 40 #[Value.int IntKind.i64 ↑n, Value.slice none 0 0]
      simpa using this
    · exact ((Below.refl _ _).alloc (Nat.le_refl _) _).alloc (by simp) _
  case round =>
    obtain ⟨wo, rfl⟩ : ∃ wo : World, wo = wr := ⟨_, rfl⟩
    obtain ⟨k, E, c, es, rfl, hk, hb4, hb5, hown, hec, hel, HE, hb⟩ := hrel
    by_cases hlt : k < n
    · have hkl : k < 64 := by omega
      have hc := AdjAt.cell (hA.keep hb hgl) hkl
      have hs := hS k
      have hTr := hT.below hb hT.1
      have hbits := u64_andNot_nat (A k) (firstN k) hs (firstN_lt (by omega))
      have hsm := andn_lt (firstN k) hs
      change _ = ((andn (A k) (firstN k) : Nat) : Int) at hbits
      have HRE : Hid (rowEdges A k = (verts (andn (A k) (firstN k))).map fun j : Nat => ((k : Int), (j : Int))) := rfl
      have hvl : (verts (andn (A k) (firstN k))).length ≤ 64 := size_le _
      have hvb : ∀ x ∈ verts (andn (A k) (firstN k)), x < 64 := fun x hx => by simp [verts] at hx; exact hx.1
      generalize andn (A k) (firstN k) = S at hbits hsm HRE hvl hvb
      go_upto_region 5 with fail
      go_cut [23, 24, 25] (fun s23 s24 s25 wx => ∃ V cv, s23 = .slice V (verts S).length cv ∧ s24 = .int .i64 (verts S).length ∧ s25 = .int .i64 0 ∧ wx.ownsRow wo.heap.size 3 1 (.slice V (verts S).length cv) (verts S).length ((verts S).map vn) ∧ Below wo.heap.size wo wx)
      case first =>
        clear hb4 hb5 hown HE HRE hvb
        have hk0 : (0 : Int) ≤ (k : Int) := by omega
        have hk1 : (k : Int) < 64 := by omega
        have hgr : g < wo.heap.size := Nat.lt_of_lt_of_le hgl hb.size
        go_region_held3 (fun w' => w'.cell? ⟨g, k, none⟩ = some (.int .u64 (A k : Nat))) (first | go_keep | exact (hbV.cell (p := ⟨g, k, none⟩) hgr).trans hc)
          (first | (go_at_call 89; refine (first_any _ _ (by omega)).mono ?_; rintro e w' ⟨rfl, rfl⟩) | (go_at_call 48; refine (verts_any _ _ hsm (by exact hTr)).mono ?_; rintro e w' ⟨V, cv, rfl, hVc, hV, hbV⟩))
        all_goals (go_wp2_with fail; go_meet; exact ⟨V, cv, rfl, rfl, rfl, hV, below_of_drew hbV⟩)
      case rest =>
        obtain ⟨V, cv, rfl, rfl, rfl, hV, hbV⟩ := hcut
        clear hbits hc hs hsm hTr
        have hsz := hb.size
        have hsz2 := hbV.size
        have hb4l := hb4.lt
        have hb5l := hb5.lt
        have hb' : Below w.heap.size w wc := hb.trans (hbV.mono hsz)
        have hb4' := hb4.keep hbV hb4l
        have hb5' := hb5.keep hbV hb5l
        have hown' := own_below hown hbV (Nat.le_refl _)
        clear hb4 hb5 hown hb hbV
        go_wp2
        go_loopw [25] (fun j wx => ∃ (i : Nat) (E2 : Option Addr) (c2 : Nat) (fs : List (Int × Int)), j = .int .i64 i ∧ i ≤ (verts S).length ∧ Blk wx w.heap.size 40 #[.int .i64 0, .slice none 0 0] ∧ Blk wx (w.heap.size + 1) 40 #[.int .i64 n, .slice E2 fs.length c2] ∧
            wx.ownsRow (w.heap.size + 2) 83 2 (.slice E2 fs.length c2) fs.length (ecells fs) ∧ fs.length ≤ c2 ∧ fs.length ≤ 64 * k + i ∧ Hid (fs = es ++ ((verts S).take i).map fun j : Nat => ((k : Int), (j : Int))) ∧
            wx.ownsRow wo.heap.size 3 1 (.slice V (verts S).length cv) (verts S).length ((verts S).map vn) ∧ Below w.heap.size w wx) (fun j _ => (verts S).length - (intOf j).toNat)
        case atStart => exact ⟨0, E, c, es, rfl, Nat.zero_le _, hb4', hb5', hown', hec, hel, Lib.hid (by simp), hV, hb'⟩
        case round =>
          clear hb' hb4' hb5' hown' hV
          obtain ⟨i, E2, c2, fs, rfl, hi2, hb4, hb5, hown, hfc, hfl, HF, hV, hb⟩ := hrel
          by_cases hil : i < (verts S).length
          · obtain ⟨ad, rfl, hcv⟩ := Nats.at (Sl.own hV) hil
            have HF2 : Hid (fs ++ [((k : Int), (((verts S)[i] : Nat) : Int))] = es ++ ((verts S).take (i + 1)).map fun j : Nat => ((k : Int), (j : Int))) := by
              rw [List.take_succ_eq_append_getElem hil, List.map_append, ← List.append_assoc, ← HF.out]; rfl
            generalize (verts S)[i] = q at hcv HF2
            have h51 := hb5.cell 1
            have f51 := hb5.frozen 1
            simp at h51
            have hne := own_blk_ne hown hb5 (by decide)
            have hne4 := own_blk_ne hown hb4 (by decide)
            have hnv := own_ne hV hown (by decide)
            have hszx := hb.size
            have hl4 := hb4.lt
            have hl5 := hb5.lt
            have HB := Lib.hid (And.intro hb4 hb5)
            clear HF HE HRE
            go_wp2_with (at_builtin; go_must (refine wpList_append_own_at _ rfl _ _ 38 rfl (w.heap.size + 2) 83 i0 (.agg #[.int .i64 0, .int .i64 0]) 2 16 Tryz.underlying38 hi hz0 hz1 hz2 rfl (by decide) (.slice E2 fs.length c2) _ _ rfl (hown.alloc _) ⟨wr.heap.size, 0, none⟩ 1 1 [.int .i64 k, .int .i64 q] rfl rfl ?c1 ?c2 ?c3 ?c4 ?c5 ?_)
                         case c1 => exact cell_two_new' _ _ _ _
                         case c2 => simp [Value.oneCell']
                         case c3 => simp only [maxLen]; omega
                         case c4 => omega
                         case c5 => simp; omega
                         intro v' w1 hown1 hg1 _ _
                         obtain ⟨E3, c3, hv, hle3, _⟩ := Sl.of_own hown1
                         subst hv
                         have k51 := (Blk.grown (Blk.alloc HB.out.2 _) hg1 hne).cell 1
                         have g51 := (Blk.grown (Blk.alloc HB.out.2 _) hg1 hne).frozen 1
                         simp at k51)
            have hlen : (fs ++ [((k : Int), ((q : Nat) : Int))]).length = fs.length + 1 := by simp
            have B5 := Blk.grown (Blk.alloc HB.out.2 _) hg1 hne
            have B4 := Blk.grown (Blk.alloc HB.out.1 _) hg1 hne4
            have hV1 := (hV.alloc (.cells #[.int .i64 k, .int .i64 q] 83)).kept hg1 hnv
            go_roundw
            case rel =>
              refine ⟨i + 1, E3, c3, fs ++ [((k : Int), ((q : Nat) : Int))], by go_num, by omega, B4.far (by simp) _, ?_, ?_, by rw [hlen]; exact hle3, by rw [hlen]; omega, HF2, own_far hV1 (own_blk_ne hV1 B5 (by decide)) _, ?_⟩
              · have := B5.set 1 (.slice E3 (fs.length + 1) c3)
                rw [hlen]
                simpa using this
              · rw [hlen, ecells_app]
                exact own_far hown1 (own_blk_ne hown1 B5 (by decide)) _
              · exact ((hb.alloc hb.size _).grown hg1 (by simp; omega) (fun j hj => by have := (hown.lt j hj).1; omega)).setCell (by simp) _
            case measure => simp [intOf]; omega
          · obtain rfl : i = (verts S).length := by omega
            go_wp2
            go_roundw
            case rel =>
              refine ⟨k + 1, E2, c2, fs, by go_num, by omega, hb4, hb5, hown, hfc, by omega, ?_, hb⟩
              refine Lib.hid ?_
              rw [HF.out, List.take_length, ← HRE.out, writeEdges_succ, HE.out]
            case measure => simp [intOf]; omega
    · obtain rfl : k = n := by omega
      have h40 := hb4.cell 0
      have h41 := hb4.cell 1
      have f40 := hb4.frozen 0
      have f41 := hb4.frozen 1
      have h50 := hb5.cell 0
      have h51 := hb5.cell 1
      simp at h40 h41 h50 h51
      go_wp2
      refine bodyPost_ret (v := .agg #[.int .i64 k, .slice E es.length c]) (by simp [results, Tryz.results88, go_sem, h40, h41]) rfl ?_
      rw [← HE.out]
      exact ⟨E, c, rfl, hec, own_base (ownsRow_setCell_below (ownsRow_setCell_below hown (by simp) _) (by simp) _) (by omega), (hb.setCell (by simp) _).setCell (by simp) _⟩
end Go.Proofs.Tg.Gx
end
