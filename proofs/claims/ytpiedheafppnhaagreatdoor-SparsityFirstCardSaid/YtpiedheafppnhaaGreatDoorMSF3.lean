/- Parts of the proof: SP0, SP1, SP2, GWB, GWC, GWD, GWE, GWF. -/
import Derived.Deep.RegionWith
import Derived.Deep.RegionHeld3
import Derived.Deep.DeepCutAuto
import Derived.Maps.AppendAt
import Derived.Laws.Tables
import Derived.IntWalk
import Derived.Test.YtpiedheafppnhaaGreatDoorMSF0
import Derived.Test.YtpiedheafppnhaaGreatDoorMSF2
section
/- Partitions made vertex by vertex from an equivalence, and a coarser one: plain. -/
namespace Go.Sp
open Classical
structure Eqv (C : Nat → Nat → Prop) : Prop where
  refl : ∀ a, C a a
  symm : ∀ a b, C a b → C b a
  trans : ∀ a b c, C a b → C b c → C a c
inductive MadeR (C : Nat → Nat → Prop) : Nat → List (List Int) → Prop
  | zero : MadeR C 0 []
  | skip {k : Nat} {ls : List (List Int)} : MadeR C k ls → (∃ l ∈ ls, (k : Int) ∈ l) → MadeR C (k + 1) ls
  | add {k : Nat} {ls : List (List Int)} {l : List Int} : MadeR C k ls → (∀ m ∈ ls, (k : Int) ∉ m) → l.Pairwise (· < ·) → (∀ x : Int, x ∈ l ↔ ∃ v : Nat, x = v ∧ C k v) → MadeR C (k + 1) (ls ++ [l])
theorem asc_same {l m : List Int} (hl : l.Pairwise (· < ·)) (hm : m.Pairwise (· < ·)) (h : ∀ x, x ∈ l ↔ x ∈ m) : l = m := by
  have nd : ∀ {l : List Int}, l.Pairwise (· < ·) → l.Nodup := fun h => h.imp (fun hab e => by omega)
  have hp : l.Perm m := (List.perm_ext_iff_of_nodup (nd hl) (nd hm)).2 h
  exact List.Perm.eq_of_pairwise (le := (· < ·)) (fun a b _ _ h1 h2 => by omega) hl hm hp
theorem MadeR.same {C C' : Nat → Nat → Prop} : ∀ {k : Nat} {ls ms : List (List Int)}, (∀ a b, a < k → (C a b ↔ C' a b)) → MadeR C k ls → MadeR C' k ms → ls = ms := by
  intro k
  induction k with
  | zero => intro ls ms _ h1 h2; cases h1; cases h2; rfl
  | succ k ih =>
    intro ls ms hc h1 h2
    have hc' : ∀ a b, a < k → (C a b ↔ C' a b) := fun a b h => hc a b (by omega)
    cases h1 with
    | skip h1 e1 =>
      cases h2 with
      | skip h2 e2 => exact ih hc' h1 h2
      | add h2 e2 _ _ =>
        obtain ⟨l, hl, hk⟩ := e1
        rw [ih hc' h1 h2] at hl
        exact absurd hk (e2 l hl)
    | add h1 e1 p1 q1 =>
      cases h2 with
      | skip h2 e2 =>
        obtain ⟨l, hl, hk⟩ := e2
        rw [← ih hc' h1 h2] at hl
        exact absurd hk (e1 l hl)
      | add h2 e2 p2 q2 =>
        rw [ih hc' h1 h2, asc_same p1 p2 (fun x => (q1 x).trans (Iff.trans ⟨fun ⟨v, e, h⟩ => ⟨v, e, (hc k v (by omega)).1 h⟩, fun ⟨v, e, h⟩ => ⟨v, e, (hc k v (by omega)).2 h⟩⟩ (q2 x).symm))]
/-- Each block is the class of a number. -/
theorem MadeR.each {C : Nat → Nat → Prop} {k : Nat} {ls : List (List Int)} (h : MadeR C k ls) : ∀ l ∈ ls, ∃ r, r < k ∧ ∀ x : Int, x ∈ l ↔ ∃ v : Nat, x = v ∧ C r v := by
  induction h with
  | zero => intro l hl; cases hl
  | skip _ _ ih => intro l hl; obtain ⟨r, h1, h2⟩ := ih l hl; exact ⟨r, by omega, h2⟩
  | @add k ls l _ _ _ q ih =>
    intro m hm
    rcases List.mem_append.1 hm with h | h
    · obtain ⟨r, h1, h2⟩ := ih m h; exact ⟨r, by omega, h2⟩
    · rw [List.mem_singleton.1 h]; exact ⟨k, by omega, q⟩
/-- Which numbers are in a block. -/
theorem MadeR.mem {C : Nat → Nat → Prop} (hE : Eqv C) {k : Nat} {ls : List (List Int)} (h : MadeR C k ls) (v : Nat) : (∃ l ∈ ls, (v : Int) ∈ l) ↔ ∃ j, j < k ∧ C j v := by
  induction h with
  | zero => simp
  | @skip k ls _ e ih =>
    rw [ih]
    constructor
    · rintro ⟨j, h1, h2⟩; exact ⟨j, by omega, h2⟩
    · rintro ⟨j, h1, h2⟩
      by_cases hj : j < k
      · exact ⟨j, hj, h2⟩
      · obtain rfl : j = k := by omega
        rw [← ih]
        obtain ⟨l, hl, hk⟩ := e
        refine ⟨l, hl, ?_⟩
        rename_i hM
        obtain ⟨r, _, hr⟩ := hM.each l hl
        obtain ⟨v', e1, e2⟩ := (hr j).1 hk
        obtain rfl : j = v' := by omega
        exact (hr v).2 ⟨v, rfl, hE.trans _ _ _ e2 h2⟩
  | @add k ls l _ e p q ih =>
    constructor
    · rintro ⟨m, hm, hv⟩
      rcases List.mem_append.1 hm with h | h
      · obtain ⟨j, h1, h2⟩ := ih.1 ⟨m, h, hv⟩; exact ⟨j, by omega, h2⟩
      · rw [List.mem_singleton.1 h] at hv
        obtain ⟨v', e1, e2⟩ := (q v).1 hv
        obtain rfl : v = v' := by omega
        exact ⟨k, by omega, e2⟩
    · rintro ⟨j, h1, h2⟩
      by_cases hj : j < k
      · obtain ⟨m, hm, hv⟩ := ih.2 ⟨j, hj, h2⟩
        exact ⟨m, List.mem_append_left _ hm, hv⟩
      · obtain rfl : j = k := by omega
        exact ⟨l, List.mem_append_right _ (by simp), (q v).2 ⟨v, rfl, h2⟩⟩
/-- The least numbers of the classes. -/
noncomputable def isRep (C : Nat → Nat → Prop) (j : Nat) : Bool := @decide (∀ i, i < j → ¬ C i j) (Classical.propDecidable _)
theorem isRep_iff {C : Nat → Nat → Prop} {j : Nat} : isRep C j = true ↔ ∀ i, i < j → ¬ C i j := by unfold isRep; exact @decide_eq_true_iff _ (Classical.propDecidable _)
noncomputable def reps (C : Nat → Nat → Prop) (k : Nat) : List Nat := (List.range k).filter (isRep C)
theorem MadeR.length {C : Nat → Nat → Prop} (hE : Eqv C) {k : Nat} {ls : List (List Int)} (h : MadeR C k ls) : ls.length = (reps C k).length := by
  induction h with
  | zero => rfl
  | @skip k ls hM e ih =>
    rw [ih]
    unfold reps
    rw [List.range_succ, List.filter_append]
    have : ¬ ∀ i, i < k → ¬ C i k := by
      obtain ⟨j, h1, h2⟩ := (hM.mem hE k).1 e
      exact fun h => h j h1 h2
    have hf : [k].filter (isRep C) = [] := by
      rw [List.filter_cons_of_neg (fun h => this (isRep_iff.1 h))]; rfl
    rw [List.length_append, hf]; rfl
  | @add k ls l hM e p q ih =>
    rw [List.length_append, ih]
    unfold reps
    rw [List.range_succ, List.filter_append]
    have : ∀ i, i < k → ¬ C i k := fun i hi hc => by
      obtain ⟨m, hm, hv⟩ := (hM.mem hE k).2 ⟨i, hi, hc⟩
      exact e m hm hv
    have hf : [k].filter (isRep C) = [k] := by
      rw [List.filter_cons_of_pos (isRep_iff.2 this)]; rfl
    rw [List.length_append, hf]; rfl
theorem least {P : Nat → Prop} {n : Nat} (h : P n) : ∃ m, P m ∧ m ≤ n ∧ ∀ i, i < m → ¬ P i := by
  induction n using Nat.strongRecOn with
  | _ n ih =>
    by_cases hc : ∃ i, i < n ∧ P i
    · obtain ⟨i, hi, hp⟩ := hc
      obtain ⟨m, h1, h2, h3⟩ := ih i hi hp
      exact ⟨m, h1, by omega, h3⟩
    · exact ⟨n, h, Nat.le_refl _, fun i hi hp => hc ⟨i, hi, hp⟩⟩
theorem sub_back {a b : List Nat} (ha : a.Nodup) (hs : ∀ x ∈ a, x ∈ b) (hl : b.length ≤ a.length) : ∀ x ∈ b, x ∈ a := by
  intro x hx
  apply Classical.byContradiction
  intro hn
  have h1 : (x :: a).Nodup := List.nodup_cons.2 ⟨hn, ha⟩
  have h2 : ∀ y ∈ x :: a, y ∈ b := fun y hy => by
    rcases List.mem_cons.1 hy with rfl | h
    · exact hx
    · exact hs y h
  have := h1.length_le_of_subset h2
  simp at this
  omega
section
variable {C C' : Nat → Nat → Prop} {n : Nat} {ls ms : List (List Int)}
theorem reps_sub (hs : ∀ a b, C a b → C' a b) : ∀ x ∈ reps C' n, x ∈ reps C n := by
  intro x hx
  unfold reps at hx ⊢
  rw [List.mem_filter] at hx ⊢
  refine ⟨hx.1, isRep_iff.2 fun i hi hc => ?_⟩
  exact (isRep_iff.1 hx.2) i hi (hs i x hc)
theorem reps_nodup (C : Nat → Nat → Prop) (n : Nat) : (reps C n).Nodup := List.nodup_range.filter _
/-- A coarser equivalence has no more blocks. -/
theorem coarse_le (hE : Eqv C) (hE' : Eqv C') (hs : ∀ a b, C a b → C' a b) (h : MadeR C n ls) (h' : MadeR C' n ms) : ms.length ≤ ls.length := by
  rw [h.length hE, h'.length hE']
  exact (reps_nodup C' n).length_le_of_subset (reps_sub hs)
/-- Each block lies in one of the coarser ones. -/
theorem coarse_sub (hE' : Eqv C') (hs : ∀ a b, C a b → C' a b) (h : MadeR C n ls) (h' : MadeR C' n ms) : ∀ l ∈ ls, ∃ m ∈ ms, ∀ x ∈ l, x ∈ m := by
  intro l hl
  obtain ⟨r, hr, hx⟩ := h.each l hl
  obtain ⟨m, hm, hv⟩ := (h'.mem hE' r).2 ⟨r, hr, hE'.refl r⟩
  obtain ⟨q, _, hy⟩ := h'.each m hm
  obtain ⟨r', e1, e2⟩ := (hy r).1 hv
  obtain rfl : r = r' := by omega
  refine ⟨m, hm, fun x hxl => ?_⟩
  obtain ⟨v, e3, e4⟩ := (hx x).1 hxl
  exact (hy x).2 ⟨v, e3, hE'.trans _ _ _ e2 (hs _ _ e4)⟩
/-- Equally many blocks: the same blocks. -/
theorem coarse_eq (hE : Eqv C) (hE' : Eqv C') (hs : ∀ a b, C a b → C' a b) (hn : ∀ a b, a < n → C' a b → b < n) (h : MadeR C n ls) (h' : MadeR C' n ms) (hl : ms.length = ls.length) : ls = ms := by
  have hr : ∀ x, x ∈ reps C n → x ∈ reps C' n := by
    have hle : (reps C n).length ≤ (reps C' n).length := by rw [← h.length hE, ← h'.length hE', hl]; exact Nat.le_refl _
    exact fun x hx => sub_back (reps_nodup C' n) (reps_sub hs) hle x hx
  refine MadeR.same (fun a b ha => ⟨hs a b, fun hc => ?_⟩) h h'
  have hb := hn a b ha hc
  have key : ∀ v, v < n → ∃ m, m < n ∧ C m v ∧ ∀ i, i < m → ¬ C' i m := by
    intro v hv
    obtain ⟨m, h1, h2, h3⟩ := least (P := fun m => C m v) (hE.refl v)
    refine ⟨m, by omega, h1, ?_⟩
    have hm : m ∈ reps C n := by
      unfold reps
      rw [List.mem_filter]
      exact ⟨List.mem_range.2 (by omega), isRep_iff.2 fun i hi hc => h3 i hi (hE.trans _ _ _ hc h1)⟩
    have := hr m hm
    unfold reps at this
    exact isRep_iff.1 (List.mem_filter.1 this).2
  obtain ⟨r, r1, r2, r3⟩ := key a ha
  obtain ⟨q, q1, q2, q3⟩ := key b hb
  have hrq : C' r q := hE'.trans _ _ _ (hs _ _ r2) (hE'.trans _ _ _ hc (hE'.symm _ _ (hs _ _ q2)))
  have : r = q := by
    rcases Nat.lt_trichotomy r q with h | h | h
    · exact absurd hrq (q3 r h)
    · exact h
    · exact absurd (hE'.symm _ _ hrq) (r3 q h)
  subst this
  exact hE.trans _ _ _ (hE.symm _ _ r2) q2
end
end Go.Sp
end
section
/- Rounds of coarser and coarser partitions; the first round behind which nothing changes: plain. -/
namespace Go.Sp
structure Rounds (N : Nat) where
  C : Nat → Nat → Nat → Prop
  B : Nat → List (List Int)
  eqv : ∀ t, Eqv (C t)
  mono : ∀ t a b, C t a b → C (t + 1) a b
  lt : ∀ t a b, a < N → C t a b → b < N
  made : ∀ t, MadeR (C t) N (B t)
section
variable {N : Nat} (R : Rounds N)
theorem Rounds.len_le (t : Nat) : (R.B (t + 1)).length ≤ (R.B t).length := coarse_le (R.eqv t) (R.eqv (t + 1)) (R.mono t) (R.made t) (R.made (t + 1))
theorem Rounds.sub (t : Nat) : ∀ l ∈ R.B t, ∃ m ∈ R.B (t + 1), ∀ x ∈ l, x ∈ m := coarse_sub (R.eqv (t + 1)) (R.mono t) (R.made t) (R.made (t + 1))
theorem Rounds.first_le : (R.B 0).length ≤ N := by
  rw [(R.made 0).length (R.eqv 0)]
  have := (reps_nodup (R.C 0) N).length_le_of_subset (l₂ := List.range N) (fun x hx => (List.mem_filter.1 hx).1)
  simpa using this
/-- The blocks of the first m rounds are each time fewer. -/
def Rounds.Fell (m : Nat) : Prop := ∀ t, t + 1 < m → (R.B (t + 1)).length ≠ (R.B t).length
/-- The loop has ended with the number m. -/
structure Rounds.Final (k m : Nat) : Prop where
  pos : 1 ≤ m
  le : m ≤ k
  fell : R.Fell m
  fin : m = k ∨ (R.B m).length = (R.B (m - 1)).length
theorem Rounds.fell_len {m : Nat} (h : R.Fell m) : ∀ t, t < m → (R.B t).length + t ≤ N
  | 0, _ => by have := R.first_le; omega
  | t + 1, ht => by
    have h1 := Rounds.fell_len h t (by omega)
    have h2 := R.len_le t
    have h3 := h t ht
    omega
theorem Rounds.fell_le {m : Nat} (h : R.Fell m) : m ≤ N + 1 := by
  rcases Nat.lt_or_ge (N + 1) m with h1 | h1
  · have := R.fell_len h (N + 1) h1
    omega
  · exact h1
theorem Rounds.fell_succ {m : Nat} (h : R.Fell m) (h1 : 1 ≤ m) (hn : (R.B m).length ≠ (R.B (m - 1)).length) : R.Fell (m + 1) := by
  intro t ht
  by_cases hm : t + 1 < m
  · exact h t hm
  · obtain rfl : m = t + 1 := by omega
    simpa using hn
/-- Behind the end for any number of rounds, the number is the same. -/
theorem Rounds.stable {big n k m : Nat} (hs : R.Final big n) (hb : N + 1 < big) (h : R.Final k m) : (n ≤ k → m = n) ∧ (k < n → m = k) := by
  have h1 := R.fell_le hs.fell
  have hfin : (R.B n).length = (R.B (n - 1)).length := by
    rcases hs.fin with e | e
    · omega
    · exact e
  have p1 := hs.pos
  have p2 := h.pos
  constructor
  · intro hk
    rcases Nat.lt_trichotomy m n with hlt | heq | hgt
    · rcases h.fin with e | e
      · omega
      · have := hs.fell (m - 1) (by omega)
        rw [show m - 1 + 1 = m by omega] at this
        exact absurd e this
    · exact heq
    · have := h.fell (n - 1) (by omega)
      rw [show n - 1 + 1 = n by omega] at this
      exact absurd hfin this
  · intro hk
    rcases h.fin with e | e
    · exact e
    · have hle := h.le
      have := hs.fell (m - 1) (by omega)
      rw [show m - 1 + 1 = m by omega] at this
      exact absurd e this
theorem Rounds.stable_le {big n : Nat} (hs : R.Final big n) : n ≤ N + 1 := R.fell_le hs.fell
/-- What the statement on the rounds asks. -/
theorem Rounds.law {big n k m1 m2 : Nat} (hs : R.Final big n) (hb : N + 1 < big) (h1 : R.Final k m1) (h2 : R.Final (k + 1) m2) :
    (n ≤ k → R.B (m1 - 1) = R.B (n - 1) ∧ R.B (m2 - 1) = R.B (n - 1)) ∧ (k < n → (R.B (m2 - 1)).length < (R.B (m1 - 1)).length) ∧ ∀ l ∈ R.B (m1 - 1), ∃ m ∈ R.B (m2 - 1), ∀ x ∈ l, x ∈ m := by
  have a1 := R.stable hs hb h1
  have a2 := R.stable hs hb h2
  have p1 := h1.pos
  refine ⟨fun hk => ?_, fun hk => ?_, ?_⟩
  · rw [a1.1 hk, a2.1 (by omega)]; exact ⟨rfl, rfl⟩
  · have e1 := a1.2 hk
    have hk1 : 1 ≤ k := by omega
    have e2 : m2 = k + 1 := by
      by_cases hn : n ≤ k + 1
      · have := a2.1 hn; omega
      · exact a2.2 (by omega)
    have := hs.fell (k - 1) (by omega)
    have := R.len_le (k - 1)
    rw [e1, e2, show k + 1 - 1 = k - 1 + 1 by omega]
    omega
  · by_cases hk : n ≤ k
    · rw [a1.1 hk, a2.1 (by omega)]
      exact fun l hl => ⟨l, hl, fun x hx => hx⟩
    · have e1 := a1.2 (by omega)
      have hk1 : 1 ≤ k := by omega
      have e2 : m2 = k + 1 := by
        by_cases hn : n ≤ k + 1
        · have := a2.1 hn; omega
        · exact a2.2 (by omega)
      rw [e1, e2, show k + 1 - 1 = k - 1 + 1 by omega]
      exact R.sub (k - 1)
end
end Go.Sp
end
section
/- Keys of monomials, edges that a set of monomials makes: plain. -/
namespace Go.Sp
open Go.Ev
/-- A monomial as a key: six numbers. -/
def kv (m : List Int) : List Int := (List.range 6).map fun i => m.getD i 0
theorem kv_len (m : List Int) : (kv m).length = 6 := by simp [kv]
theorem kv_at (m : List Int) {i : Nat} (h : i < 6) : (kv m)[i]? = some (m.getD i 0) := by simp [kv, h]
theorem kv_inj {a b : List Int} (hl : a.length = b.length) (h6 : a.length ≤ 6) (h : kv a = kv b) : a = b := by
  refine List.ext_getElem hl fun i h1 h2 => ?_
  have e : (kv a)[i]? = (kv b)[i]? := by rw [h]
  rw [kv_at a (by omega), kv_at b (by omega)] at e
  simpa [h1, h2] using e
theorem kv_bound {m : List Int} {c : Int} (hc : 0 ≤ c) (h : ∀ x ∈ m, 0 ≤ x ∧ x ≤ c) : ∀ x ∈ kv m, 0 ≤ x ∧ x ≤ c := by
  intro x hx
  obtain ⟨i, _, rfl⟩ := List.mem_map.1 hx
  by_cases hi : i < m.length
  · rw [List.getD_eq_getElem?_getD, List.getElem?_eq_getElem hi, Option.getD_some]; exact h _ (List.getElem_mem _)
  · rw [List.getD_eq_getElem?_getD, List.getElem?_eq_none (by omega)]; exact ⟨Int.le_refl _, hc⟩
theorem addL_bound {a b : List Int} {c : Int} (ha : ∀ x ∈ a, 0 ≤ x ∧ x ≤ c) (hb : ∀ x ∈ b, 0 ≤ x ∧ x ≤ c) : ∀ x ∈ addL a b, 0 ≤ x ∧ x ≤ 2 * c := by
  intro x hx
  unfold addL at hx
  obtain ⟨i, hi, rfl⟩ := List.getElem_of_mem hx
  rw [List.getElem_zipWith]
  rw [List.length_zipWith] at hi
  have h1 := ha (a[i]'(by omega)) (List.getElem_mem _)
  have h2 := hb (b[i]'(by omega)) (List.getElem_mem _)
  omega
theorem addL_comm (a b : List Int) : addL a b = addL b a := by
  unfold addL
  exact List.zipWith_comm_of_comm (fun x y => Int.add_comm x y)
/-- The edges that a set of monomials makes among the monomials of a basis, row by row. -/
def edRow (b S : List (List Int)) (i : Nat) : List (Int × Int) := ((List.range b.length).filter fun j => decide (i < j) && decide (addL (b.getD i []) (b.getD j []) ∈ S)).map fun j : Nat => ((i : Int), (j : Int))
def edTo (b S : List (List Int)) (k : Nat) : List (Int × Int) := (List.range k).flatMap (edRow b S)
theorem edTo_succ (b S : List (List Int)) (k : Nat) : edTo b S (k + 1) = edTo b S k ++ edRow b S k := by
  unfold edTo; rw [List.range_succ, List.flatMap_append]; simp
theorem edRow_mem {b S : List (List Int)} {i : Nat} {p : Int × Int} : p ∈ edRow b S i ↔ ∃ j : Nat, p = ((i : Int), (j : Int)) ∧ i < j ∧ j < b.length ∧ addL (b.getD i []) (b.getD j []) ∈ S := by
  unfold edRow
  simp only [List.mem_map, List.mem_filter, List.mem_range, Bool.and_eq_true, decide_eq_true_eq]
  constructor
  · rintro ⟨j, ⟨h1, h2, h3⟩, rfl⟩; exact ⟨j, rfl, h2, h1, h3⟩
  · rintro ⟨j, rfl, h2, h1, h3⟩; exact ⟨j, ⟨h1, h2, h3⟩, rfl⟩
theorem edTo_mem {b S : List (List Int)} {p : Int × Int} : p ∈ edTo b S b.length ↔ ∃ i j : Nat, p = ((i : Int), (j : Int)) ∧ i < j ∧ j < b.length ∧ addL (b.getD i []) (b.getD j []) ∈ S := by
  unfold edTo
  simp only [List.mem_flatMap, List.mem_range, edRow_mem]
  constructor
  · rintro ⟨i, _, j, h⟩; exact ⟨i, j, h⟩
  · rintro ⟨i, j, h1, h2, h3, h4⟩; exact ⟨i, by omega, j, h1, h2, h3, h4⟩
/-- One row, made up to column m. -/
def edPart (b S : List (List Int)) (i m : Nat) : List (Int × Int) := ((List.range m).filter fun j => decide (i < j) && decide (addL (b.getD i []) (b.getD j []) ∈ S)).map fun j : Nat => ((i : Int), (j : Int))
theorem edPart_full (b S : List (List Int)) (i : Nat) : edPart b S i b.length = edRow b S i := rfl
theorem edPart_low (b S : List (List Int)) (i : Nat) : edPart b S i (i + 1) = [] := by
  unfold edPart
  rw [List.filter_eq_nil_iff.2]
  · rfl
  · intro x hx
    have := List.mem_range.1 hx
    simp; omega
theorem edPart_succ (b S : List (List Int)) {i m : Nat} (h : i < m) : edPart b S i (m + 1) = edPart b S i m ++ if addL (b.getD i []) (b.getD m []) ∈ S then [((i : Int), (m : Int))] else [] := by
  unfold edPart
  rw [List.range_succ, List.filter_append, List.map_append]
  by_cases hc : addL (b.getD i []) (b.getD m []) ∈ S
  · rw [if_pos hc, List.filter_cons_of_pos (by simp [h]; simpa using hc)]; rfl
  · rw [if_neg hc, List.filter_cons_of_neg (by simp [h]; simpa using hc)]; rfl
theorem edTo_congr {b S S' : List (List Int)} (h : ∀ i j, i < b.length → j < b.length → (addL (b.getD i []) (b.getD j []) ∈ S ↔ addL (b.getD i []) (b.getD j []) ∈ S')) : edTo b S b.length = edTo b S' b.length := by
  unfold edTo
  have : ∀ i ∈ List.range b.length, edRow b S i = edRow b S' i := by
    intro i hi
    unfold edRow
    have hf : ((List.range b.length).filter fun j => decide (i < j) && decide (addL (b.getD i []) (b.getD j []) ∈ S)) = (List.range b.length).filter fun j => decide (i < j) && decide (addL (b.getD i []) (b.getD j []) ∈ S') :=
      List.filter_congr (fun j hj => by rw [decide_eq_decide.2 (h i j (List.mem_range.1 hi) (List.mem_range.1 hj))])
    rw [hf]
  rw [List.flatMap_def, List.flatMap_def, List.map_congr_left this]
/-- The products within the blocks. -/
def blockAll (b : List (List Int)) (ls : List (List Int)) : List (List Int) := ls.flatMap fun l => l.flatMap fun i => l.map fun j => addL (b.getD i.toNat []) (b.getD j.toNat [])
end Go.Sp
end
section
/- The elements of a set, in a slice. -/
namespace Go.Proofs.Tg.Gx
open Go.RowKit Go.Gr
theorem int_info : (Tryz.prog.info? 3).map (fun i => (i.zero, i.size, i.bytes)) = some (some (.int .i64 0), 1, 8) := by kernel_rfl
set_option maxHeartbeats 1000000
theorem verts_any (s : Nat) (w : World) (hs : s < 18446744073709551616) (hT : Tab w) :
    Calls Tryz.prog 30 #[.int .u64 s] w (RetOwn 3 (verts s).length 1 ((verts s).map vn) w) := by
  obtain ⟨i0, hi, hz0, hz1, hz2⟩ := info_parts int_info
  have hlen : (verts s).length ≤ 64 := size_le s
  go_enter Tryz.func30, Tryz.ntmps30
  go_wp2
  go_loopw [0, 3] (fun t v wr => ∃ (x : Nat) (l : List Nat), t = .int .u64 x ∧ x < 18446744073709551616 ∧ Hid (verts s = l ++ verts x) ∧ l.length ≤ 64 ∧ wr.ownsRow w.heap.size 3 1 v l.length (l.map vn) ∧ Below w.heap.size w wr)
    (fun t _ _ => (intOf t).toNat)
  case atStart => exact ⟨s, [], rfl, hs, Lib.hid rfl, by simp, World.ownsRow_nil _ _ _ _, Below.refl _ _⟩
  case round =>
    obtain ⟨x, l, rfl, hx, HV, hl, hown, hb⟩ := hrel
    by_cases hx0 : x = 0
    · subst hx0
      go_wp2
      go_ret
      obtain ⟨A, c, hv, hc, _⟩ := Sl.of_own hown
      have hv2 : verts s = l := by rw [HV.out, verts_zero, List.append_nil]
      rw [hv2]
      exact ⟨A, c, by rw [← hv]; rfl, hc, by rw [← hv]; exact hown, hb⟩
    · have hxp : 0 < x := by omega
      have hxb : ((x : Int) != 0) = true := by simp; omega
      have ht := tz_any x wr hx hx0 (hT.below hb hT.1)
      obtain ⟨hv, hlt⟩ := verts_cons x hx hx0
      have hk := (Lib.lowest_bit 64 x hx0 hx).2
      generalize Lib.ctz 64 x = c at ht hv hk
      have HT := Lib.hid ht
      have e1 : (x : Int) - 1 = ((x - 1 : Nat) : Int) := by omega
      have HV2 : Hid (verts s = (l ++ [c]) ++ verts (x &&& (x - 1))) := by
        rw [List.append_assoc]; exact HV.out.trans (by rw [hv]; rfl)
      have hll : (l ++ [c]).length ≤ 64 := by have := congrArg List.length HV2.out; simp at this; simp; omega
      have HE := Lib.hid e1
      clear ht hv e1 hx0 HV
      go_wp2_with (first
        | (go_at_call 48; refine HT.out.mono ?_; rintro e w' ⟨rfl, rfl⟩)
        | (at_builtin; refine wpList_append_own _ rfl _ _ 50 rfl w.heap.size 3 i0 (.int .i64 0) 1 8 Tryz.underlying50 hi hz0 hz1 hz2 rfl (by decide) _ _ _ rfl (hown.alloc _) ⟨wr.heap.size, 0, none⟩ 1 1 [.int .i64 c] rfl rfl ?c1 ?c2 ?c3 ?c4 ?c5 ?_
           case c1 => exact cell_one_new _ _ _
           case c2 => simp [Value.oneCell']
           case c3 => simp only [maxLen]; omega
           case c4 => omega
           case c5 => have := hb.size; simp; omega
           intro v' w1 hown' hgrow _))
      have ea : bits BinOp.and IntKind.u64 (x : Int) ((x : Int) - 1) = ((x &&& (x - 1) : Nat) : Int) := by
        rw [HE.out, u64_and_nat _ _ hx (by omega)]
      go_roundw
      case rel =>
        refine ⟨x &&& (x - 1), l ++ [c], ?_, and_lt _ hx, HV2, hll, ?_, ?_⟩
        · rw [ea]
        · simpa [vn] using hown'
        · refine (hb.alloc hb.size _).grown hgrow (by have := hb.size; simp; omega) (fun k hk => (hown.lt k hk).1)
      case measure => simp [intOf, ea]; omega
end Go.Proofs.Tg.Gx
end
section
/- The adjacency: 64 sets in a block; connect. -/
namespace Go.Gr
def upd (A : Nat → Nat) (i s : Nat) : Nat → Nat := fun k => if k = i then s else A k
def connect (A : Nat → Nat) (i j : Nat) : Nat → Nat := upd (upd A i (bset (A i) j)) j (bset (upd A i (bset (A i) j) j) i)
def Small (A : Nat → Nat) : Prop := ∀ i, A i < 18446744073709551616
theorem Small.upd {A : Nat → Nat} (h : Small A) {i s : Nat} (hs : s < 18446744073709551616) : Small (upd A i s) := fun k => by
  unfold Gr.upd; split
  · exact hs
  · exact h k
theorem Small.connect {A : Nat → Nat} (h : Small A) {i j : Nat} (hi : i < 64) (hj : j < 64) : Small (connect A i j) :=
  (h.upd (bset_lt (h i) hj)).upd (bset_lt ((h.upd (bset_lt (h i) hj)) j) hi)
theorem Small.zero : Small (fun _ => 0) := fun _ => by simp
end Go.Gr
namespace Go.Proofs.Tg.Gx
open Go.RowKit Go.Gr
def adjA (A : Nat → Nat) : Array Value := ((List.range 64).map fun i => vs (A i)).toArray
theorem adjA_size (A : Nat → Nat) : (adjA A).size = 64 := by simp [adjA]
theorem adjA_at (A : Nat → Nat) {i : Nat} (hi : i < 64) : (adjA A)[i]? = some (.int .u64 (A i : Nat)) := by
  simp [adjA, hi, vs]
theorem adjA_set (A : Nat → Nat) {i : Nat} (_ : i < 64) (s : Nat) : (adjA A).setIfInBounds i (.int .u64 s) = adjA (upd A i s) := by
  apply Array.ext
  · simp [adjA]
  · intro k h1 h2
    rw [Array.getElem_setIfInBounds (by simpa using h1)]
    simp only [adjA, upd, vs, List.getElem_toArray, List.getElem_map, List.getElem_range]
    by_cases hk : i = k
    · subst hk; simp
    · rw [if_neg hk, if_neg (fun e => hk e.symm)]
abbrev AdjAt (w : World) (g : Nat) (A : Nat → Nat) : Prop := Blk w g 76 (adjA A)
theorem AdjAt.cell {w : World} {g : Nat} {A : Nat → Nat} (h : AdjAt w g A) {i : Nat} (hi : i < 64) : w.cell? ⟨g, i, none⟩ = some (.int .u64 (A i : Nat)) := (Blk.cell h i).trans (adjA_at A hi)
set_option maxHeartbeats 1000000
theorem grown_set {w w' : World} {g : Nat} (h : w.grownBy w' (some g)) (i : Nat) (u : Value) : w.grownBy (w'.setCell ⟨g, i, none⟩ u) (some g) :=
  ⟨h.os, h.tape, h.output, by simpa [World.setCell] using h.size, fun k hk hne => (Below.heap_setCell w' ⟨g, i, none⟩ u k (fun e => hne (by rw [e]))).trans (h.block k hk hne)⟩
theorem grown_drew {w w' : World} {row : Option Nat} (h : w.grownBy w' row) : w.grownBy w'.drew row := ⟨h.os, h.tape, h.output, h.size, h.block⟩
theorem grown_drewN {w w' : World} {row : Option Nat} (h : w.grownBy w' row) (n : Nat) : w.grownBy (w'.drewN n) row := ⟨h.os, h.tape, h.output, h.size, h.block⟩
theorem AdjAt.set {w : World} {g : Nat} {A : Nat → Nat} (h : AdjAt w g A) {i : Nat} (hi : i < 64) (s : Nat) : AdjAt (w.setCell ⟨g, i, none⟩ (.int .u64 s)) g (upd A i s) := by
  have := Blk.set h i (.int .u64 s)
  rwa [adjA_set A hi] at this
theorem connect_any (g i j : Nat) (A : Nat → Nat) (w : World) (hA : AdjAt w g A) (hS : Small A) (hi : i < 64) (hj : j < 64) :
    Calls Tryz.prog 47 #[.pointer (some ⟨g, 0, none⟩), .int .i64 i, .int .i64 j] w fun e w' => e = .returned (.tuple #[]) ∧ AdjAt w' g (connect A i j) ∧ w.grownBy w' (some g) := by
  go_enter Tryz.func47, Tryz.ntmps47
  go_upto_region 0 with fail
  go_cut [] (fun wx => AdjAt wx g (upd A i (bset (A i) j)) ∧ w.grownBy wx (some g))
  case first =>
    have hc := hA.cell hi
    have hf := Blk.frozen hA i
    have hs := hS i
    go_region_with (go_at_call 29; refine (with_any _ _ _ hs hj).mono ?_; rintro e w' ⟨rfl, rfl⟩)
    go_wp2_with fail
    go_meet
    exact ⟨Blk.drew (hA.set hi _), grown_drew (grown_set (World.grownBy.refl _ _) i _)⟩
  case rest =>
    obtain ⟨hA1, hg1⟩ := hcut
    have hs := (hS.upd (i := i) (bset_lt (hS i) hj)) j
    have hc := hA1.cell hj
    have hf := Blk.frozen hA1 j
    go_wp2
    go_region_with (go_at_call 29; refine (with_any _ _ _ hs hi).mono ?_; rintro e w' ⟨rfl, rfl⟩)
    go_wp2
    go_end0
    exact ⟨rfl, Blk.drew (hA1.set hj _), grown_drew (grown_set hg1 j _)⟩
end Go.Proofs.Tg.Gx
end
section
/- The edges of an adjacency, written out. -/
namespace Go.Gr
/-- The edges that go from i to greater vertices. -/
def rowEdges (A : Nat → Nat) (i : Nat) : List (Int × Int) := (verts (andn (A i) (firstN i))).map fun j : Nat => ((i : Int), (j : Int))
def writeEdges (A : Nat → Nat) (n : Nat) : List (Int × Int) := (List.range n).flatMap (rowEdges A)
theorem writeEdges_succ (A : Nat → Nat) (n : Nat) : writeEdges A (n + 1) = writeEdges A n ++ rowEdges A n := by
  simp [writeEdges, List.range_succ]
theorem rowEdges_len (A : Nat → Nat) (i : Nat) : (rowEdges A i).length ≤ 64 := by
  simp only [rowEdges, List.length_map]; exact size_le _
end Go.Gr
namespace Go.Proofs.Tg.Gx
open Go.RowKit Go.Gr
def ecells (es : List (Int × Int)) : List Value := es.flatMap fun e => [vi e.1, vi e.2]
theorem ecells_len (es : List (Int × Int)) : (ecells es).length = es.length * 2 := by
  induction es with
  | nil => rfl
  | cons e es ih => simp only [ecells, List.flatMap_cons, List.length_append, List.length_cons, List.length_nil] at ih ⊢; omega
theorem ecells_app (a b : List (Int × Int)) : ecells (a ++ b) = ecells a ++ ecells b := by simp [ecells]
theorem pair_info : (Tryz.prog.info? 94).map (fun i => (i.zero, i.size, i.bytes)) = some (some (.agg #[.int .i64 0, .int .i64 0]), 2, 16) := by kernel_rfl
theorem cell_two_new' (w : World) (a b : Value) (t : TypeId) : ∀ j u, [a, b][j]? = some u → (w.alloc (.cells #[a, b] t)).cell? ((⟨w.heap.size, 0, none⟩ : Addr).add j) = some u := by
  intro j u hu
  rw [add_lit, Nat.zero_add, Blk.cell (Blk.new w t #[a, b]) j]
  simpa using hu
set_option maxHeartbeats 1000000
set_option maxRecDepth 100000
def RetGraph (n : Int) (es : List (Int × Int)) (w : World) (e : Ending) (w' : World) : Prop :=
  ∃ A c, e = .returned (.agg #[.int .i64 n, .slice A es.length c]) ∧ es.length ≤ c ∧ w'.ownsRow w.heap.size 94 2 (.slice A es.length c) es.length (ecells es) ∧ Below w.heap.size w w'
theorem write_any (g n : Nat) (A : Nat → Nat) (w : World) (hA : AdjAt w g A) (hS : Small A) (hn : n ≤ 64) (hT : Tab w) :
    Calls Tryz.prog 62 #[.pointer (some ⟨g, 0, none⟩), .int .i64 n] w (RetGraph n (writeEdges A n) w) := by
  obtain ⟨i0, hi, hz0, hz1, hz2⟩ := info_parts pair_info
  have hgl := Blk.lt hA
  go_enter Tryz.func62, Tryz.ntmps62
  go_wp2
  go_loopw [12] (fun i wr => ∃ (k : Nat) (E : Option Addr) (c : Nat) (es : List (Int × Int)), i = .int .i64 k ∧ k ≤ n ∧ Blk wr w.heap.size 30 #[.int .i64 0, .slice none 0 0] ∧ Blk wr (w.heap.size + 1) 30 #[.int .i64 n, .slice E es.length c] ∧
      wr.ownsRow (w.heap.size + 2) 94 2 (.slice E es.length c) es.length (ecells es) ∧ es.length ≤ c ∧ es.length ≤ 64 * k ∧ Hid (es = writeEdges A k) ∧ Below w.heap.size w wr) (fun i _ => n - (intOf i).toNat)
  case atStart =>
    refine ⟨0, none, 0, [], rfl, Nat.zero_le _, ?_, ?_, World.ownsRow_nil _ _ _ _, by simp, by simp, Lib.hid (by simp [writeEdges]), ?_⟩
    · exact Blk.alloc (Blk.new _ _ _) _
    · have := Blk.new (w.alloc (Obj.cells #[Value.int IntKind.i64 0, Value.slice none 0 0] 30)) 30 #[Value.int IntKind.i64 ↑n, Value.slice none 0 0]
      simpa using this
    · exact ((Below.refl _ _).alloc (Nat.le_refl _) _).alloc (by simp) _
  case round =>
    obtain ⟨wo, rfl⟩ : ∃ wo : World, wo = wr := ⟨_, rfl⟩
    obtain ⟨k, E, c, es, rfl, hk, hb4, hb5, hown, hec, hel, HE, hb⟩ := hrel
    by_cases hlt : k < n
    · have hkl : k < 64 := by omega
      have hc := AdjAt.cell (hA.keep hb hgl) hkl
      have hs := hS k
      have hTr := hT.below hb hT.1
      have hbits := u64_andNot_nat (A k) (firstN k) hs (firstN_lt (by omega))
      have hsm := andn_lt (firstN k) hs
      change _ = ((andn (A k) (firstN k) : Nat) : Int) at hbits
      have HRE : Hid (rowEdges A k = (verts (andn (A k) (firstN k))).map fun j : Nat => ((k : Int), (j : Int))) := rfl
      have hvl : (verts (andn (A k) (firstN k))).length ≤ 64 := size_le _
      have hvb : ∀ x ∈ verts (andn (A k) (firstN k)), x < 64 := fun x hx => by simp [verts] at hx; exact hx.1
      generalize andn (A k) (firstN k) = S at hbits hsm HRE hvl hvb
      go_upto_region 5 with fail
      go_cut [23, 24, 25] (fun s23 s24 s25 wx => ∃ V cv, s23 = .slice V (verts S).length cv ∧ s24 = .int .i64 (verts S).length ∧ s25 = .int .i64 0 ∧ wx.ownsRow wo.heap.size 3 1 (.slice V (verts S).length cv) (verts S).length ((verts S).map vn) ∧ Below wo.heap.size wo wx)
      case first =>
        clear hb4 hb5 hown HE HRE hvb
        have hk0 : (0 : Int) ≤ (k : Int) := by omega
        have hk1 : (k : Int) < 64 := by omega
        have hgr : g < wo.heap.size := Nat.lt_of_lt_of_le hgl hb.size
        go_region_held3 (fun w' => w'.cell? ⟨g, k, none⟩ = some (.int .u64 (A k : Nat))) (first | go_keep | exact (hbV.cell (p := ⟨g, k, none⟩) hgr).trans hc)
          (first | (go_at_call 76; refine (first_any _ _ (by omega)).mono ?_; rintro e w' ⟨rfl, rfl⟩) | (go_at_call 30; refine (verts_any _ _ hsm (by exact hTr)).mono ?_; rintro e w' ⟨V, cv, rfl, hVc, hV, hbV⟩))
        all_goals (go_wp2_with fail; go_meet; exact ⟨V, cv, rfl, rfl, rfl, hV, below_of_drew hbV⟩)
      case rest =>
        obtain ⟨V, cv, rfl, rfl, rfl, hV, hbV⟩ := hcut
        clear hbits hc hs hsm hTr
        have hsz := hb.size
        have hsz2 := hbV.size
        have hb4l := hb4.lt
        have hb5l := hb5.lt
        have hb' : Below w.heap.size w wc := hb.trans (hbV.mono hsz)
        have hb4' := hb4.keep hbV hb4l
        have hb5' := hb5.keep hbV hb5l
        have hown' := own_below hown hbV (Nat.le_refl _)
        clear hb4 hb5 hown hb hbV
        go_wp2
        go_loopw [25] (fun j wx => ∃ (i : Nat) (E2 : Option Addr) (c2 : Nat) (fs : List (Int × Int)), j = .int .i64 i ∧ i ≤ (verts S).length ∧ Blk wx w.heap.size 30 #[.int .i64 0, .slice none 0 0] ∧ Blk wx (w.heap.size + 1) 30 #[.int .i64 n, .slice E2 fs.length c2] ∧
            wx.ownsRow (w.heap.size + 2) 94 2 (.slice E2 fs.length c2) fs.length (ecells fs) ∧ fs.length ≤ c2 ∧ fs.length ≤ 64 * k + i ∧ Hid (fs = es ++ ((verts S).take i).map fun j : Nat => ((k : Int), (j : Int))) ∧
            wx.ownsRow wo.heap.size 3 1 (.slice V (verts S).length cv) (verts S).length ((verts S).map vn) ∧ Below w.heap.size w wx) (fun j _ => (verts S).length - (intOf j).toNat)
        case atStart => exact ⟨0, E, c, es, rfl, Nat.zero_le _, hb4', hb5', hown', hec, hel, Lib.hid (by simp), hV, hb'⟩
        case round =>
          clear hb' hb4' hb5' hown' hV
          obtain ⟨i, E2, c2, fs, rfl, hi2, hb4, hb5, hown, hfc, hfl, HF, hV, hb⟩ := hrel
          by_cases hil : i < (verts S).length
          · obtain ⟨ad, rfl, hcv⟩ := Nats.at (Sl.own hV) hil
            have HF2 : Hid (fs ++ [((k : Int), (((verts S)[i] : Nat) : Int))] = es ++ ((verts S).take (i + 1)).map fun j : Nat => ((k : Int), (j : Int))) := by
              rw [List.take_succ_eq_append_getElem hil, List.map_append, ← List.append_assoc, ← HF.out]; rfl
            generalize (verts S)[i] = q at hcv HF2
            have h51 := hb5.cell 1
            have f51 := hb5.frozen 1
            simp at h51
            have hne := own_blk_ne hown hb5 (by decide)
            have hne4 := own_blk_ne hown hb4 (by decide)
            have hnv := own_ne hV hown (by decide)
            have hszx := hb.size
            have hl4 := hb4.lt
            have hl5 := hb5.lt
            have HB := Lib.hid (And.intro hb4 hb5)
            clear HF HE HRE
            go_wp2_with (at_builtin; go_must (refine wpList_append_own_at _ rfl _ _ 28 rfl (w.heap.size + 2) 94 i0 (.agg #[.int .i64 0, .int .i64 0]) 2 16 Tryz.underlying28 hi hz0 hz1 hz2 rfl (by decide) (.slice E2 fs.length c2) _ _ rfl (hown.alloc _) ⟨wr.heap.size, 0, none⟩ 1 1 [.int .i64 k, .int .i64 q] rfl rfl ?c1 ?c2 ?c3 ?c4 ?c5 ?_)
                         case c1 => exact cell_two_new' _ _ _ _
                         case c2 => simp [Value.oneCell']
                         case c3 => simp only [maxLen]; omega
                         case c4 => omega
                         case c5 => simp; omega
                         intro v' w1 hown1 hg1 _ _
                         obtain ⟨E3, c3, hv, hle3, _⟩ := Sl.of_own hown1
                         subst hv
                         have k51 := (Blk.grown (Blk.alloc HB.out.2 _) hg1 hne).cell 1
                         have g51 := (Blk.grown (Blk.alloc HB.out.2 _) hg1 hne).frozen 1
                         simp at k51)
            have hlen : (fs ++ [((k : Int), ((q : Nat) : Int))]).length = fs.length + 1 := by simp
            have B5 := Blk.grown (Blk.alloc HB.out.2 _) hg1 hne
            have B4 := Blk.grown (Blk.alloc HB.out.1 _) hg1 hne4
            have hV1 := (hV.alloc (.cells #[.int .i64 k, .int .i64 q] 94)).kept hg1 hnv
            go_roundw
            case rel =>
              refine ⟨i + 1, E3, c3, fs ++ [((k : Int), ((q : Nat) : Int))], by go_num, by omega, B4.far (by simp) _, ?_, ?_, by rw [hlen]; exact hle3, by rw [hlen]; omega, HF2, own_far hV1 (own_blk_ne hV1 B5 (by decide)) _, ?_⟩
              · have := B5.set 1 (.slice E3 (fs.length + 1) c3)
                rw [hlen]
                simpa using this
              · rw [hlen, ecells_app]
                exact own_far hown1 (own_blk_ne hown1 B5 (by decide)) _
              · exact ((hb.alloc hb.size _).grown hg1 (by simp; omega) (fun j hj => by have := (hown.lt j hj).1; omega)).setCell (by simp) _
            case measure => simp [intOf]; omega
          · obtain rfl : i = (verts S).length := by omega
            go_wp2
            go_roundw
            case rel =>
              refine ⟨k + 1, E2, c2, fs, by go_num, by omega, hb4, hb5, hown, hfc, by omega, ?_, hb⟩
              refine Lib.hid ?_
              rw [HF.out, List.take_length, ← HRE.out, writeEdges_succ, HE.out]
            case measure => simp [intOf]; omega
    · obtain rfl : k = n := by omega
      have h40 := hb4.cell 0
      have h41 := hb4.cell 1
      have f40 := hb4.frozen 0
      have f41 := hb4.frozen 1
      have h50 := hb5.cell 0
      have h51 := hb5.cell 1
      simp at h40 h41 h50 h51
      go_wp2
      refine bodyPost_ret (v := .agg #[.int .i64 k, .slice E es.length c]) (by simp [results, Tryz.results62, go_sem, h40, h41]) rfl ?_
      rw [← HE.out]
      exact ⟨E, c, rfl, hec, own_base (ownsRow_setCell_below (ownsRow_setCell_below hown (by simp) _) (by simp) _) (by omega), (hb.setCell (by simp) _).setCell (by simp) _⟩
end Go.Proofs.Tg.Gx
end
section
/- Comparisons: cmp.Compare at int, cmp.Or of two numbers, edges. -/
namespace Go.Gr
def orI (a b : Int) : Int := if a = 0 then b else a
def cmpE (e f : Int × Int) : Int := orI (cmpI e.1 f.1) (cmpI e.2 f.2)
end Go.Gr
namespace Go.Proofs.Tg.Gx
open Go.RowKit Go.Gr
set_option maxHeartbeats 1000000
set_option maxRecDepth 100000
theorem nan_any (a : Int) (w : World) : Calls Tryz.prog 77 #[.int .i64 a] w fun e w' => e = .returned (.bool false) ∧ w = w' := by
  go_enter Tryz.func77, Tryz.ntmps77
  go_wp2
  go_ret
  exact ⟨by simp, rfl⟩
theorem cmp_any (a b : Int) (w : World) : Calls Tryz.prog 65 #[.int .i64 a, .int .i64 b] w fun e w' => e = .returned (.int .i64 (cmpI a b)) ∧ w = w' := by
  by_cases h1 : a < b
  · have e : cmpI a b = -1 := by unfold cmpI; rw [if_pos h1]
    rw [e]; clear e
    go_enter Tryz.func65, Tryz.ntmps65
    go_wp2_with (go_at_call 77; refine (nan_any _ _).mono ?_; rintro e w' ⟨rfl, rfl⟩)
    go_ret
    exact ⟨rfl, rfl⟩
  · by_cases h2 : b < a
    · have e : cmpI a b = 1 := by unfold cmpI; rw [if_neg h1, if_pos h2]
      rw [e]; clear e
      go_enter Tryz.func65, Tryz.ntmps65
      go_wp2_with (go_at_call 77; refine (nan_any _ _).mono ?_; rintro e w' ⟨rfl, rfl⟩)
      go_ret
      exact ⟨rfl, rfl⟩
    · have e : cmpI a b = 0 := by unfold cmpI; rw [if_neg h1, if_neg h2]
      rw [e]; clear e
      go_enter Tryz.func65, Tryz.ntmps65
      go_wp2_with (go_at_call 77; refine (nan_any _ _).mono ?_; rintro e w' ⟨rfl, rfl⟩)
      go_ret
      exact ⟨rfl, rfl⟩
theorem or_any (g : Nat) (a b : Int) (c : Nat) (w : World) (h0 : w.cell? ⟨g, 0, none⟩ = some (.int .i64 a)) (h1 : w.cell? ⟨g, 1, none⟩ = some (.int .i64 b)) :
    Calls Tryz.prog 64 #[.slice (some ⟨g, 0, none⟩) 2 c] w fun e w' => e = .returned (.int .i64 (orI a b)) ∧ w = w' := by
  go_enter Tryz.func64, Tryz.ntmps64
  go_wp2
  go_loop [8] (fun i => ∃ k : Nat, i = .int .i64 k ∧ k ≤ 2 ∧ (0 < k → Hid (a = 0)) ∧ (1 < k → Hid (b = 0))) (fun i => 2 - (intOf i).toNat)
  case atStart => exact ⟨0, rfl, by omega, by omega, by omega⟩
  case round =>
    obtain ⟨k, rfl, hk, ha, hb⟩ := hrel
    have : k = 0 ∨ k = 1 ∨ k = 2 := by omega
    rcases this with rfl | rfl | rfl
    · clear ha hb
      by_cases hz : a = 0
      · have hbb : (a != 0) = false := by simp [hz]
        have HZ := Lib.hid hz; clear hz
        go_wp2
        go_round
        case rel => exact ⟨1, rfl, by omega, fun _ => HZ, by omega⟩
        case measure => simp [intOf]
      · have hbb : (a != 0) = true := by simp [hz]
        have e : orI a b = a := by unfold orI; rw [if_neg hz]
        have HO := Lib.hid e; clear e hz
        go_wp2
        go_ret
        exact ⟨by rw [HO.out]; rfl, rfl⟩
    · have e : orI a b = b := by unfold orI; rw [if_pos (ha (by omega)).out]
      have HO := Lib.hid e; clear e hb
      by_cases hz : b = 0
      · have hbb : (b != 0) = false := by simp [hz]
        have HZ := Lib.hid hz; clear hz
        go_wp2
        go_round
        case rel => exact ⟨2, rfl, by omega, fun _ => ha (by omega), fun _ => HZ⟩
        case measure => simp [intOf]
      · have hbb : (b != 0) = true := by simp [hz]
        clear hz
        go_wp2
        go_ret
        exact ⟨by rw [HO.out]; rfl, rfl⟩
    · have e : orI a b = 0 := by unfold orI; rw [if_pos (ha (by omega)).out, (hb (by omega)).out]
      have HO := Lib.hid e; clear e ha hb
      go_wp2
      go_ret
      exact ⟨by rw [HO.out]; rfl, rfl⟩
theorem or_new (a b : Int) (g : Nat) (W : World) (hg : g = W.heap.size) :
    Calls Tryz.prog 64 #[.slice (some ⟨g, 0, none⟩) 2 2] (W.alloc (.cells #[.int .i64 a, .int .i64 b] 3)).drew fun e w' => e = .returned (.int .i64 (orI a b)) ∧ (W.alloc (.cells #[.int .i64 a, .int .i64 b] 3)).drew = w' := by
  subst hg
  exact or_any _ _ _ _ _ (Blk.cell (Blk.drew (Blk.new W 3 #[.int .i64 a, .int .i64 b])) 0) (Blk.cell (Blk.drew (Blk.new W 3 #[.int .i64 a, .int .i64 b])) 1)
theorem cmpE_any (a b c d : Int) (w : World) :
    Calls Tryz.prog 46 #[.agg #[.int .i64 a, .int .i64 b], .agg #[.int .i64 c, .int .i64 d]] w fun e w' => e = .returned (.int .i64 (cmpE (a, b) (c, d))) ∧ Below w.heap.size w w' := by
  go_enter Tryz.func46, Tryz.ntmps46
  go_wp2
  go_region_held3 (fun w' => w'.cell? ⟨w.heap.size, 0, none⟩ = some (.int .i64 a) ∧ w'.cell? ⟨w.heap.size, 1, none⟩ = some (.int .i64 b) ∧ w'.cell? ⟨w.heap.size + 1, 0, none⟩ = some (.int .i64 c) ∧ w'.cell? ⟨w.heap.size + 1, 1, none⟩ = some (.int .i64 d)) (go_keep)
    (first | (go_at_call 65; refine (cmp_any _ _ _).mono ?_; rintro e w' ⟨rfl, rfl⟩) | (go_at_call 64; refine (or_new (cmpI a c) (cmpI b d) (w.heap.size + 1 + 1) ((w.alloc (.cells #[.int .i64 a, .int .i64 b] 94)).alloc (.cells #[.int .i64 c, .int .i64 d] 94)) ?_).mono ?_; simp; rintro e w1 ⟨rfl, rfl⟩))
  go_wp2
  go_ret
  exact ⟨rfl, (((((Below.refl _ _).alloc (Nat.le_refl _) _).alloc (by simp) _).alloc (by simp; omega) _).drew)⟩
end Go.Proofs.Tg.Gx
end
section
/- Reading a graph into an adjacency. -/
namespace Go.Gr
def goodEdge (n : Int) (e : Int × Int) : Prop := 0 ≤ e.1 ∧ e.1 < e.2 ∧ e.2 < n
def readAll (es : List (Int × Int)) : Nat → Nat := es.foldl (fun A e => connect A e.1.toNat e.2.toNat) (fun _ => 0)
/-- The first k edges are valid: each good by itself, and each behind the one before. -/
def validTo (n : Int) (es : List (Int × Int)) (k : Nat) : Prop := ∀ i (h : i < es.length), i < k → goodEdge n es[i] ∧ (0 < i → cmpE (es[i - 1]'(by omega)) es[i] < 0)
def valid (n : Int) (es : List (Int × Int)) : Prop := 0 ≤ n ∧ n ≤ 64 ∧ validTo n es es.length
end Go.Gr
namespace Go.Proofs.Tg.Gx
open Go.RowKit Go.Gr
abbrev EdgesAt (w : World) (E : Option Addr) (es : List (Int × Int)) : Prop := Sl w E es.length 2 (ecells es)
theorem ecells_at : ∀ (es : List (Int × Int)) (k : Nat) (hk : k < es.length), (ecells es)[k * 2]? = some (vi es[k].1) ∧ (ecells es)[k * 2 + 1]? = some (vi es[k].2)
  | e :: es, 0, _ => by simp [ecells]
  | e :: es, k + 1, hk => by
    have := ecells_at es k (by simpa using hk)
    simp only [ecells, List.flatMap_cons, show (k + 1) * 2 = k * 2 + 1 + 1 from by omega, List.cons_append, List.nil_append, List.getElem?_cons_succ, List.getElem_cons_succ] at this ⊢
    exact this
theorem EdgesAt.at {w : World} {E : Option Addr} {es : List (Int × Int)} (h : EdgesAt w E es) {k : Nat} (hk : k < es.length) :
    ∃ ad, E = some ad ∧ w.cell? (ad.add (k * 2)) = some (.int .i64 es[k].1) ∧ w.cell? ⟨(ad.add (k * 2)).block, (ad.add (k * 2)).off + 1, none⟩ = some (.int .i64 es[k].2) := by
  obtain ⟨ad, rfl, _, hc⟩ := h.lies (by omega)
  obtain ⟨h1, h2⟩ := ecells_at es k hk
  have h2' := hc _ _ h2
  exact ⟨ad, rfl, hc _ _ h1, by rw [← add_add] at h2'; exact h2'⟩
theorem adj_alloc {ops : Array Oper} {rest : List Oper} {a : Act} {w : World} {Q : Exit → Act → World → Prop} (dst : Option Tmp) (ty : TypeId) (pos : String) (after : Array Edge)
    (h : wpList Tryz.prog ops Q rest (a.put dst (.pointer (some ⟨w.heap.size, 0, none⟩))) (w.alloc (.cells (adjA fun _ => 0) 76))) : wpList Tryz.prog ops Q (⟨dst, .alloc 76, ty, pos, after, none⟩ :: rest) a w := by
  refine wpList_plain rfl fun K hK => ?_
  have hr : (execOp a.eval ⟨dst, .alloc 76, ty, pos, after, none⟩).run Tryz.prog w = .ok (.value (.pointer (some ⟨w.heap.size, 0, none⟩))) (w.alloc (.cells (adjA fun _ => 0) 76)) := by kernel_rfl
  unfold Oper.wp
  rw [hr]
  exact hK _ _ h
theorem under56 : Tryz.prog.underlying 76 = some (.array 64 74) := by kernel_rfl
theorem size56 (A : Nat → Nat) : (Tryz.prog.info? 76).map (·.size) = some (adjA A).size := by rw [adjA_size]; kernel_rfl
theorem adj_one (A : Nat → Nat) : (adjA A).all (·.oneCell') = true := by
  rw [Array.all_eq_true_iff_forall_mem]
  intro x hx
  simp only [adjA, vs, List.mem_toArray, List.mem_map] at hx
  obtain ⟨i, _, rfl⟩ := hx
  rfl
theorem results_adj {fn : Func} {p q : Tmp} (h : fn.results = #[.cell p 76, .tmp q]) (tmps : Array Value) (w : World) (g : Nat) (A : Nat → Nat)
    (hp : tmps.getD p undef = .pointer (some ⟨g, 0, none⟩)) (hg : w.heap[g]? = some (.cells (adjA A) 76 (0, 0))) :
    (results fn tmps).run Tryz.prog w = .ok (.tuple #[.agg (adjA A), tmps.getD q undef]) w := by
  have hp' : tmps[p]?.getD undef = .pointer (some ⟨g, 0, none⟩) := by simpa using hp
  simp [results, h, hp', asAddr, run_loadVar_row w g 76 76 (adjA A) (0, 0) (.array 64 74) hg under56 rfl (size56 A)]
theorem below_setRow {B : Nat} {a w : World} (h : Below B a w) {g : Nat} (hg : B ≤ g) (cs : Array Value) : Below B a (w.setRow g cs) :=
  h.trans ⟨rfl, rfl, rfl, by simp, fun k hk => setRow_other w g k _ (by omega)⟩
def RetRead (b : Bool) (A : Nat → Nat) (w : World) (e : Ending) (w' : World) : Prop :=
  ∃ A', Small A' ∧ e = .returned (.tuple #[.agg (adjA A'), .bool b]) ∧ (b = true → A' = A) ∧ Below w.heap.size w w'
set_option maxHeartbeats 1000000
set_option maxRecDepth 100000
theorem validTo_succ {n : Int} {es : List (Int × Int)} {k : Nat} (hk : k < es.length) (h : validTo n es k) (hg : goodEdge n es[k]) (hc : 0 < k → cmpE (es[k - 1]'(by omega)) es[k] < 0) : validTo n es (k + 1) := by
  intro i hi hik
  by_cases e : i = k
  · subst e; exact ⟨hg, hc⟩
  · exact h i hi (by omega)
theorem readAll_succ {es : List (Int × Int)} {k : Nat} (hk : k < es.length) : readAll (es.take (k + 1)) = connect (readAll (es.take k)) es[k].1.toNat es[k].2.toNat := by
  unfold readAll
  rw [List.take_succ_eq_append_getElem hk, List.foldl_append]
  rfl
theorem read_any (n : Int) (E : Option Addr) (c : Nat) (es : List (Int × Int)) (b : Bool) (w : World) (hE : EdgesAt w E es) (hn0 : 0 ≤ n) (hn : n ≤ 64) (hl : es.length ≤ 1000000) (hv : b = true ↔ valid n es) :
    Calls Tryz.prog 27 #[.agg #[.int .i64 n, .slice E es.length c]] w (RetRead b (readAll es) w) := by
  have hd1 : decide (n < 0) = false := by simp; omega
  have hd2 : decide (64 < n) = false := by simp; omega
  have HV := Lib.hid hv
  clear hv
  go_enter Tryz.func27, Tryz.ntmps27
  go_wp2_with (refine adj_alloc _ _ _ _ ?_)
  go_loopw [19] (fun i wr => ∃ (k : Nat) (A : Nat → Nat), i = .int .i64 k ∧ k ≤ es.length ∧ Blk wr w.heap.size 30 #[.int .i64 n, .slice E es.length c] ∧ Blk wr (w.heap.size + 1) 76 (adjA fun _ => 0) ∧ AdjAt wr (w.heap.size + 1 + 1) A ∧ Small A ∧
      Hid (A = readAll (es.take k)) ∧ Hid (validTo n es k) ∧ Below w.heap.size w wr) (fun i _ => es.length - (intOf i).toNat)
  case atStart =>
    refine ⟨0, fun _ => 0, rfl, Nat.zero_le _, ?_, ?_, ?_, Small.zero, Lib.hid (by simp [readAll]), Lib.hid (fun i _ h => by omega), ?_⟩
    · exact ((Blk.new _ _ _).alloc _).alloc _
    · have := (Blk.new (w.alloc (Obj.cells #[Value.int IntKind.i64 n, Value.slice E es.length c] 30)) 76 (adjA fun _ => 0)).alloc (Obj.cells (adjA fun _ => 0) 76)
      simpa using this
    · have := Blk.new ((w.alloc (Obj.cells #[Value.int IntKind.i64 n, Value.slice E es.length c] 30)).alloc (Obj.cells (adjA fun _ => 0) 76)) 76 (adjA fun _ => 0)
      simpa using this
    · exact (((Below.refl _ _).alloc (Nat.le_refl _) _).alloc (by simp) _).alloc (by simp; omega) _
  case round =>
    obtain ⟨k, A, rfl, hk, hb1, hb2, hb4, hS, HA, HT, hb⟩ := hrel
    by_cases hlt : k < es.length
    · obtain ⟨ad, rfl, hc1, hc2⟩ := EdgesAt.at (hE.keep hb) hlt
      have hprev : 0 < k → ∃ x0 y0 : Int, Hid (es[k - 1]'(by omega) = (x0, y0)) ∧ wr.cell? (ad.add ((k - 1) * 2)) = some (.int .i64 x0) ∧ wr.cell? ⟨(ad.add ((k - 1) * 2)).block, (ad.add ((k - 1) * 2)).off + 1, none⟩ = some (.int .i64 y0) := by
        intro h0
        obtain ⟨ad', e, g1, g2⟩ := EdgesAt.at (hE.keep hb) (k := k - 1) (by omega)
        injection e with e
        subst e
        exact ⟨_, _, Lib.hid rfl, g1, g2⟩
      obtain ⟨x, y, hp⟩ : ∃ x y, es[k] = (x, y) := ⟨_, _, rfl⟩
      have HP := Lib.hid hp
      rw [hp] at hc1 hc2
      clear hp
      simp only at hc1 hc2
      have hb1l := hb1.lt
      obtain ⟨bad, HB⟩ : ∃ bad : Bool, Hid (bad = false ↔ goodEdge n (x, y) ∧ (0 < k → cmpE (es[k - 1]'(by omega)) (x, y) < 0)) := by
        by_cases h : goodEdge n (x, y) ∧ (0 < k → cmpE (es[k - 1]'(by omega)) (x, y) < 0)
        · exact ⟨false, by simpa [Hid] using h⟩
        · exact ⟨true, by simpa [Hid] using h⟩
      go_upto_region 7 with fail
      go_cut [55] (fun s55 wx => s55 = .bool bad ∧ Below (wr.heap.size + 1) (wr.alloc (.cells #[.int .i64 x, .int .i64 y] 94)) wx)
      case first =>
        have h10 := hb1.cell 0
        have h11 := hb1.cell 1
        simp at h10 h11
        clear hE HA HT hb2 hb4 HV hc1 hc2 hb1
        by_cases hx : x < 0
        · have d1 : decide (x < 0) = true := by simpa using hx
          obtain rfl : bad = true := by
            cases bad
            · exact absurd (HB.out.1 rfl).1.1 (by simp; omega)
            · rfl
          clear HB hprev
          go_quiet (fail)
          go_wp2_with fail
          go_meet
          exact ⟨rfl, below_drewN (Below.refl _ _) _⟩
        · have d1 : decide (x < 0) = false := by simpa using hx
          by_cases hxy : y ≤ x
          · have d2 : decide (y ≤ x) = true := by simpa using hxy
            obtain rfl : bad = true := by
              cases bad
              · exact absurd (HB.out.1 rfl).1.2.1 (by simp; omega)
              · rfl
            clear HB hprev
            go_quiet (fail)
            go_wp2_with fail
            go_meet
            exact ⟨rfl, below_drewN (Below.refl _ _) _⟩
          · have d2 : decide (y ≤ x) = false := by simpa using hxy
            by_cases hyn : n ≤ y
            · have d3 : decide (n ≤ y) = true := by simpa using hyn
              obtain rfl : bad = true := by
                cases bad
                · exact absurd (HB.out.1 rfl).1.2.2 (by simp; omega)
                · rfl
              clear HB hprev
              go_quiet (fail)
              go_wp2_with fail
              go_meet
              exact ⟨rfl, below_drewN (Below.refl _ _) _⟩
            · have d3 : decide (n ≤ y) = false := by simpa using hyn
              by_cases hk0 : k = 0
              · subst hk0
                obtain rfl : bad = false := HB.out.2 ⟨⟨by simp; omega, by simp; omega, by simp; omega⟩, by omega⟩
                clear HB hprev
                go_quiet (fail)
                go_wp2_with fail
                go_meet
                exact ⟨rfl, below_drewN (Below.refl _ _) _⟩
              · have hkp : 0 < k := by omega
                obtain ⟨x0, y0, HP0, hq1, hq2⟩ := hprev hkp
                clear hprev
                have d4 : decide ((0 : Int) < (k : Int)) = true := by simp; omega
                have k0 : (0 : Int) ≤ (k : Int) - 1 := by omega
                have k1 : (k : Int) - 1 < (es.length : Int) := by omega
                have HB2 : Hid (bad = decide (0 ≤ cmpE (x0, y0) (x, y))) := by
                  refine Lib.hid ?_
                  have h := HB.out
                  rw [HP0.out] at h
                  cases bad
                  · have := (h.1 rfl).2 hkp; simp; omega
                  · by_cases hc : cmpE (x0, y0) (x, y) < 0
                    · exact absurd (h.2 ⟨⟨by simp; omega, by simp; omega, by simp; omega⟩, fun _ => hc⟩) (by simp)
                    · simp; omega
                clear HB hk0 HP HP0
                have HS : Hid ((wr.alloc (.cells #[.int .i64 x, .int .i64 y] 94)).cell? ⟨wr.heap.size, 0, none⟩ = some (.int .i64 x) ∧ (wr.alloc (.cells #[.int .i64 x, .int .i64 y] 94)).cell? ⟨wr.heap.size, 1, none⟩ = some (.int .i64 y)) :=
                  ⟨Blk.cell (Blk.new wr 94 #[.int .i64 x, .int .i64 y]) 0, Blk.cell (Blk.new wr 94 #[.int .i64 x, .int .i64 y]) 1⟩
                have k2 : (1 : Int) ≤ (k : Int) := by omega
                have k3 : ((k : Int) - 1).toNat = k - 1 := by omega
                have k4 : IntKind.i64.wrap ((k : Int) - 1) = (k : Int) - 1 := IntWalk.i64_in _ (by omega)
                go_region_held3 (fun w' => w'.cell? ⟨wr.heap.size, 0, none⟩ = some (.int .i64 x) ∧ w'.cell? ⟨wr.heap.size, 1, none⟩ = some (.int .i64 y) ∧ w'.cell? ⟨w.heap.size, 0, none⟩ = some (.int .i64 n) ∧ w'.cell? ⟨w.heap.size, 1, none⟩ = some (.slice (some ad) es.length c) ∧
                    w'.cell? (ad.add ((k - 1) * 2)) = some (.int .i64 x0) ∧ w'.cell? ⟨(ad.add ((k - 1) * 2)).block, (ad.add ((k - 1) * 2)).off + 1, none⟩ = some (.int .i64 y0)) (first | go_keep | exact ⟨keep_cell hbc HS.out.1, keep_cell hbc HS.out.2, keep_cell hbc (cell_alloc h10 _), keep_cell hbc (cell_alloc h11 _), keep_cell hbc (cell_alloc hq1 _), keep_cell hbc (cell_alloc hq2 _)⟩)
                  (first | (go_at_call 46; refine (cmpE_any _ _ _ _ _).mono ?_; rintro e w' ⟨rfl, hbc⟩))
                go_wp2_with fail
                go_meet
                exact ⟨by rw [HB2.out], (below_of_drew hbc).mono (by simp)⟩
      case rest =>
        obtain ⟨rfl, hbx⟩ := hcut
        have hbl := hb.size
        have l2 := hb2.lt
        have l4 := Blk.lt hb4
        have B1 := (hb1.alloc (.cells #[.int .i64 x, .int .i64 y] 94)).keep hbx (by omega)
        have B2 := (hb2.alloc (.cells #[.int .i64 x, .int .i64 y] 94)).keep hbx (by omega)
        have B4 := (Blk.alloc hb4 (.cells #[.int .i64 x, .int .i64 y] 94)).keep hbx (by omega)
        have B6 := (Blk.new wr 94 #[.int .i64 x, .int .i64 y]).keep hbx (by omega)
        have hbw : Below w.heap.size w wc := (hb.alloc hbl _).trans (hbx.mono (by omega))
        clear hb1 hb2 hb4 hb hbx hc1 hc2 hprev hE
        cases bad
        · have c0 := B6.cell 0
          have c1 := B6.cell 1
          simp at c0 c1
          obtain ⟨⟨p1, p2, p3⟩, p4⟩ := HB.out.1 rfl
          simp only at p1 p2 p3
          obtain ⟨i, rfl⟩ := Int.eq_ofNat_of_zero_le p1
          obtain ⟨j, rfl⟩ := Int.eq_ofNat_of_zero_le (show 0 ≤ y by omega)
          go_wp2_with (go_at_call 47; refine (connect_any _ _ _ A _ B4 hS (by omega) (by omega)).mono ?_; rintro e w1 ⟨rfl, hA1, hg1⟩)
          go_roundw
          case rel =>
            refine ⟨k + 1, connect A i j, by go_num, by omega, B1.grown hg1 (fun h => by injection h with h; omega), B2.grown hg1 (fun h => by injection h with h; omega), hA1, hS.connect (by omega) (by omega), Lib.hid ?_, Lib.hid (validTo_succ hlt HT.out ?_ ?_), hbw.grown hg1 hbw.size (fun q hq => by injection hq with hq; omega)⟩
            · rw [readAll_succ hlt, HP.out, ← HA.out]; rfl
            · rw [HP.out]; exact ⟨p1, p2, p3⟩
            · intro h0; rw [HP.out]; exact p4 h0
          case measure => simp [intOf]; omega
        · obtain rfl : b = false := by
            cases b
            · rfl
            · have := ((HV.out.1 rfl).2.2 k hlt hlt)
              rw [HP.out] at this
              exact absurd (HB.out.2 this) (by simp)
          go_wp2_with (first | (refine wpList_load_row rfl 76 (.tmp 4) rfl (w.heap.size + 1 + 1) rfl 76 (adjA A) (0, 0) (.array 64 74) B4 under56 rfl (size56 A) ?_) | (refine wpList_store_row rfl 76 (.tmp 2) (.tmp 56) rfl (w.heap.size + 1) (adjA A) rfl rfl 76 (adjA fun _ => 0) B2 (size56 A) (by simp only [adjA_size]) (adj_one A) ?_))
          exact bodyPost_ret (v := .tuple #[.agg (adjA A), .bool false]) (results_adj (p := 2) (q := 3) rfl _ _ (w.heap.size + 1) A rfl (setRow_heap wc _ _ _ _ _ B2)) rfl ⟨A, hS, rfl, by simp, below_setRow hbw (by omega) _⟩
    · obtain rfl : k = es.length := by omega
      obtain rfl : b = true := HV.out.2 ⟨hn0, hn, HT.out⟩
      go_wp2_with (first | (refine wpList_load_row rfl 76 (.tmp 4) rfl (w.heap.size + 1 + 1) rfl 76 (adjA A) (0, 0) (.array 64 74) hb4 under56 rfl (size56 A) ?_) | (refine wpList_store_row rfl 76 (.tmp 2) (.tmp 63) rfl (w.heap.size + 1) (adjA A) rfl rfl 76 (adjA fun _ => 0) hb2 (size56 A) (by simp only [adjA_size]) (adj_one A) ?_))
      exact bodyPost_ret (v := .tuple #[.agg (adjA A), .bool true]) (results_adj (p := 2) (q := 3) rfl _ _ (w.heap.size + 1) A rfl (setRow_heap wr _ _ _ _ _ hb2)) rfl ⟨A, hS, rfl, fun _ => by rw [HA.out, List.take_length], below_setRow hb (by omega) _⟩
theorem read_out (n : Int) (E : Option Addr) (c : Nat) (es : List (Int × Int)) (w : World) (hn : n < 0 ∨ 64 < n) (A : Nat → Nat) :
    Calls Tryz.prog 27 #[.agg #[.int .i64 n, .slice E es.length c]] w (RetRead false A w) := by
  have fin : ∀ W : World, Below w.heap.size w W → Blk W (w.heap.size + 1) 76 (adjA fun _ => 0) → RetRead false A w (.returned (.tuple #[.agg (adjA fun _ => 0), .bool false])) (W.setRow (w.heap.size + 1) (adjA fun _ => 0)) :=
    fun W hb _ => ⟨_, Small.zero, rfl, by simp, below_setRow hb (by omega) _⟩
  have b2 : Blk (((w.alloc (.cells #[.int .i64 n, .slice E es.length c] 30)).alloc (.cells (adjA fun _ => 0) 76)).alloc (.cells (adjA fun _ => 0) 76)) (w.heap.size + 1) 76 (adjA fun _ => 0) := by
    have := (Blk.new (w.alloc (.cells #[.int .i64 n, .slice E es.length c] 30)) 76 (adjA fun _ => 0)).alloc (.cells (adjA fun _ => 0) 76)
    simpa using this
  have b4 : Blk (((w.alloc (.cells #[.int .i64 n, .slice E es.length c] 30)).alloc (.cells (adjA fun _ => 0) 76)).alloc (.cells (adjA fun _ => 0) 76)) (w.heap.size + 1 + 1) 76 (adjA fun _ => 0) := by
    have := Blk.new ((w.alloc (.cells #[.int .i64 n, .slice E es.length c] 30)).alloc (.cells (adjA fun _ => 0) 76)) 76 (adjA fun _ => 0)
    simpa using this
  have hb : Below w.heap.size w (((w.alloc (.cells #[.int .i64 n, .slice E es.length c] 30)).alloc (.cells (adjA fun _ => 0) 76)).alloc (.cells (adjA fun _ => 0) 76)) :=
    (((Below.refl _ _).alloc (Nat.le_refl _) _).alloc (by simp) _).alloc (by simp; omega) _
  have HF := Lib.hid (fin _ hb b2)
  have H2 := Lib.hid b2
  have H4 := Lib.hid b4
  clear fin b2 b4 hb
  by_cases h1 : n < 0
  · have hd1 : decide (n < 0) = true := by simpa using h1
    clear hn
    go_enter Tryz.func27, Tryz.ntmps27
    go_wp2_with (first | (refine adj_alloc _ _ _ _ ?_) | (refine wpList_load_row rfl 76 (.tmp 4) rfl (w.heap.size + 1 + 1) rfl 76 (adjA fun _ => 0) (0, 0) (.array 64 74) H4.out under56 rfl (size56 _) ?_) | (refine wpList_store_row rfl 76 (.tmp 2) (.tmp 15) rfl (w.heap.size + 1) (adjA fun _ => 0) rfl rfl 76 (adjA fun _ => 0) H2.out (size56 _) (by simp only [adjA_size]) (adj_one _) ?_))
    exact bodyPost_ret (v := .tuple #[.agg (adjA fun _ => 0), .bool false]) (results_adj (p := 2) (q := 3) rfl _ _ (w.heap.size + 1) (fun _ => 0) rfl (setRow_heap _ _ _ _ _ _ H2.out)) rfl HF.out
  · have hd1 : decide (n < 0) = false := by simpa using h1
    have hd2 : decide (64 < n) = true := by simp; omega
    clear hn
    go_enter Tryz.func27, Tryz.ntmps27
    go_wp2_with (first | (refine adj_alloc _ _ _ _ ?_) | (refine wpList_load_row rfl 76 (.tmp 4) rfl (w.heap.size + 1 + 1) rfl 76 (adjA fun _ => 0) (0, 0) (.array 64 74) H4.out under56 rfl (size56 _) ?_) | (refine wpList_store_row rfl 76 (.tmp 2) (.tmp 15) rfl (w.heap.size + 1) (adjA fun _ => 0) rfl rfl 76 (adjA fun _ => 0) H2.out (size56 _) (by simp only [adjA_size]) (adj_one _) ?_))
    exact bodyPost_ret (v := .tuple #[.agg (adjA fun _ => 0), .bool false]) (results_adj (p := 2) (q := 3) rfl _ _ (w.heap.size + 1) (fun _ => 0) rfl (setRow_heap _ _ _ _ _ _ H2.out)) rfl HF.out
theorem read_all (n : Int) (E : Option Addr) (c : Nat) (es : List (Int × Int)) (b : Bool) (w : World) (hE : EdgesAt w E es) (hl : es.length ≤ 1000000) (hv : b = true ↔ valid n es) :
    Calls Tryz.prog 27 #[.agg #[.int .i64 n, .slice E es.length c]] w (RetRead b (readAll es) w) := by
  by_cases h : 0 ≤ n ∧ n ≤ 64
  · exact read_any n E c es b w hE h.1 h.2 hl hv
  · obtain rfl : b = false := by
      cases b
      · rfl
      · have := hv.1 rfl; exact absurd ⟨this.1, this.2.1⟩ h
    exact read_out n E c es w (by omega) _
end Go.Proofs.Tg.Gx
end
