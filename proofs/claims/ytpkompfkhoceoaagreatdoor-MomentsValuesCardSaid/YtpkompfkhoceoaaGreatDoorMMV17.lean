/- Parts of the proof: GChordal, GPD, GPE, GPH, GPJ, GPO, SP4, SM4, QV2, FN4, FN5. -/
import Derived.Maps.OwnSet
import Derived.DeepKeys5
import Derived.WalkKit
import Derived.ChangeKeys
import Derived.Maps.OwnOps
import Derived.DeepKeys4
import Derived.Deep.AppendLies
import Derived.Deep.RegionHeld3
import Derived.Test.YtpkompfkhoceoaaGreatDoorMMV1
import Derived.Test.YtpkompfkhoceoaaGreatDoorMMV2
import Derived.Test.YtpkompfkhoceoaaGreatDoorMMV3
import Derived.Test.YtpkompfkhoceoaaGreatDoorMMV7
import Derived.Test.YtpkompfkhoceoaaGreatDoorMMV8
import Derived.Test.YtpkompfkhoceoaaGreatDoorMMV9
import Derived.Test.YtpkompfkhoceoaaGreatDoorMMV13
import Derived.Test.YtpkompfkhoceoaaGreatDoorMMV15
import Derived.Test.YtpkompfkhoceoaaGreatDoorMMV16
section
/- Plain mathematics of chordal graphs: a graph with a perfect elimination order has the order of every maximum cardinality search as one. No program in sight. -/
namespace Go.Chordal

/-- A path p 0 .. p j without chords. -/
structure Path (adj : Nat → Nat → Prop) (p : Nat → Nat) (j : Nat) : Prop where
  inj : ∀ a b, a < b → b ≤ j → p a ≠ p b
  step : ∀ a, a < j → adj (p a) (p (a + 1))
  free : ∀ a b, a + 1 < b → b ≤ j → ¬ adj (p a) (p b)

theorem Path.take {adj : Nat → Nat → Prop} {p : Nat → Nat} {j i : Nat} (h : Path adj p j) (hi : i ≤ j) : Path adj p i where
  inj a b hab hb := h.inj a b hab (by omega)
  step a ha := h.step a (by omega)
  free a b hab hb := h.free a b hab (by omega)

/-- How many of o 0 .. o (y - 1) are adjacent to v. -/
def cnt (adj : Nat → Nat → Bool) (o : Nat → Nat) (y v : Nat) : Nat := ((List.range y).filter fun k => adj v (o k)).length

end Go.Chordal
end
section
/- Plain law of Extend: what it adds; its order of elimination is perfect. -/
namespace Go.Gr
open Go.Chordal
def bt (A : Nat → Nat) (i j : Nat) : Bool := (A i).testBit j
theorem bt_lt {A : Nat → Nat} (hS : Small A) {i j : Nat} (h : bt A i j = true) : j < 64 := by
  by_cases hj : j < 64
  · exact hj
  · have := high_bit (hS i) (show 64 ≤ j by omega)
    unfold bt at h
    rw [this] at h
    cases h
theorem fill_bit (ar : Nat) : ∀ (l : List Nat) (A : Nat → Nat), (∀ v ∈ l, v < 64) → l.Nodup → ∀ v j, (fill ar l A v).testBit j = ((A v).testBit j || (decide (v ∈ l) && (bclr ar v).testBit j))
  | [], A, _, _, v, j => by simp [fill]
  | x :: l, A, hl, hn, v, j => by
    rw [List.nodup_cons] at hn
    have e : fill ar (x :: l) A = fill ar l (fillStep ar A x) := by simp [fill]
    rw [e, fill_bit ar l _ (fun u hu => hl u (by simp [hu])) hn.2]
    by_cases h : v = x
    · subst h
      unfold fillStep
      rw [upd_same, Nat.testBit_or]
      simp [hn.1]
    · unfold fillStep
      rw [upd_other _ _ h]
      simp [h]
theorem verts_nodup (s : Nat) : (verts s).Nodup := by
  unfold verts
  exact List.Pairwise.filter _ List.nodup_range
theorem verts_empty {s : Nat} (hs : s < 18446744073709551616) (h : verts s = []) : s = 0 := by
  apply Nat.eq_of_testBit_eq
  intro i
  rw [Nat.zero_testBit]
  by_cases hi : i < 64
  · cases hb : s.testBit i with
    | false => rfl
    | true =>
      have : i ∈ verts s := mem_verts.2 ⟨hi, hb⟩
      rw [h] at this
      simp at this
  · exact high_bit hs (by omega)
theorem elim_at {A : Nat → Nat} {rest : Nat} (hI : Irr A) (hr : rest < 18446744073709551616) (h0 : rest ≠ 0) :
    ∃ b, b < 64 ∧ rest.testBit b = true ∧ elim A rest = (fill (A b &&& rest) (verts (A b &&& rest)) A, bclr rest b) ∧ (∀ u, u < 64 → rest.testBit u = true → size (A b &&& rest) ≤ size (A u &&& rest)) ∧
      (∀ u, u < b → rest.testBit u = true → size (A b &&& rest) < size (A u &&& rest)) := by
  rcases minOf_spec A rest hI (verts rest).reverse (verts rest) (fun v hv => (mem_verts.1 hv).1) rfl with h | ⟨b, l, m, hlm, hm, h1, h2⟩
  · exact absurd (verts_empty hr h) h0
  · have hb : b ∈ verts rest := by rw [hlm]; simp
    have hasc : (verts rest).Pairwise (· < ·) := by unfold verts; exact List.Pairwise.filter _ List.pairwise_lt_range
    refine ⟨b, (mem_verts.1 hb).1, (mem_verts.1 hb).2, by unfold elim; rw [hm]; rfl, fun u hu hub => ?_, fun u hu hub => ?_⟩
    · have hmem : u ∈ verts rest := mem_verts.2 ⟨hu, hub⟩
      rw [hlm] at hmem
      rcases List.mem_append.1 hmem with h | h
      · have := h1 u h; omega
      · rcases List.mem_cons.1 h with rfl | h
        · exact Nat.le_refl _
        · exact h2 u h
    · have hmem : u ∈ verts rest := mem_verts.2 ⟨by have := (mem_verts.1 hb).1; omega, hub⟩
      rw [hlm] at hmem hasc
      rw [List.pairwise_append, List.pairwise_cons] at hasc
      rcases List.mem_append.1 hmem with h | h
      · exact h1 u h
      · rcases List.mem_cons.1 h with rfl | h
        · omega
        · have := hasc.2.1.1 u h; omega
end Go.Gr
end
section
/- Plain law of isChordal: exactly the graphs with a perfect elimination order. -/
namespace Go.Gr
open Go.Chordal
def ord (A : Nat → Nat) (n k : Nat) : Nat := (search A n).getD k 0
end Go.Gr
end
section
/- Plain mathematics of clique trees: a tree that grows by a heaviest edge each time is a clique tree, if there is one. No program in sight. -/
namespace Go.Jt
open Go.Gr
/-- b is reached from a by steps of R. -/
def Conn (R : Nat → Nat → Prop) (a b : Nat) : Prop := ∀ P : Nat → Prop, P a → (∀ x y, P x → R x y → P y) → P b
section
variable {R : Nat → Nat → Prop}
theorem Conn.refl (a : Nat) : Conn R a a := fun _ h _ => h
theorem Conn.step {a b : Nat} (h : R a b) : Conn R a b := fun _ ha hs => hs a b ha h
theorem Conn.trans {a b c : Nat} (h : Conn R a b) (k : Conn R b c) : Conn R a c := fun P ha hs => k P (h P ha hs) hs
theorem Conn.symm (hR : ∀ x y, R x y → R y x) {a b : Nat} (h : Conn R a b) : Conn R b a :=
  h (fun x => Conn R x a) (Conn.refl a) (fun x y hx hxy => (Conn.step (hR x y hxy)).trans hx)
theorem Conn.cross {a b : Nat} (h : Conn R a b) (I : Nat → Prop) (ha : I a) (hb : ¬ I b) : ∃ x y, R x y ∧ I x ∧ ¬ I y := by
  by_cases hex : ∃ x y, R x y ∧ I x ∧ ¬ I y
  · exact hex
  · exact absurd (h I ha (fun x y hx hxy => Classical.byContradiction fun hy => hex ⟨x, y, hxy, hx, hy⟩)) hb
end
theorem sum_add (f g : Nat → Nat) : ∀ l : List Nat, (l.map fun x => f x + g x).sum = (l.map f).sum + (l.map g).sum
  | [] => by simp
  | x :: l => by simp [sum_add f g l]; omega
theorem sum_ind (p : Nat → Bool) : ∀ l : List Nat, (l.map fun x => if p x = true then 1 else 0).sum = (l.filter p).length
  | [] => by simp
  | x :: l => by
    rw [List.map_cons, List.sum_cons, sum_ind p l]
    cases h : p x <;> simp [h]; omega
/-- Pairs are counted by rows and by columns. -/
theorem double (f : Nat → Nat → Bool) (n : Nat) : ∀ m, ((List.range m).map fun r => ((List.range n).filter (f r)).length).sum = ((List.range n).map fun v => ((List.range m).filter fun r => f r v).length).sum
  | 0 => by
    have : ((List.range n).map fun v => ((List.range 0).filter fun r => f r v).length) = (List.range n).map fun _ => 0 := by simp
    rw [this]
    have h0 : ∀ l : List Nat, (l.map fun _ => 0).sum = 0 := by intro l; induction l <;> simp_all
    simp [h0]
  | m + 1 => by
    rw [List.range_succ, List.map_append, List.sum_append, double f n m]
    have : (fun v => ((List.range m ++ [m]).filter fun r => f r v).length) = fun v => ((List.range m).filter fun r => f r v).length + if f m v = true then 1 else 0 := by
      funext v
      rw [List.filter_append, List.length_append]
      cases h : f m v <;> simp [h]
    rw [this, sum_add, sum_ind]
    simp
def links (T q : Nat → Nat) (m v : Nat) : Nat := ((List.range m).filter fun r => decide (0 < r) && (T r &&& q r).testBit v).length
def wt (T q : Nat → Nat) (r : Nat) : Nat := if 0 < r then size (T r &&& q r) else 0
theorem total (T q : Nat → Nat) (m : Nat) : ((List.range m).map (wt T q)).sum = ((List.range 64).map (links T q m)).sum := by
  have h := double (fun r v => decide (0 < r) && (T r &&& q r).testBit v) 64 m
  have e : (fun r => ((List.range 64).filter fun v => decide (0 < r) && (T r &&& q r).testBit v).length) = wt T q := by
    funext r
    unfold wt size verts
    by_cases hr : 0 < r
    · rw [if_pos hr]; simp only [hr, decide_true, Bool.true_and]
    · rw [if_neg hr]; simp [hr]
  rw [e] at h
  exact h
end Go.Jt
end
section
/- Plain law of Tree: the cliques that hold a vertex are connected in the tree. -/
namespace Go.Gr
open Go.Jt
section
variable {sets : List Nat} {inT m : Nat}
end
/-- The set that is chosen in round r, and its parent. -/
def pk (sets : List Nat) : Nat → Nat
  | 0 => 0
  | r + 1 => (allTo sets (treeTo sets r).1 sets.length sets.length).1.toNat
def pq (sets : List Nat) : Nat → Nat
  | 0 => 0
  | r + 1 => (allTo sets (treeTo sets r).1 sets.length sets.length).2.1.toNat
def pw (sets : List Nat) (r : Nat) : Nat := size (sets.getD (pk sets r) 0 &&& sets.getD (pq sets r) 0)
structure Rounds (sets : List Nat) (r : Nat) : Prop where
  bits : ∀ i, (treeTo sets r).1.testBit i = true ↔ ∃ s, s ≤ r ∧ pk sets s = i
  lt : ∀ s, s ≤ r → pk sets s < sets.length
  new : ∀ s, 0 < s → s ≤ r → ∀ s', s' < s → pk sets s' ≠ pk sets s
  par : ∀ s, 0 < s → s ≤ r → ∃ s', s' < s ∧ pq sets s = pk sets s'
  most : ∀ s, 0 < s → s ≤ r → ∀ i, i < sets.length → (∀ s', s' < s → pk sets s' ≠ i) → ∀ s', s' < s → size (sets.getD i 0 &&& sets.getD (pk sets s') 0) ≤ pw sets s
  len : (treeTo sets r).2.length = sets.length
  tree : ∀ s, s ≤ r → (treeTo sets r).2.getD (pk sets s) 0 = if 0 < s ∧ 0 < pw sets s then ((pq sets s : Nat) : Int) else -1
  rest : ∀ i, i < sets.length → (∀ s, s ≤ r → pk sets s ≠ i) → (treeTo sets r).2.getD i 0 = -1
end Go.Gr
end
section
/- What the reference fills is what the library fills; the count of its search; its parts. -/
namespace Go.Gr
open Go.Jt
def goodC (gone : Nat → Bool) (t : Nat → Nat → Bool) (best x : Nat) : Prop := gone x = false ∧ t best x = true
theorem rowF_at {gone : Nat → Bool} {best a : Nat} {u : Nat → Nat → Bool} (hb : u best best = false) : ∀ k i j, rowF gone best a u k i j = true ↔ u i j = true ∨ (goodC gone u best a ∧ ((i = a ∧ j < k ∧ goodC gone u best j) ∨ (j = a ∧ i < k ∧ goodC gone u best i)))
  | 0, i, j => by simp [rowF]
  | k + 1, i, j => by
    rw [rowF_succ]
    have ih := rowF_at (gone := gone) (a := a) hb k
    have hrow : ∀ x, rowF gone best a u k best x = u best x := by
      intro x
      rw [Bool.eq_iff_iff, ih]
      constructor
      · rintro (h | ⟨ha, ⟨e, _⟩ | ⟨_, _, h⟩⟩)
        · exact h
        · subst e; have := ha.2; rw [hb] at this; cases this
        · have := h.2; rw [hb] at this; cases this
      · exact .inl
    unfold stepF
    rw [hrow, hrow]
    by_cases hc : (!gone a && !gone k && u best a && u best k) = true
    · rw [if_pos hc, joinT_at]
      simp only [Bool.and_eq_true, Bool.not_eq_true'] at hc
      obtain ⟨⟨⟨h1, h2⟩, h3⟩, h4⟩ := hc
      rw [Bool.or_eq_true, Bool.or_eq_true, decide_eq_true_eq, decide_eq_true_eq, ih]
      constructor
      · rintro ((⟨e1, e2⟩ | ⟨e1, e2⟩) | h | ⟨ha, ⟨e, hj, g⟩ | ⟨e, hi, g⟩⟩)
        · exact .inr ⟨⟨h1, h3⟩, .inl ⟨e1, by omega, by rw [e2]; exact ⟨h2, h4⟩⟩⟩
        · exact .inr ⟨⟨h1, h3⟩, .inr ⟨e2, by omega, by rw [e1]; exact ⟨h2, h4⟩⟩⟩
        · exact .inl h
        · exact .inr ⟨ha, .inl ⟨e, by omega, g⟩⟩
        · exact .inr ⟨ha, .inr ⟨e, by omega, g⟩⟩
      · rintro (h | ⟨ha, ⟨e, hj, g⟩ | ⟨e, hi, g⟩⟩)
        · exact .inr (.inl h)
        · by_cases e2 : j = k
          · exact .inl (.inl ⟨e, e2⟩)
          · exact .inr (.inr ⟨ha, .inl ⟨e, by omega, g⟩⟩)
        · by_cases e2 : i = k
          · exact .inl (.inr ⟨e2, e⟩)
          · exact .inr (.inr ⟨ha, .inr ⟨e, by omega, g⟩⟩)
    · rw [if_neg hc, ih]
      have hno : goodC gone u best a → goodC gone u best k → False := fun h1 h2 => hc (by simp [h1.1, h1.2, h2.1, h2.2])
      constructor
      · rintro (h | ⟨ha, ⟨e, hj, g⟩ | ⟨e, hi, g⟩⟩)
        · exact .inl h
        · exact .inr ⟨ha, .inl ⟨e, by omega, g⟩⟩
        · exact .inr ⟨ha, .inr ⟨e, by omega, g⟩⟩
      · rintro (h | ⟨ha, ⟨e, hj, g⟩ | ⟨e, hi, g⟩⟩)
        · exact .inl h
        · by_cases e2 : j = k
          · subst e2; exact (hno ha g).elim
          · exact .inr ⟨ha, .inl ⟨e, by omega, g⟩⟩
        · by_cases e2 : i = k
          · subst e2; exact (hno ha g).elim
          · exact .inr ⟨ha, .inr ⟨e, by omega, g⟩⟩
theorem allF_at {gone : Nat → Bool} {best : Nat} {t : Nat → Nat → Bool} (hb : t best best = false) : ∀ k i j, allF gone best t k i j = true ↔ t i j = true ∨ (i ≠ j ∧ i < k ∧ j < k ∧ goodC gone t best i ∧ goodC gone t best j)
  | 0, i, j => by simp [allF]
  | k + 1, i, j => by
    have ih := allF_at (gone := gone) hb k
    have hrow : ∀ x, allF gone best t k best x = t best x := by
      intro x
      rw [Bool.eq_iff_iff, ih]
      constructor
      · rintro (h | ⟨_, _, _, h, _⟩)
        · exact h
        · have := h.2; rw [hb] at this; cases this
      · exact .inl
    have hC : ∀ x, goodC gone (allF gone best t k) best x ↔ goodC gone t best x := by
      intro x; unfold goodC; rw [hrow]
    rw [allF_succ, rowF_at (by rw [hrow]; exact hb), ih, hC, hC, hC]
    constructor
    · rintro ((h | ⟨h1, h2, h3, h4, h5⟩) | ⟨ha, ⟨e, hj, g⟩ | ⟨e, hi, g⟩⟩)
      · exact .inl h
      · exact .inr ⟨h1, by omega, by omega, h4, h5⟩
      · exact .inr ⟨by omega, by omega, by omega, by rw [e]; exact ha, g⟩
      · exact .inr ⟨by omega, by omega, by omega, g, by rw [e]; exact ha⟩
    · rintro (h | ⟨h1, h2, h3, h4, h5⟩)
      · exact .inl (.inl h)
      · by_cases e1 : i = k
        · exact .inr ⟨by rw [← e1]; exact h4, .inl ⟨e1, by omega, h5⟩⟩
        · by_cases e2 : j = k
          · exact .inr ⟨by rw [← e2]; exact h5, .inr ⟨e2, by omega, h4⟩⟩
          · exact .inl (.inr ⟨h1, by omega, by omega, h4, h5⟩)
/-- The reference's table and the library's sets, side by side. -/
structure Mat (n : Nat) (u : Nat → Nat → Bool) (gone : Nat → Bool) (A : Nat → Nat) (rest : Nat) : Prop where
  eq : ∀ i j, i < n → j < n → u i j = bt A i j
  bits : ∀ v, rest.testBit v = true ↔ v < n ∧ gone v = false
  irr : Irr A
  small : Small A
  lt : ∀ i j, i < n → bt A i j = true → j < n
  rl : rest < 18446744073709551616
theorem Mat.cnt {n : Nat} {u : Nat → Nat → Bool} {gone : Nat → Bool} {A : Nat → Nat} {rest : Nat} (h : Mat n u gone A rest) (hn : n ≤ 64) {i : Nat} (hi : i < n) : cntR u gone i n = size (A i &&& rest) := by
  unfold cntR size verts
  rw [filter_range_le hn (p := (A i &&& rest).testBit) (q := fun j => u i j && !gone j)]
  · intro k hk
    rw [Nat.testBit_and, h.eq i k hi hk]
    unfold bt
    congr 1
    rw [Bool.eq_iff_iff, h.bits]
    simp [hk]
  · intro k hk _
    rw [Nat.testBit_and]
    have : rest.testBit k = false := by
      cases hb : rest.testBit k
      · rfl
      · have := ((h.bits k).1 hb).1; omega
    rw [this]; simp
theorem Mat.step {n : Nat} {u : Nat → Nat → Bool} {gone : Nat → Bool} {A : Nat → Nat} {rest : Nat} (h : Mat n u gone A rest) (hn : n ≤ 64) (h0 : rest ≠ 0) :
    ∃ b, b < 64 ∧ rest.testBit b = true ∧ (elim A rest).2 = bclr rest b ∧ Mat n (allF gone (minR u n gone n).1.toNat u n) (updF gone (minR u n gone n).1.toNat true) (elim A rest).1 (elim A rest).2 := by
  obtain ⟨b, hb64, hbr, he, hmin, hfst⟩ := elim_at h.irr h.rl h0
  obtain ⟨hbn, hbg⟩ := (h.bits b).1 hbr
  refine ⟨b, hb64, hbr, by rw [he], ?_⟩
  have hm : (minR u n gone n).1.toNat = b := by
    rcases minR_spec u n gone n with ⟨_, h2⟩ | ⟨i, hi, hg, hmi, hle, hlt⟩
    · rw [h2 b hbn] at hbg; cases hbg
    · rw [hmi]
      simp only [Int.toNat_natCast]
      have hir : rest.testBit i = true := (h.bits i).2 ⟨hi, hg⟩
      have c1 := hle b hbn hbg
      rw [h.cnt hn hi, h.cnt hn hbn] at c1
      rcases Nat.lt_trichotomy i b with hlt' | e | hgt
      · have := hfst i hlt' hir; omega
      · exact e
      · have := hlt b hgt hbg
        rw [h.cnt hn hi, h.cnt hn hbn] at this
        have := hmin i (by omega) hir
        omega
  rw [hm, he]
  have har : (A b &&& rest) < 18446744073709551616 := and_lt rest (h.small b)
  have hlt : ∀ v ∈ verts (A b &&& rest), v < 64 := fun v hv => (mem_verts.1 hv).1
  have hbit := fill_bit (A b &&& rest) (verts (A b &&& rest)) A hlt (verts_nodup _)
  have hS1 : Small (fill (A b &&& rest) (verts (A b &&& rest)) A) := fill_small har _ h.small
  have hbb : u b b = false := by
    rw [h.eq b b hbn hbn]; exact h.irr b hb64
  have hgood : ∀ v, v < n → ((A b &&& rest).testBit v = true ↔ goodC gone u b v) := by
    intro v hv
    rw [Nat.testBit_and, Bool.and_eq_true, h.bits]
    unfold goodC
    rw [h.eq b v hbn hv]
    unfold bt
    constructor
    · rintro ⟨h1, _, h2⟩; exact ⟨h2, h1⟩
    · rintro ⟨h1, h2⟩; exact ⟨h2, hv, h1⟩
  refine ⟨fun i j hi hj => ?_, fun v => ?_, fill_irr _ hlt h.irr, hS1, fun i j hi hb => ?_, bclr_lt b h.rl⟩
  · rw [Bool.eq_iff_iff, allF_at hbb]
    unfold bt
    rw [hbit, Bool.or_eq_true, Bool.and_eq_true, decide_eq_true_eq, mem_verts, bclr_bit _ _ _ (by omega) (by omega), hgood i hi, Bool.and_eq_true, hgood j hj, h.eq i j hi hj]
    unfold bt
    constructor
    · rintro (h1 | ⟨h1, _, _, h2, h3⟩)
      · exact .inl h1
      · exact .inr ⟨⟨by omega, h2⟩, h3, by simpa using h1⟩
    · rintro (h1 | ⟨⟨_, h2⟩, h3, h4⟩)
      · exact .inl h1
      · exact .inr ⟨by simpa using h4, hi, hj, h2, h3⟩
  · have hu : updF gone b true v = false ↔ v ≠ b ∧ gone v = false := by
      unfold updF
      by_cases e : v = b
      · simp [e]
      · simp [e]
    rw [hu]
    by_cases hv : v < 64
    · rw [bclr_bit _ _ _ hb64 hv, Bool.and_eq_true, h.bits]
      constructor
      · rintro ⟨⟨h1, h2⟩, h3⟩
        exact ⟨h1, fun e => by simp [e] at h3, h2⟩
      · rintro ⟨h1, h2, h3⟩
        exact ⟨⟨h1, h3⟩, by simp; exact fun e => h2 e.symm⟩
    · rw [high_bit (bclr_lt b h.rl) (by omega)]
      simp
      intro h1; omega
  · unfold bt at hb
    have hj64 : j < 64 := bt_lt hS1 hb
    rw [hbit, Bool.or_eq_true, Bool.and_eq_true] at hb
    rcases hb with h1 | ⟨_, h1⟩
    · exact h.lt i j hi h1
    · rw [bclr_bit _ _ _ (by omega) hj64, Bool.and_eq_true, Nat.testBit_and, Bool.and_eq_true] at h1
      exact ((h.bits j).1 h1.1.2).1
theorem size_bclr {s i : Nat} (hi : i < 64) (h : s.testBit i = true) : size (bclr s i) + 1 = size s := by
  have e : verts (bclr s i) = (verts s).erase i := by
    rw [List.Nodup.erase_eq_filter (verts_nodup s)]
    unfold verts
    rw [List.filter_filter]
    apply List.filter_congr
    intro x hx
    rw [bclr_bit _ _ _ hi (by simpa using hx)]
    rw [Bool.and_comm]
    congr 1
    by_cases e : i = x
    · simp [e]
    · simp [e]; exact fun h => e h.symm
  have hm : i ∈ verts s := mem_verts.2 ⟨hi, h⟩
  have hp : 0 < (verts s).length := List.length_pos_of_mem hm
  unfold size
  rw [e, List.length_erase_of_mem hm]
  omega
theorem Mat.run {t : Nat → Nat → Bool} {n : Nat} (hn : n ≤ 64) : ∀ (d r f : Nat) (A : Nat → Nat) (rest : Nat), r + d = n → Mat n (fillTo t n r).1 (fillTo t n r).2 A rest → size rest = d → d < f → ∀ i j, i < n → j < n → (fillTo t n n).1 i j = bt (extFrom f A rest) i j
  | _, _, 0, _, _, _, _, _, hf => by omega
  | 0, r, f + 1, A, rest, hr, hM, hs, _ => by
    have h0 : rest = 0 := verts_empty hM.rl (List.eq_nil_of_length_eq_zero hs)
    obtain rfl : r = n := by omega
    unfold extFrom
    rw [if_pos h0]
    exact hM.eq
  | d + 1, r, f + 1, A, rest, hr, hM, hs, hf => by
    have h0 : rest ≠ 0 := by
      intro e
      rw [e] at hs
      unfold size at hs
      rw [verts_zero] at hs
      simp at hs
    obtain ⟨b, hb64, hbr, he, hM2⟩ := hM.step hn h0
    unfold extFrom
    rw [if_neg h0]
    refine Mat.run hn d (r + 1) f _ _ (by omega) hM2 ?_ (by omega)
    rw [he]
    have := size_bclr hb64 hbr
    omega
end Go.Gr
end
section
/- The error of a polynomial and a basis; the number of rounds is one; what the reference adds to its set: plain. -/
namespace Go.Sp
open Go.Ev Go.Mo Go.Gr
section
variable {N : Nat} (R : Rounds N)
end
/-- A key that may be asked: a monomial in n variables. -/
def domK (n : Nat) (c : Int) (v : List Int) : Prop := v.length = n ∧ ∀ x ∈ v, 0 ≤ x ∧ x ≤ c
theorem domK.mono {n : Nat} {c d : Int} {v : List Int} (h : domK n c v) (hcd : c ≤ d) : domK n d v := ⟨h.1, fun x hx => ⟨(h.2 x hx).1, by have := (h.2 x hx).2; omega⟩⟩
end Go.Sp
end
section
/- What stays where a map's block alone has turned. -/
namespace Go.Proofs.Tg
open Go.RowKit Go.Maps
/-- Block b is a map's. -/
def MapB (w : World) (b : Nat) : Prop := ∃ es clock, w.heap[b]? = some (.map es clock)
theorem MapB.lt {w : World} {b : Nat} (h : MapB w b) : b < w.heap.size := by
  obtain ⟨es, clock, hb⟩ := h
  exact (Array.getElem?_eq_some_iff.1 hb).1
end Go.Proofs.Tg
end
section
/- The errors of a polynomial and of constraints; the pairs of variables that occur together: plain, and the first loops of Variables. -/
namespace Go.Proofs.Tg.Sx
open Go.RowKit Go.Gr Go.Sp Go.Ev Go.Mo
set_option maxHeartbeats 4000000
set_option maxRecDepth 100000
/-- Two variables occur in one of the terms. -/
def inT (ts : List TV) (x y : Nat) : Prop := ∃ t ∈ ts, 0 < t.exps.getD x 0 ∧ 0 < t.exps.getD y 0
/-- The table holds just the pairs of P. -/
def JP (J : Nat → Nat → Bool) (P : Nat → Nat → Prop) : Prop := ∀ x y, x < y → y < 6 → (J x y = true ↔ P x y)
theorem JP.congr {J : Nat → Nat → Bool} {P Q : Nat → Nat → Prop} (h : JP J P) (hp : ∀ x y, x < y → y < 6 → (P x y ↔ Q x y)) : JP J Q := fun x y h1 h2 => (h x y h1 h2).trans (hp x y h1 h2)
end Go.Proofs.Tg.Sx
end
section
/- The reference's sum of one term. -/
namespace Go.Proofs.Tg.Sx
open Go.RowKit Go.Gr Go.Sp Go.Ev Go.Mo Go.Bn
set_option maxHeartbeats 4000000
set_option maxRecDepth 100000
theorem sorted_one (A : Option Addr) (c : Nat) (w : World) : Calls Tryz.prog 87 #[.slice A 1 c] w fun e w' => e = .returned (.slice A 1 c) ∧ w = w' := by
  go_enter Tryz.func87, Tryz.ntmps87
  go_wp2
  go_ret
  exact ⟨rfl, rfl⟩
end Go.Proofs.Tg.Sx
end
section
/- The reference's sum of one term, walked (printed by wip/tools/mk_sum1.py). -/
namespace Go.Proofs.Tg.Sx
open Go.RowKit Go.Gr Go.Sp Go.Ev Go.Mo Go.Bn Go.Qn
set_option maxHeartbeats 8000000
set_option maxRecDepth 100000
theorem rt5_info : (Tryz.prog.info? 99).map (fun i => (i.zero, i.size, i.bytes)) = some (some (.agg #[.bool false, .slice none 0 0, .bool false, .slice none 0 0, .slice none 0 0]), 5, 88) := by kernel_rfl
theorem rt5_at {w : World} {T : Option Addr} {ts : List RT} (h : Sl w T ts.length 5 (ts.flatMap RT.cells)) {k : Nat} (hk : k < ts.length) :
    ∃ ad, T = some ad ∧ ad.block < w.heap.size ∧ w.cell? (ad.add (k * 5)) = some ts[k].c0 ∧ w.cell? ⟨(ad.add (k * 5)).block, (ad.add (k * 5)).off + 1, none⟩ = some ts[k].c1 ∧ w.cell? ⟨(ad.add (k * 5)).block, (ad.add (k * 5)).off + 2, none⟩ = some ts[k].c2 ∧
      w.cell? ⟨(ad.add (k * 5)).block, (ad.add (k * 5)).off + 3, none⟩ = some ts[k].c3 ∧ w.cell? ⟨(ad.add (k * 5)).block, (ad.add (k * 5)).off + 4, none⟩ = some (.slice ts[k].adr ts[k].exps.length ts[k].cap) := by
  obtain ⟨ad, rfl, hlt, ha⟩ := h.lies (by omega)
  have off : ∀ i, (⟨(ad.add (k * 5)).block, (ad.add (k * 5)).off + (i + 1), none⟩ : Addr) = ad.add (k * 5 + (i + 1)) := fun i => by rw [← add_add]; simp [Addr.add]
  have g := fun j hj => flat_get RT.cells 5 (fun _ => rfl) ts k j hk hj
  refine ⟨ad, rfl, hlt, ha _ _ ?_, (congrArg w.cell? (off 0)).trans (ha _ _ ?_), (congrArg w.cell? (off 1)).trans (ha _ _ ?_), (congrArg w.cell? (off 2)).trans (ha _ _ ?_), (congrArg w.cell? (off 3)).trans (ha _ _ ?_)⟩
  · have := g 0 (by omega); rw [Nat.add_zero] at this; exact this
  · exact g 1 (by omega)
  · exact g 2 (by omega)
  · exact g 3 (by omega)
  · exact g 4 (by omega)
/-- A term with the coefficient one. -/
def one1 (A : Option Addr) (ca : Nat) (E : Option Addr) (ce : Nat) (el : List Int) : RT := ⟨.bool false, .slice A 1 ca, .bool false, .slice none 0 0, E, ce, el⟩
/-- What Sum's loop holds. -/
structure SmSt (w : World) (V : Int) (t : RT) (wr : World) (k : Nat) (R : Option Addr) (c : Nat) : Prop where
  below : Below w.heap.size w wr
  b4 : Blk wr w.heap.size 65 #[.int .i64 0, .slice none 0 0]
  b6 : Blk wr (w.heap.size + 1) 65 #[.int .i64 V, .slice R k c]
  own : wr.ownsRow (w.heap.size + 2) 99 5 (.slice R k c) k ((List.replicate k t).flatMap RT.cells)
theorem SmSt.keep {w wr wz : World} {V : Int} {t : RT} {k c : Nat} {R : Option Addr} (h : SmSt w V t wr k R c) (hb : Below wr.heap.size wr wz) : SmSt w V t wz k R c :=
  ⟨below_all h.below hb, h.b4.keep hb h.b4.lt, h.b6.keep hb h.b6.lt, own_below h.own hb (Nat.le_refl _)⟩
theorem rsum1_any (V : Int) (L : Option Addr) (cL : Nat) (A : Option Addr) (ca : Nat) (E : Option Addr) (ce : Nat) (el : List Int) (w : World) (hL : Sl w L 1 5 (one1 A ca E ce el).cells) :
    Calls Tryz.prog 51 #[.int .i64 V, .slice L 1 cL] w fun e w' => ∃ R c, e = .returned (.agg #[.int .i64 V, .slice R 1 c]) ∧ w'.ownsRow w.heap.size 99 5 (.slice R 1 c) 1 (one1 A ca E ce el).cells ∧ Below w.heap.size w w' := by
  have hL1 : Sl w L ([one1 A ca E ce el]).length 5 (([one1 A ca E ce el]).flatMap RT.cells) := by simpa using hL
  obtain ⟨od, rfl, hob, k0, k1, k2, k3, k4⟩ := rt5_at hL1 (k := 0) (by simp)
  have HT : Hid ((one1 A ca E ce el).cells = [.bool false, .slice A 1 ca, .bool false, .slice none 0 0, .slice E el.length ce]) := Lib.hid rfl
  have c0 : w.cell? (od.add (0 * 5)) = some (.bool false) := k0
  have c1 : w.cell? ⟨(od.add (0 * 5)).block, (od.add (0 * 5)).off + 1, none⟩ = some (.slice A 1 ca) := k1
  have c2 : w.cell? ⟨(od.add (0 * 5)).block, (od.add (0 * 5)).off + 2, none⟩ = some (.bool false) := k2
  have c3 : w.cell? ⟨(od.add (0 * 5)).block, (od.add (0 * 5)).off + 3, none⟩ = some (.slice none 0 0) := k3
  have c4 : w.cell? ⟨(od.add (0 * 5)).block, (od.add (0 * 5)).off + 4, none⟩ = some (.slice E el.length ce) := k4
  have HC : Hid (∀ k : Nat, k < 1 → w.cell? (od.add (k * 5)) = some (.bool false) ∧ w.cell? ⟨(od.add (k * 5)).block, (od.add (k * 5)).off + 1, none⟩ = some (.slice A 1 ca) ∧ w.cell? ⟨(od.add (k * 5)).block, (od.add (k * 5)).off + 2, none⟩ = some (.bool false) ∧ w.cell? ⟨(od.add (k * 5)).block, (od.add (k * 5)).off + 3, none⟩ = some (.slice none 0 0) ∧ w.cell? ⟨(od.add (k * 5)).block, (od.add (k * 5)).off + 4, none⟩ = some (.slice E el.length ce)) := Lib.hid (fun k hk => by
    obtain rfl : k = 0 := by omega
    exact ⟨c0, c1, c2, c3, c4⟩)
  clear k0 k1 k2 k3 k4 c0 c1 c2 c3 c4 hL hL1
  generalize one1 A ca E ce el = t at *
  obtain ⟨i0, hi, iz0, iz1, iz2⟩ := info_parts rt5_info
  obtain ⟨W, hW⟩ : ∃ W, (w.alloc (.cells #[.int .i64 0, .slice none 0 0] 65)).alloc (.cells #[.int .i64 V, .slice none 0 0] 65) = W := ⟨_, rfl⟩
  have B4 : Blk W w.heap.size 65 #[.int .i64 0, .slice none 0 0] := by rw [← hW]; exact (Blk.new _ _ _).alloc _
  have B6 : Blk W (w.heap.size + 1) 65 #[.int .i64 V, .slice none 0 0] := by
    rw [← hW]; have := Blk.new (w.alloc (.cells #[.int .i64 0, .slice none 0 0] 65)) 65 #[.int .i64 V, .slice none 0 0]
    simpa using this
  have hbW : Below w.heap.size w W := by rw [← hW]; exact ((Below.refl _ _).alloc (Nat.le_refl _) _).alloc (by simp) _
  have HWW := Lib.hid hW
  clear hW
  go_enter Tryz.func51, Tryz.ntmps51
  go_upto_region 3 with (go_at_call 87; refine (sorted_one _ _ _).mono ?_; rintro e w1 ⟨rfl, rfl⟩)
  rw [HWW.out]
  go_wp2
  go_loopw [7] (fun s7 wr => ∃ (k : Nat) (R : Option Addr) (c : Nat), s7 = .int .i64 k ∧ k ≤ 1 ∧ Hid (SmSt w V t wr k R c)) (fun s7 _ => 1 - (intOf s7).toNat)
  case atStart => exact ⟨0, none, 0, rfl, by omega, Lib.hid ⟨hbW, B4, B6, World.ownsRow_nil _ _ _ _⟩⟩
  case round =>
    clear B4 B6 hbW
    obtain ⟨wo, rfl⟩ : ∃ wo : World, wo = wr := ⟨_, rfl⟩
    obtain ⟨k, R, c, rfl, hk, HST⟩ := hrel
    have hbr := HST.out.below
    have hz : w.heap.size + 2 ≤ wo.heap.size := by have := HST.out.b6.lt; omega
    by_cases hlt : k < 1
    · obtain ⟨k0, k1, k2, k3, k4⟩ := HC.out k hlt
      have k0 := keep_cell hbr k0
      have k1 := keep_cell hbr k1
      have k2 := keep_cell hbr k2
      have k3 := keep_cell hbr k3
      have k4 := keep_cell hbr k4
      have q0 : (0 : Int) ≤ (k : Int) := by omega
      have q1 : (k : Int) < 1 := by omega
      have q3 : ((k : Int)).toNat = k := by omega
      have q4 : decide ((k : Int) + 1 < 1) = false := decide_eq_false (by omega)
      go_upto_region 6 with (fail)
      obtain ⟨W3, hW3⟩ : ∃ W3, wo.alloc (.cells #[.bool false, .slice A 1 ca, .bool false, .slice none 0 0] 52) = W3 := ⟨_, rfl⟩
      have F8 : Blk W3 wo.heap.size 52 #[.bool false, .slice A 1 ca, .bool false, .slice none 0 0] := by rw [← hW3]; exact Blk.new _ _ _
      have hbF : Below wo.heap.size wo W3 := by rw [← hW3]; exact (Below.refl _ _).alloc (Nat.le_refl _) _
      rw [hW3]
      have HS3 := Lib.hid (HST.out.keep hbF)
      clear hW3 k0 k1 k2 k3 k4
      go_wp2
      go_loopw [9] (fun s9 wr => s9 = .int .i64 ((k : Int) + 1) ∧ Below wo.heap.size wo wr ∧ Blk wr wo.heap.size 52 #[.bool false, .slice A 1 ca, .bool false, .slice none 0 0]) (fun _ _ => 0)
      case atStart => exact ⟨by go_num, hbF, F8⟩
      case round =>
        clear F8 hbF HS3
        obtain ⟨wi, rfl⟩ : ∃ wi : World, wi = wr := ⟨_, rfl⟩
        obtain ⟨rfl, hbi, F8⟩ := hrel
        go_upto_region 7 with (fail)
        go_quiet (fail)
        have hbd : Below wo.heap.size wo (wi.drewN nq) := below_all hbi (below_drewN (Below.refl _ _) _)
        have G8 : Blk (wi.drewN nq) wo.heap.size 52 #[.bool false, .slice A 1 ca, .bool false, .slice none 0 0] := F8.keep (below_drewN (Below.refl _ _) _) F8.lt
        generalize wi.drewN nq = wd at *
        clear F8 hbi
        obtain ⟨y0, y1, y2, y3, z0, z1, z2, z3⟩ := G8.four
        have HRS := Lib.hid (fun V => rsign_any false false A none 1 ca 0 0 V (by omega) 1 (by simp))
        go_upto_region 11 with (go_at_call 89; refine (HRS.out _).mono ?_; rintro e we ⟨rfl, hbs⟩)
        have H8 := G8.keep hbs G8.lt
        have hbe := below_all hbd hbs
        clear y0 y1 y2 y3 z0 z1 z2 z3 G8 hbd hbs HRS
        have HS4 := Lib.hid (HST.out.keep hbe)
        obtain ⟨y0, y1, y2, y3, _, _, _, _⟩ := H8.four
        obtain ⟨k0, k1, k2, k3, k4⟩ := HC.out k hlt
        have k4 := keep_cell (below_all hbr hbe) k4
        clear k0 k1 k2 k3
        have hz8 := H8.lt
        have f8 : wo.heap.size ≠ w.heap.size + 1 := by omega
        have f4 : (od.add (k * 5)).block ≠ w.heap.size + 1 := by rw [add_block]; omega
        have hoa : some (od.add (k * 5)).block ≠ (Value.slice R k c).ownBlock := fun e => by have := (HST.out.own.lt _ e.symm).1; rw [add_block] at this; omega
        have ho8 : some wo.heap.size ≠ (Value.slice R k c).ownBlock := fun e => by have := (HST.out.own.lt _ e.symm).2; omega
        have FAR : Hid (∀ (V : World) (p : Addr) (u u' : Value), V.cell? p = some u → p.block ≠ w.heap.size + 1 → (V.setCell ⟨w.heap.size + 1, 1, none⟩ u').cell? p = some u) := Lib.hid (fun V p u u' h hne => (World.cell?_setCell_other _ _ _ _ (fun e => hne (by rw [← e]))).trans h)
        have BZ : Below we.heap.size we we.drew := (Below.refl _ _).drew
        have hzw : wo.heap.size < we.heap.size := hz8
        clear H8
        refine wp_region_held_drew (S := (fun w' => w'.cell? ⟨wo.heap.size, 0, none⟩ = some (.bool false) ∧ w'.cell? ⟨wo.heap.size, 1, none⟩ = some (.slice A 1 ca) ∧ w'.cell? ⟨wo.heap.size, 2, none⟩ = some (.bool false) ∧ w'.cell? ⟨wo.heap.size, 3, none⟩ = some (.slice none 0 0) ∧ w'.cell? ⟨(od.add (k * 5)).block, (od.add (k * 5)).off + 4, none⟩ = some (.slice E el.length ce))) (by kernel_rfl) ⟨y0, y1, y2, y3, k4⟩ (fun hHeld => ?_)
        generalize we.drew = Z at *
        refine wpAnyH_get 0 (some 55) (.pointer (some ⟨w.heap.size + 1, 1, none⟩)) rfl rfl (by kernel_rfl) (by kernel_rfl) (by kernel_rfl) (fun _ _ _ h => h) (by rfl) hHeld ?_ ?_
        · (intro w hSw; (try dsimp only at hSw); go_simp; all_goals (try with_reducible rfl))
        simp only [Act.put, List.setIfInBounds_toArray, List.set_cons_zero, List.set_cons_succ]
        refine wpAnyH_get 2 (some 57) (.agg #[.bool false, .slice A 1 ca, .bool false, .slice none 0 0]) rfl rfl (by kernel_rfl) (by kernel_rfl) (by kernel_rfl) (fun _ _ _ h => h) (by rfl) hHeld ?_ ?_
        · (intro w hSw; (try dsimp only at hSw); go_simp; all_goals (try with_reducible rfl))
        simp only [Act.put, List.setIfInBounds_toArray, List.set_cons_zero, List.set_cons_succ]
        refine wpAnyH_get 3 (some 58) (.slice (some od) 1 cL) rfl rfl (by kernel_rfl) (by kernel_rfl) (by kernel_rfl) (fun _ _ _ h => h) (by rfl) hHeld ?_ ?_
        · (intro w hSw; (try dsimp only at hSw); go_simp; all_goals (try with_reducible rfl))
        simp only [Act.put, List.setIfInBounds_toArray, List.set_cons_zero, List.set_cons_succ]
        refine wpAnyH_get 4 (some 59) (.int .i64 k) rfl rfl (by kernel_rfl) (by kernel_rfl) (by kernel_rfl) (fun _ _ _ h => h) (by rfl) hHeld ?_ ?_
        · (intro w hSw; (try dsimp only at hSw); go_simp; all_goals (try with_reducible rfl))
        simp only [Act.put, List.setIfInBounds_toArray, List.set_cons_zero, List.set_cons_succ]
        refine wpAnyH_get 5 (some 60) (.pointer (some (od.add (k * 5)))) rfl rfl (by kernel_rfl) (by kernel_rfl) (by kernel_rfl) (fun _ _ _ h => h) (by rfl) hHeld ?_ ?_
        · (intro w hSw; (try dsimp only at hSw); go_simp; all_goals (try with_reducible rfl))
        simp only [Act.put, List.setIfInBounds_toArray, List.set_cons_zero, List.set_cons_succ]
        refine wpAnyH_get 6 (some 61) (.pointer (some ⟨(od.add (k * 5)).block, (od.add (k * 5)).off + 4, none⟩)) rfl rfl (by kernel_rfl) (by kernel_rfl) (by kernel_rfl) (fun _ _ _ h => h) (by rfl) hHeld ?_ ?_
        · (intro w hSw; (try dsimp only at hSw); go_simp; all_goals (try with_reducible rfl))
        simp only [Act.put, List.setIfInBounds_toArray, List.set_cons_zero, List.set_cons_succ]
        refine wpAnyH_get 7 (some 62) (.slice E el.length ce) rfl rfl (by kernel_rfl) (by kernel_rfl) (by kernel_rfl) (fun _ _ _ h => h) (by rfl) hHeld ?_ ?_
        · (intro w hSw; (try dsimp only at hSw); go_simp; all_goals (try with_reducible rfl))
        simp only [Act.put, List.setIfInBounds_toArray, List.set_cons_zero, List.set_cons_succ]
        refine wpAnyH_get 8 (some 63) (.agg #[.bool false, .slice A 1 ca, .bool false, .slice none 0 0, .slice E el.length ce]) rfl rfl (by kernel_rfl) (by kernel_rfl) (by kernel_rfl) (fun _ _ _ h => h) (by rfl) hHeld ?_ ?_
        · (intro w hSw; (try dsimp only at hSw); go_simp; all_goals (try with_reducible rfl))
        simp only [Act.put, List.setIfInBounds_toArray, List.set_cons_zero, List.set_cons_succ]
        refine wpAnyH_ready (rs := [1, 9]) (by kernel_rfl) (by simp) ?_
        refine AllReadyH.cons rfl (fun K hK => ?_) (AllReadyH.cons rfl (fun K hK => ?_) AllReadyH.nil)
        · obtain ⟨x0, x1, x2, x3⟩ := (HS4.out.b6.keep BZ HS4.out.b6.lt).two
          go_simp
          refine hK.out _ _ ⟨keep_cell BZ y0, keep_cell BZ y1, keep_cell BZ y2, keep_cell BZ y3, keep_cell BZ k4⟩ (fun hHeld => ?_)
          clear hK K x0 x1 x2 x3
          (try simp only [Act.put, List.setIfInBounds_toArray, List.set_cons_zero, List.set_cons_succ])
          refine wpAnyH_ready (rs := [9]) (by kernel_rfl) (by simp) ?_
          refine AllReadyH.cons rfl (fun K hK => ?_) AllReadyH.nil
          go_simp
          have BY : Below we.heap.size we (Z.alloc (.cells #[.bool false, .slice A 1 ca, .bool false, .slice none 0 0, .slice E el.length ce] 99)) := BZ.alloc BZ.size _
          have HNW := Lib.hid (cells_new Z 99 [.bool false, .slice A 1 ca, .bool false, .slice none 0 0, .slice E el.length ce])
          refine hK.out _ _ ⟨keep_cell BY y0, keep_cell BY y1, keep_cell BY y2, keep_cell BY y3, keep_cell BY k4⟩ (fun hHeld => ?_)
          clear hK K
          (try simp only [Act.put, List.setIfInBounds_toArray, List.set_cons_zero, List.set_cons_succ])
          have hzz : we.heap.size ≤ Z.heap.size := BZ.size
          have hz1 : (Z.alloc (.cells #[.bool false, .slice A 1 ca, .bool false, .slice none 0 0, .slice E el.length ce] 99)).heap.size = Z.heap.size + 1 := by simp
          generalize Z.alloc (.cells [.bool false, .slice A 1 ca, .bool false, .slice none 0 0, .slice E el.length ce].toArray 99) = Y at *
          generalize Z.heap.size = g9 at *
          refine wpAnyH_ready (rs := [10]) (by kernel_rfl) (by simp) ?_
          refine AllReadyH.cons rfl (fun K hK => ?_) AllReadyH.nil
          have hownY := own_below HS4.out.own BY (Nat.le_refl _)
          refine step_append_lies _ (by rfl) _ _ 63 (by rfl) (w.heap.size + 2) 99 i0 _ 5 88 Tryz.underlying63 hi iz0 iz1 iz2 rfl (by decide) (.slice R k c) k ((List.replicate k t).flatMap RT.cells) (by simp [Act.eval]) hownY ⟨g9, 0, none⟩ 1 1 [.bool false, .slice A 1 ca, .bool false, .slice none 0 0, .slice E el.length ce] (by simp [Act.eval]) rfl HNW.out (by simp [Value.oneCell']) (by omega) (by simp only [maxLen]; omega) (by omega) (by omega) (g9 + 1) hz1 ?_
          intro g cap w3 hown' hgrow _ _
          have K4 := Blk.grown (HS4.out.b4.keep BY HS4.out.b4.lt) hgrow (own_blk_ne hownY (HS4.out.b4.keep BY HS4.out.b4.lt) (by decide))
          have K6 := Blk.grown (HS4.out.b6.keep BY HS4.out.b6.lt) hgrow (own_blk_ne hownY (HS4.out.b6.keep BY HS4.out.b6.lt) (by decide))
          have t0 := hgrow.cell (keep_cell BY y0) ho8
          have t1 := hgrow.cell (keep_cell BY y1) ho8
          have t2 := hgrow.cell (keep_cell BY y2) ho8
          have t3 := hgrow.cell (keep_cell BY y3) ho8
          have t4 := hgrow.cell (keep_cell BY k4) hoa
          refine hK.out _ _ ⟨t0, t1, t2, t3, t4⟩ (fun hHeld => ?_)
          clear hK K
          (try simp only [Act.put, List.setIfInBounds_toArray])
          refine wpAnyH_get 11 (some 66) (.pointer (some ⟨w.heap.size + 1, 1, none⟩)) rfl rfl (by kernel_rfl) (by kernel_rfl) (by kernel_rfl) (fun _ _ _ h => h) (by rfl) hHeld ?_ ?_
          · (intro w hSw; (try dsimp only at hSw); go_simp; all_goals (try with_reducible rfl))
          simp only [Act.put]
          refine wpAnyH_ready (rs := [12]) (by kernel_rfl) (by simp) ?_
          refine AllReadyH.cons rfl (fun K hK => ?_) AllReadyH.nil
          obtain ⟨x0, x1, x2, x3⟩ := K6.two
          have hbG := Below.grown (below_all (below_all hbr hbe) BY) hgrow (by omega) (fun j hj => by have := (hownY.lt j hj).1; omega)
          go_simp
          refine hK.out _ _ ⟨FAR.out _ _ _ _ t0 f8, FAR.out _ _ _ _ t1 f8, FAR.out _ _ _ _ t2 f8, FAR.out _ _ _ _ t3 f8, FAR.out _ _ _ _ t4 f4⟩ (fun hHeld => ?_)
          clear hK K
          (try simp only [Act.put, List.setIfInBounds_toArray, List.set_cons_zero, List.set_cons_succ])
          refine wpAnyH_done (by kernel_rfl) ?_ _
          clear t0 t1 t2 t3 t4 x0 x1 x2 x3
          go_wp2
          go_roundw
          case rel =>
            refine ⟨k + 1, some ⟨g, 0, none⟩, cap, by go_num, by omega, Lib.hid ⟨below_far hbG (by omega) _ _, K4.far (by show w.heap.size ≠ w.heap.size + 1; omega) _, K6.set 1 _, ?_⟩⟩
            rw [List.replicate_succ', List.flatMap_append]
            have e : [t].flatMap RT.cells = [.bool false, .slice A 1 ca, .bool false, .slice none 0 0, .slice E el.length ce] := by simp [HT.out]
            rw [e]
            exact own_far hown' (own_blk_ne hown' K6 (by decide)) _
          case measure => simp [intOf]; omega
        · go_simp
          have BY : Below we.heap.size we (Z.alloc (.cells #[.bool false, .slice A 1 ca, .bool false, .slice none 0 0, .slice E el.length ce] 99)) := BZ.alloc BZ.size _
          have HNW := Lib.hid (cells_new Z 99 [.bool false, .slice A 1 ca, .bool false, .slice none 0 0, .slice E el.length ce])
          refine hK.out _ _ ⟨keep_cell BY y0, keep_cell BY y1, keep_cell BY y2, keep_cell BY y3, keep_cell BY k4⟩ (fun hHeld => ?_)
          clear hK K
          (try simp only [Act.put, List.setIfInBounds_toArray, List.set_cons_zero, List.set_cons_succ])
          have hzz : we.heap.size ≤ Z.heap.size := BZ.size
          have hz1 : (Z.alloc (.cells #[.bool false, .slice A 1 ca, .bool false, .slice none 0 0, .slice E el.length ce] 99)).heap.size = Z.heap.size + 1 := by simp
          generalize Z.alloc (.cells [.bool false, .slice A 1 ca, .bool false, .slice none 0 0, .slice E el.length ce].toArray 99) = Y at *
          generalize Z.heap.size = g9 at *
          refine wpAnyH_ready (rs := [1]) (by kernel_rfl) (by simp) ?_
          refine AllReadyH.cons rfl (fun K hK => ?_) AllReadyH.nil
          obtain ⟨x0, x1, x2, x3⟩ := (HS4.out.b6.keep BY HS4.out.b6.lt).two
          go_simp
          refine hK.out _ _ ⟨keep_cell BY y0, keep_cell BY y1, keep_cell BY y2, keep_cell BY y3, keep_cell BY k4⟩ (fun hHeld => ?_)
          clear hK K x0 x1 x2 x3
          (try simp only [Act.put, List.setIfInBounds_toArray, List.set_cons_zero, List.set_cons_succ])
          refine wpAnyH_ready (rs := [10]) (by kernel_rfl) (by simp) ?_
          refine AllReadyH.cons rfl (fun K hK => ?_) AllReadyH.nil
          have hownY := own_below HS4.out.own BY (Nat.le_refl _)
          refine step_append_lies _ (by rfl) _ _ 63 (by rfl) (w.heap.size + 2) 99 i0 _ 5 88 Tryz.underlying63 hi iz0 iz1 iz2 rfl (by decide) (.slice R k c) k ((List.replicate k t).flatMap RT.cells) (by simp [Act.eval]) hownY ⟨g9, 0, none⟩ 1 1 [.bool false, .slice A 1 ca, .bool false, .slice none 0 0, .slice E el.length ce] (by simp [Act.eval]) rfl HNW.out (by simp [Value.oneCell']) (by omega) (by simp only [maxLen]; omega) (by omega) (by omega) (g9 + 1) hz1 ?_
          intro g cap w3 hown' hgrow _ _
          have K4 := Blk.grown (HS4.out.b4.keep BY HS4.out.b4.lt) hgrow (own_blk_ne hownY (HS4.out.b4.keep BY HS4.out.b4.lt) (by decide))
          have K6 := Blk.grown (HS4.out.b6.keep BY HS4.out.b6.lt) hgrow (own_blk_ne hownY (HS4.out.b6.keep BY HS4.out.b6.lt) (by decide))
          have t0 := hgrow.cell (keep_cell BY y0) ho8
          have t1 := hgrow.cell (keep_cell BY y1) ho8
          have t2 := hgrow.cell (keep_cell BY y2) ho8
          have t3 := hgrow.cell (keep_cell BY y3) ho8
          have t4 := hgrow.cell (keep_cell BY k4) hoa
          refine hK.out _ _ ⟨t0, t1, t2, t3, t4⟩ (fun hHeld => ?_)
          clear hK K
          (try simp only [Act.put, List.setIfInBounds_toArray])
          refine wpAnyH_get 11 (some 66) (.pointer (some ⟨w.heap.size + 1, 1, none⟩)) rfl rfl (by kernel_rfl) (by kernel_rfl) (by kernel_rfl) (fun _ _ _ h => h) (by rfl) hHeld ?_ ?_
          · (intro w hSw; (try dsimp only at hSw); go_simp; all_goals (try with_reducible rfl))
          simp only [Act.put]
          refine wpAnyH_ready (rs := [12]) (by kernel_rfl) (by simp) ?_
          refine AllReadyH.cons rfl (fun K hK => ?_) AllReadyH.nil
          obtain ⟨x0, x1, x2, x3⟩ := K6.two
          have hbG := Below.grown (below_all (below_all hbr hbe) BY) hgrow (by omega) (fun j hj => by have := (hownY.lt j hj).1; omega)
          go_simp
          refine hK.out _ _ ⟨FAR.out _ _ _ _ t0 f8, FAR.out _ _ _ _ t1 f8, FAR.out _ _ _ _ t2 f8, FAR.out _ _ _ _ t3 f8, FAR.out _ _ _ _ t4 f4⟩ (fun hHeld => ?_)
          clear hK K
          (try simp only [Act.put, List.setIfInBounds_toArray, List.set_cons_zero, List.set_cons_succ])
          refine wpAnyH_done (by kernel_rfl) ?_ _
          clear t0 t1 t2 t3 t4 x0 x1 x2 x3
          go_wp2
          go_roundw
          case rel =>
            refine ⟨k + 1, some ⟨g, 0, none⟩, cap, by go_num, by omega, Lib.hid ⟨below_far hbG (by omega) _ _, K4.far (by show w.heap.size ≠ w.heap.size + 1; omega) _, K6.set 1 _, ?_⟩⟩
            rw [List.replicate_succ', List.flatMap_append]
            have e : [t].flatMap RT.cells = [.bool false, .slice A 1 ca, .bool false, .slice none 0 0, .slice E el.length ce] := by simp [HT.out]
            rw [e]
            exact own_far hown' (own_blk_ne hown' K6 (by decide)) _
          case measure => simp [intOf]; omega
    · obtain rfl : k = 1 := by omega
      obtain ⟨a0, a1, a2, a3⟩ := HST.out.b6.two
      obtain ⟨b0, b1, b2, b3⟩ := HST.out.b4.two
      go_wp2
      have K4 := (HST.out.b4.set 0 (.int .i64 V)).set 1 (.slice R 1 c)
      obtain ⟨e0, e1, _, _⟩ := Blk.two (a := .int .i64 V) (b := .slice R 1 c) (by simpa using K4)
      refine bodyPost_ret (v := .agg #[.int .i64 V, .slice R 1 c]) (by simp [results, Tryz.results51, go_sem, e0, e1]) rfl ⟨R, c, rfl, ?_, ?_⟩
      · have ho := own_far (own_far HST.out.own (own_blk_ne HST.out.own HST.out.b4 (by decide)) (p := ⟨w.heap.size, 0, none⟩) (.int .i64 V)) (own_blk_ne HST.out.own HST.out.b4 (by decide)) (p := ⟨w.heap.size, 1, none⟩) (.slice R 1 c)
        have := own_base ho (show w.heap.size ≤ w.heap.size + 2 by omega)
        simpa using this
      · exact below_far (below_far hbr (Nat.le_refl _) _ _) (Nat.le_refl _) _ _
end Go.Proofs.Tg.Sx
end
