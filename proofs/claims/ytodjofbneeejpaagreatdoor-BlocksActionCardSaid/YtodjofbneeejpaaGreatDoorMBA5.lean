/- Parts of the proof: GXF, GXN, GChordal, GPD, GPE, GPH, GPK, GPJ, GPO, SP4, SM3, PV. -/
import Derived.Laws.CopyOwn
import Derived.StillTailTactics
import Derived.ChangeKeys
import Derived.Test.YtodjofbneeejpaaGreatDoorMBA0
import Derived.Test.YtodjofbneeejpaaGreatDoorMBA1
import Derived.Test.YtodjofbneeejpaaGreatDoorMBA3
import Derived.Test.YtodjofbneeejpaaGreatDoorMBA4
section
/- The reference's Tree. -/
namespace Go.Proofs.Tg.Gx
open Go.RowKit Go.Gr
set_option maxHeartbeats 2000000
set_option maxRecDepth 100000
theorem Lists.two {w : World} {V : Option Addr} {ls : List (List Int)} (h : Lists w V ls) {j q : Nat} (hj : j < ls.length) (hq : q < ls.length) :
    ∃ ad A c B d, V = some ad ∧ w.cell? (ad.add j) = some (.slice A ls[j].length c) ∧ Ints w A ls[j] ∧ w.cell? (ad.add q) = some (.slice B ls[q].length d) ∧ Ints w B ls[q] := by
  obtain ⟨ad, A, c, rfl, h1, h2⟩ := Lists.at h hj
  obtain ⟨ad', B, d, e, h3, h4⟩ := Lists.at h hq
  injection e with e
  subst e
  exact ⟨ad, A, c, B, d, rfl, h1, h2, h3, h4⟩
end Go.Proofs.Tg.Gx
end
section
/- The reference's Fill. -/
namespace Go.Gr
def cntR (t : Nat → Nat → Bool) (gone : Nat → Bool) (i k : Nat) : Nat := ((List.range k).filter fun j => t i j && !gone j).length
theorem cntR_le (t : Nat → Nat → Bool) (gone : Nat → Bool) (i k : Nat) : cntR t gone i k ≤ k := by
  unfold cntR
  exact Nat.le_trans (List.length_filter_le _ _) (by simp)
def minStepR (t : Nat → Nat → Bool) (n : Nat) (gone : Nat → Bool) (bm : Int × Int) (i : Nat) : Int × Int := if gone i = false ∧ ((cntR t gone i n : Nat) : Int) < bm.2 then ((i : Int), ((cntR t gone i n : Nat) : Int)) else bm
def minR (t : Nat → Nat → Bool) (n : Nat) (gone : Nat → Bool) (k : Nat) : Int × Int := (List.range k).foldl (minStepR t n gone) (-1, (n : Int) + 1)
theorem minR_succ (t : Nat → Nat → Bool) (n : Nat) (gone : Nat → Bool) (k : Nat) : minR t n gone (k + 1) = minStepR t n gone (minR t n gone k) k := by simp [minR, List.range_succ]
/-- What the choice comes to: the first of those with the fewest. -/
theorem minR_spec (t : Nat → Nat → Bool) (n : Nat) (gone : Nat → Bool) : ∀ k, (minR t n gone k = (-1, (n : Int) + 1) ∧ ∀ j, j < k → gone j = true) ∨
    ∃ i, i < k ∧ gone i = false ∧ minR t n gone k = ((i : Int), ((cntR t gone i n : Nat) : Int)) ∧ (∀ j, j < k → gone j = false → cntR t gone i n ≤ cntR t gone j n) ∧ (∀ j, j < i → gone j = false → cntR t gone i n < cntR t gone j n)
  | 0 => .inl ⟨rfl, fun j h => by omega⟩
  | k + 1 => by
    rw [minR_succ]
    rcases minR_spec t n gone k with ⟨h1, h2⟩ | ⟨i, hi, hg, he, hm, hf⟩
    · rw [h1]
      cases hk : gone k
      · right
        refine ⟨k, by omega, hk, ?_, fun j hj hgj => ?_, fun j hj hgj => ?_⟩
        · unfold minStepR
          rw [if_pos ⟨hk, by have := cntR_le t gone k n; simp; omega⟩]
        · by_cases e : j = k
          · rw [e]; exact Nat.le_refl _
          · rw [h2 j (by omega)] at hgj; cases hgj
        · rw [h2 j hj] at hgj; cases hgj
      · left
        refine ⟨by unfold minStepR; rw [if_neg (by rw [hk]; simp)], fun j hj => ?_⟩
        by_cases e : j = k
        · rw [e]; exact hk
        · exact h2 j (by omega)
    · right
      rw [he]
      by_cases hc : gone k = false ∧ cntR t gone k n < cntR t gone i n
      · refine ⟨k, by omega, hc.1, ?_, fun j hj hgj => ?_, fun j hj hgj => ?_⟩
        · unfold minStepR; rw [if_pos ⟨hc.1, by simp; omega⟩]
        · by_cases e : j = k
          · rw [e]; exact Nat.le_refl _
          · have := hm j (by omega) hgj; omega
        · have := hm j hj hgj; omega
      · refine ⟨i, by omega, hg, ?_, fun j hj hgj => ?_, hf⟩
        · unfold minStepR; rw [if_neg (fun h => hc ⟨h.1, by have := h.2; simp at this; omega⟩)]
        · by_cases e : j = k
          · subst e
            by_cases hlt : cntR t gone j n < cntR t gone i n
            · exact absurd ⟨hgj, hlt⟩ hc
            · omega
          · exact hm j (by omega) hgj
def stepF (gone : Nat → Bool) (best a : Nat) (t : Nat → Nat → Bool) (b : Nat) : Nat → Nat → Bool := if (!gone a && !gone b && t best a && t best b) = true then joinT t a b else t
def rowF (gone : Nat → Bool) (best a : Nat) (t : Nat → Nat → Bool) (k : Nat) : Nat → Nat → Bool := (List.range k).foldl (stepF gone best a) t
theorem rowF_succ (gone : Nat → Bool) (best a : Nat) (t : Nat → Nat → Bool) (k : Nat) : rowF gone best a t (k + 1) = stepF gone best a (rowF gone best a t k) k := by simp [rowF, List.range_succ]
def allF (gone : Nat → Bool) (best : Nat) (t : Nat → Nat → Bool) (k : Nat) : Nat → Nat → Bool := (List.range k).foldl (fun t a => rowF gone best a t a) t
theorem allF_succ (gone : Nat → Bool) (best : Nat) (t : Nat → Nat → Bool) (k : Nat) : allF gone best t (k + 1) = rowF gone best k (allF gone best t k) k := by simp [allF, List.range_succ]
/-- The table, and what is gone, after r steps. -/
def fillTo (t : Nat → Nat → Bool) (n : Nat) : Nat → (Nat → Nat → Bool) × (Nat → Bool)
  | 0 => (t, fun _ => false)
  | r + 1 => (allF (fillTo t n r).2 (minR (fillTo t n r).1 n (fillTo t n r).2 n).1.toNat (fillTo t n r).1 n, updF (fillTo t n r).2 (minR (fillTo t n r).1 n (fillTo t n r).2 n).1.toNat true)
end Go.Gr
namespace Go.Proofs.Tg.Gx
open Go.RowKit Go.Gr
set_option maxHeartbeats 4000000
set_option maxRecDepth 100000
theorem TableAt.far {w : World} {g n : Nat} {t : Nat → Nat → Bool} (h : TableAt w g n t) {p : Addr} (h0 : p.block ≠ g) (h1 : ∀ i, i < n → p.block ≠ g + 1 + i) (u : Value) : TableAt (w.setCell p u) g n t :=
  ⟨h.head.far (fun e => h0 e.symm) u, fun i hi => (h.row i hi).far (fun e => h1 i hi e.symm) u⟩
theorem TableAt.setRow {w : World} {g n k : Nat} {t : Nat → Nat → Bool} (h : TableAt w g n t) (hk : k < n) (f : Nat → Bool) : TableAt (w.setRow (g + 1 + k) (farr n fun j => .bool (f j))) g n (fun i j => if i = k then f j else t i j) := by
  refine ⟨blk_setRow_far h.head (by omega) _, fun i hi => ?_⟩
  by_cases e : i = k
  · subst e
    have := blk_setRow (h.row i hi) (farr n fun j => .bool (f j))
    simpa using this
  · have := blk_setRow_far (h.row i hi) (g' := g + 1 + k) (by omega) (farr n fun j => .bool (f j))
    simpa [e] using this
end Go.Proofs.Tg.Gx
end
section
/- Plain mathematics of chordal graphs: a graph with a perfect elimination order has the order of every maximum cardinality search as one. No program in sight. -/
namespace Go.Chordal

/-- A path p 0 .. p j without chords. -/
structure Path (adj : Nat → Nat → Prop) (p : Nat → Nat) (j : Nat) : Prop where
  inj : ∀ a b, a < b → b ≤ j → p a ≠ p b
  step : ∀ a, a < j → adj (p a) (p (a + 1))
  free : ∀ a b, a + 1 < b → b ≤ j → ¬ adj (p a) (p b)

theorem Path.take {adj : Nat → Nat → Prop} {p : Nat → Nat} {j i : Nat} (h : Path adj p j) (hi : i ≤ j) : Path adj p i where
  inj a b hab hb := h.inj a b hab (by omega)
  step a ha := h.step a (by omega)
  free a b hab hb := h.free a b hab (by omega)

/-- How many of o 0 .. o (y - 1) are adjacent to v. -/
def cnt (adj : Nat → Nat → Bool) (o : Nat → Nat) (y v : Nat) : Nat := ((List.range y).filter fun k => adj v (o k)).length

end Go.Chordal
end
section
/- Plain law of Extend: what it adds; its order of elimination is perfect. -/
namespace Go.Gr
open Go.Chordal
def bt (A : Nat → Nat) (i j : Nat) : Bool := (A i).testBit j
theorem bt_lt {A : Nat → Nat} (hS : Small A) {i j : Nat} (h : bt A i j = true) : j < 64 := by
  by_cases hj : j < 64
  · exact hj
  · have := high_bit (hS i) (show 64 ≤ j by omega)
    unfold bt at h
    rw [this] at h
    cases h
theorem fill_bit (ar : Nat) : ∀ (l : List Nat) (A : Nat → Nat), (∀ v ∈ l, v < 64) → l.Nodup → ∀ v j, (fill ar l A v).testBit j = ((A v).testBit j || (decide (v ∈ l) && (bclr ar v).testBit j))
  | [], A, _, _, v, j => by simp [fill]
  | x :: l, A, hl, hn, v, j => by
    rw [List.nodup_cons] at hn
    have e : fill ar (x :: l) A = fill ar l (fillStep ar A x) := by simp [fill]
    rw [e, fill_bit ar l _ (fun u hu => hl u (by simp [hu])) hn.2]
    by_cases h : v = x
    · subst h
      unfold fillStep
      rw [upd_same, Nat.testBit_or]
      simp [hn.1]
    · unfold fillStep
      rw [upd_other _ _ h]
      simp [h]
theorem verts_nodup (s : Nat) : (verts s).Nodup := by
  unfold verts
  exact List.Pairwise.filter _ List.nodup_range
theorem verts_empty {s : Nat} (hs : s < 18446744073709551616) (h : verts s = []) : s = 0 := by
  apply Nat.eq_of_testBit_eq
  intro i
  rw [Nat.zero_testBit]
  by_cases hi : i < 64
  · cases hb : s.testBit i with
    | false => rfl
    | true =>
      have : i ∈ verts s := mem_verts.2 ⟨hi, hb⟩
      rw [h] at this
      simp at this
  · exact high_bit hs (by omega)
theorem elim_at {A : Nat → Nat} {rest : Nat} (hI : Irr A) (hr : rest < 18446744073709551616) (h0 : rest ≠ 0) :
    ∃ b, b < 64 ∧ rest.testBit b = true ∧ elim A rest = (fill (A b &&& rest) (verts (A b &&& rest)) A, bclr rest b) ∧ (∀ u, u < 64 → rest.testBit u = true → size (A b &&& rest) ≤ size (A u &&& rest)) ∧
      (∀ u, u < b → rest.testBit u = true → size (A b &&& rest) < size (A u &&& rest)) := by
  rcases minOf_spec A rest hI (verts rest).reverse (verts rest) (fun v hv => (mem_verts.1 hv).1) rfl with h | ⟨b, l, m, hlm, hm, h1, h2⟩
  · exact absurd (verts_empty hr h) h0
  · have hb : b ∈ verts rest := by rw [hlm]; simp
    have hasc : (verts rest).Pairwise (· < ·) := by unfold verts; exact List.Pairwise.filter _ List.pairwise_lt_range
    refine ⟨b, (mem_verts.1 hb).1, (mem_verts.1 hb).2, by unfold elim; rw [hm]; rfl, fun u hu hub => ?_, fun u hu hub => ?_⟩
    · have hmem : u ∈ verts rest := mem_verts.2 ⟨hu, hub⟩
      rw [hlm] at hmem
      rcases List.mem_append.1 hmem with h | h
      · have := h1 u h; omega
      · rcases List.mem_cons.1 h with rfl | h
        · exact Nat.le_refl _
        · exact h2 u h
    · have hmem : u ∈ verts rest := mem_verts.2 ⟨by have := (mem_verts.1 hb).1; omega, hub⟩
      rw [hlm] at hmem hasc
      rw [List.pairwise_append, List.pairwise_cons] at hasc
      rcases List.mem_append.1 hmem with h | h
      · exact h1 u h
      · rcases List.mem_cons.1 h with rfl | h
        · omega
        · have := hasc.2.1.1 u h; omega
end Go.Gr
end
section
/- Plain law of isChordal: exactly the graphs with a perfect elimination order. -/
namespace Go.Gr
open Go.Chordal
def ord (A : Nat → Nat) (n k : Nat) : Nat := (search A n).getD k 0
end Go.Gr
end
section
/- Plain mathematics of clique trees: a tree that grows by a heaviest edge each time is a clique tree, if there is one. No program in sight. -/
namespace Go.Jt
open Go.Gr
/-- b is reached from a by steps of R. -/
def Conn (R : Nat → Nat → Prop) (a b : Nat) : Prop := ∀ P : Nat → Prop, P a → (∀ x y, P x → R x y → P y) → P b
section
variable {R : Nat → Nat → Prop}
theorem Conn.refl (a : Nat) : Conn R a a := fun _ h _ => h
theorem Conn.step {a b : Nat} (h : R a b) : Conn R a b := fun _ ha hs => hs a b ha h
theorem Conn.trans {a b c : Nat} (h : Conn R a b) (k : Conn R b c) : Conn R a c := fun P ha hs => k P (h P ha hs) hs
theorem Conn.symm (hR : ∀ x y, R x y → R y x) {a b : Nat} (h : Conn R a b) : Conn R b a :=
  h (fun x => Conn R x a) (Conn.refl a) (fun x y hx hxy => (Conn.step (hR x y hxy)).trans hx)
end
end Go.Jt
end
section
/- Plain law of Components: the classes of the vertices that chains of edges connect. -/
namespace Go.Gr
open Go.Jt
def Rel (es : List (Int × Int)) (a b : Nat) : Prop := readT es a b = true
end Go.Gr
end
section
/- Plain law of Tree: the cliques that hold a vertex are connected in the tree. -/
namespace Go.Gr
open Go.Jt
section
variable {sets : List Nat} {inT m : Nat}
end
/-- The set that is chosen in round r, and its parent. -/
def pk (sets : List Nat) : Nat → Nat
  | 0 => 0
  | r + 1 => (allTo sets (treeTo sets r).1 sets.length sets.length).1.toNat
def pq (sets : List Nat) : Nat → Nat
  | 0 => 0
  | r + 1 => (allTo sets (treeTo sets r).1 sets.length sets.length).2.1.toNat
def pw (sets : List Nat) (r : Nat) : Nat := size (sets.getD (pk sets r) 0 &&& sets.getD (pq sets r) 0)
structure Rounds (sets : List Nat) (r : Nat) : Prop where
  bits : ∀ i, (treeTo sets r).1.testBit i = true ↔ ∃ s, s ≤ r ∧ pk sets s = i
  lt : ∀ s, s ≤ r → pk sets s < sets.length
  new : ∀ s, 0 < s → s ≤ r → ∀ s', s' < s → pk sets s' ≠ pk sets s
  par : ∀ s, 0 < s → s ≤ r → ∃ s', s' < s ∧ pq sets s = pk sets s'
  most : ∀ s, 0 < s → s ≤ r → ∀ i, i < sets.length → (∀ s', s' < s → pk sets s' ≠ i) → ∀ s', s' < s → size (sets.getD i 0 &&& sets.getD (pk sets s') 0) ≤ pw sets s
  len : (treeTo sets r).2.length = sets.length
  tree : ∀ s, s ≤ r → (treeTo sets r).2.getD (pk sets s) 0 = if 0 < s ∧ 0 < pw sets s then ((pq sets s : Nat) : Int) else -1
  rest : ∀ i, i < sets.length → (∀ s, s ≤ r → pk sets s ≠ i) → (treeTo sets r).2.getD i 0 = -1
end Go.Gr
end
section
/- What the reference fills is what the library fills; the count of its search; its parts. -/
namespace Go.Gr
open Go.Jt
def goodC (gone : Nat → Bool) (t : Nat → Nat → Bool) (best x : Nat) : Prop := gone x = false ∧ t best x = true
theorem rowF_at {gone : Nat → Bool} {best a : Nat} {u : Nat → Nat → Bool} (hb : u best best = false) : ∀ k i j, rowF gone best a u k i j = true ↔ u i j = true ∨ (goodC gone u best a ∧ ((i = a ∧ j < k ∧ goodC gone u best j) ∨ (j = a ∧ i < k ∧ goodC gone u best i)))
  | 0, i, j => by simp [rowF]
  | k + 1, i, j => by
    rw [rowF_succ]
    have ih := rowF_at (gone := gone) (a := a) hb k
    have hrow : ∀ x, rowF gone best a u k best x = u best x := by
      intro x
      rw [Bool.eq_iff_iff, ih]
      constructor
      · rintro (h | ⟨ha, ⟨e, _⟩ | ⟨_, _, h⟩⟩)
        · exact h
        · subst e; have := ha.2; rw [hb] at this; cases this
        · have := h.2; rw [hb] at this; cases this
      · exact .inl
    unfold stepF
    rw [hrow, hrow]
    by_cases hc : (!gone a && !gone k && u best a && u best k) = true
    · rw [if_pos hc, joinT_at]
      simp only [Bool.and_eq_true, Bool.not_eq_true'] at hc
      obtain ⟨⟨⟨h1, h2⟩, h3⟩, h4⟩ := hc
      rw [Bool.or_eq_true, Bool.or_eq_true, decide_eq_true_eq, decide_eq_true_eq, ih]
      constructor
      · rintro ((⟨e1, e2⟩ | ⟨e1, e2⟩) | h | ⟨ha, ⟨e, hj, g⟩ | ⟨e, hi, g⟩⟩)
        · exact .inr ⟨⟨h1, h3⟩, .inl ⟨e1, by omega, by rw [e2]; exact ⟨h2, h4⟩⟩⟩
        · exact .inr ⟨⟨h1, h3⟩, .inr ⟨e2, by omega, by rw [e1]; exact ⟨h2, h4⟩⟩⟩
        · exact .inl h
        · exact .inr ⟨ha, .inl ⟨e, by omega, g⟩⟩
        · exact .inr ⟨ha, .inr ⟨e, by omega, g⟩⟩
      · rintro (h | ⟨ha, ⟨e, hj, g⟩ | ⟨e, hi, g⟩⟩)
        · exact .inr (.inl h)
        · by_cases e2 : j = k
          · exact .inl (.inl ⟨e, e2⟩)
          · exact .inr (.inr ⟨ha, .inl ⟨e, by omega, g⟩⟩)
        · by_cases e2 : i = k
          · exact .inl (.inr ⟨e2, e⟩)
          · exact .inr (.inr ⟨ha, .inr ⟨e, by omega, g⟩⟩)
    · rw [if_neg hc, ih]
      have hno : goodC gone u best a → goodC gone u best k → False := fun h1 h2 => hc (by simp [h1.1, h1.2, h2.1, h2.2])
      constructor
      · rintro (h | ⟨ha, ⟨e, hj, g⟩ | ⟨e, hi, g⟩⟩)
        · exact .inl h
        · exact .inr ⟨ha, .inl ⟨e, by omega, g⟩⟩
        · exact .inr ⟨ha, .inr ⟨e, by omega, g⟩⟩
      · rintro (h | ⟨ha, ⟨e, hj, g⟩ | ⟨e, hi, g⟩⟩)
        · exact .inl h
        · by_cases e2 : j = k
          · subst e2; exact (hno ha g).elim
          · exact .inr ⟨ha, .inl ⟨e, by omega, g⟩⟩
        · by_cases e2 : i = k
          · subst e2; exact (hno ha g).elim
          · exact .inr ⟨ha, .inr ⟨e, by omega, g⟩⟩
theorem allF_at {gone : Nat → Bool} {best : Nat} {t : Nat → Nat → Bool} (hb : t best best = false) : ∀ k i j, allF gone best t k i j = true ↔ t i j = true ∨ (i ≠ j ∧ i < k ∧ j < k ∧ goodC gone t best i ∧ goodC gone t best j)
  | 0, i, j => by simp [allF]
  | k + 1, i, j => by
    have ih := allF_at (gone := gone) hb k
    have hrow : ∀ x, allF gone best t k best x = t best x := by
      intro x
      rw [Bool.eq_iff_iff, ih]
      constructor
      · rintro (h | ⟨_, _, _, h, _⟩)
        · exact h
        · have := h.2; rw [hb] at this; cases this
      · exact .inl
    have hC : ∀ x, goodC gone (allF gone best t k) best x ↔ goodC gone t best x := by
      intro x; unfold goodC; rw [hrow]
    rw [allF_succ, rowF_at (by rw [hrow]; exact hb), ih, hC, hC, hC]
    constructor
    · rintro ((h | ⟨h1, h2, h3, h4, h5⟩) | ⟨ha, ⟨e, hj, g⟩ | ⟨e, hi, g⟩⟩)
      · exact .inl h
      · exact .inr ⟨h1, by omega, by omega, h4, h5⟩
      · exact .inr ⟨by omega, by omega, by omega, by rw [e]; exact ha, g⟩
      · exact .inr ⟨by omega, by omega, by omega, g, by rw [e]; exact ha⟩
    · rintro (h | ⟨h1, h2, h3, h4, h5⟩)
      · exact .inl (.inl h)
      · by_cases e1 : i = k
        · exact .inr ⟨by rw [← e1]; exact h4, .inl ⟨e1, by omega, h5⟩⟩
        · by_cases e2 : j = k
          · exact .inr ⟨by rw [← e2]; exact h5, .inr ⟨e2, by omega, h4⟩⟩
          · exact .inl (.inr ⟨h1, by omega, by omega, h4, h5⟩)
/-- The reference's table and the library's sets, side by side. -/
structure Mat (n : Nat) (u : Nat → Nat → Bool) (gone : Nat → Bool) (A : Nat → Nat) (rest : Nat) : Prop where
  eq : ∀ i j, i < n → j < n → u i j = bt A i j
  bits : ∀ v, rest.testBit v = true ↔ v < n ∧ gone v = false
  irr : Irr A
  small : Small A
  lt : ∀ i j, i < n → bt A i j = true → j < n
  rl : rest < 18446744073709551616
theorem Mat.cnt {n : Nat} {u : Nat → Nat → Bool} {gone : Nat → Bool} {A : Nat → Nat} {rest : Nat} (h : Mat n u gone A rest) (hn : n ≤ 64) {i : Nat} (hi : i < n) : cntR u gone i n = size (A i &&& rest) := by
  unfold cntR size verts
  rw [filter_range_le hn (p := (A i &&& rest).testBit) (q := fun j => u i j && !gone j)]
  · intro k hk
    rw [Nat.testBit_and, h.eq i k hi hk]
    unfold bt
    congr 1
    rw [Bool.eq_iff_iff, h.bits]
    simp [hk]
  · intro k hk _
    rw [Nat.testBit_and]
    have : rest.testBit k = false := by
      cases hb : rest.testBit k
      · rfl
      · have := ((h.bits k).1 hb).1; omega
    rw [this]; simp
theorem Mat.step {n : Nat} {u : Nat → Nat → Bool} {gone : Nat → Bool} {A : Nat → Nat} {rest : Nat} (h : Mat n u gone A rest) (hn : n ≤ 64) (h0 : rest ≠ 0) :
    ∃ b, b < 64 ∧ rest.testBit b = true ∧ (elim A rest).2 = bclr rest b ∧ Mat n (allF gone (minR u n gone n).1.toNat u n) (updF gone (minR u n gone n).1.toNat true) (elim A rest).1 (elim A rest).2 := by
  obtain ⟨b, hb64, hbr, he, hmin, hfst⟩ := elim_at h.irr h.rl h0
  obtain ⟨hbn, hbg⟩ := (h.bits b).1 hbr
  refine ⟨b, hb64, hbr, by rw [he], ?_⟩
  have hm : (minR u n gone n).1.toNat = b := by
    rcases minR_spec u n gone n with ⟨_, h2⟩ | ⟨i, hi, hg, hmi, hle, hlt⟩
    · rw [h2 b hbn] at hbg; cases hbg
    · rw [hmi]
      simp only [Int.toNat_natCast]
      have hir : rest.testBit i = true := (h.bits i).2 ⟨hi, hg⟩
      have c1 := hle b hbn hbg
      rw [h.cnt hn hi, h.cnt hn hbn] at c1
      rcases Nat.lt_trichotomy i b with hlt' | e | hgt
      · have := hfst i hlt' hir; omega
      · exact e
      · have := hlt b hgt hbg
        rw [h.cnt hn hi, h.cnt hn hbn] at this
        have := hmin i (by omega) hir
        omega
  rw [hm, he]
  have har : (A b &&& rest) < 18446744073709551616 := and_lt rest (h.small b)
  have hlt : ∀ v ∈ verts (A b &&& rest), v < 64 := fun v hv => (mem_verts.1 hv).1
  have hbit := fill_bit (A b &&& rest) (verts (A b &&& rest)) A hlt (verts_nodup _)
  have hS1 : Small (fill (A b &&& rest) (verts (A b &&& rest)) A) := fill_small har _ h.small
  have hbb : u b b = false := by
    rw [h.eq b b hbn hbn]; exact h.irr b hb64
  have hgood : ∀ v, v < n → ((A b &&& rest).testBit v = true ↔ goodC gone u b v) := by
    intro v hv
    rw [Nat.testBit_and, Bool.and_eq_true, h.bits]
    unfold goodC
    rw [h.eq b v hbn hv]
    unfold bt
    constructor
    · rintro ⟨h1, _, h2⟩; exact ⟨h2, h1⟩
    · rintro ⟨h1, h2⟩; exact ⟨h2, hv, h1⟩
  refine ⟨fun i j hi hj => ?_, fun v => ?_, fill_irr _ hlt h.irr, hS1, fun i j hi hb => ?_, bclr_lt b h.rl⟩
  · rw [Bool.eq_iff_iff, allF_at hbb]
    unfold bt
    rw [hbit, Bool.or_eq_true, Bool.and_eq_true, decide_eq_true_eq, mem_verts, bclr_bit _ _ _ (by omega) (by omega), hgood i hi, Bool.and_eq_true, hgood j hj, h.eq i j hi hj]
    unfold bt
    constructor
    · rintro (h1 | ⟨h1, _, _, h2, h3⟩)
      · exact .inl h1
      · exact .inr ⟨⟨by omega, h2⟩, h3, by simpa using h1⟩
    · rintro (h1 | ⟨⟨_, h2⟩, h3, h4⟩)
      · exact .inl h1
      · exact .inr ⟨by simpa using h4, hi, hj, h2, h3⟩
  · have hu : updF gone b true v = false ↔ v ≠ b ∧ gone v = false := by
      unfold updF
      by_cases e : v = b
      · simp [e]
      · simp [e]
    rw [hu]
    by_cases hv : v < 64
    · rw [bclr_bit _ _ _ hb64 hv, Bool.and_eq_true, h.bits]
      constructor
      · rintro ⟨⟨h1, h2⟩, h3⟩
        exact ⟨h1, fun e => by simp [e] at h3, h2⟩
      · rintro ⟨h1, h2, h3⟩
        exact ⟨⟨h1, h3⟩, by simp; exact fun e => h2 e.symm⟩
    · rw [high_bit (bclr_lt b h.rl) (by omega)]
      simp
      intro h1; omega
  · unfold bt at hb
    have hj64 : j < 64 := bt_lt hS1 hb
    rw [hbit, Bool.or_eq_true, Bool.and_eq_true] at hb
    rcases hb with h1 | ⟨_, h1⟩
    · exact h.lt i j hi h1
    · rw [bclr_bit _ _ _ (by omega) hj64, Bool.and_eq_true, Nat.testBit_and, Bool.and_eq_true] at h1
      exact ((h.bits j).1 h1.1.2).1
theorem size_bclr {s i : Nat} (hi : i < 64) (h : s.testBit i = true) : size (bclr s i) + 1 = size s := by
  have e : verts (bclr s i) = (verts s).erase i := by
    rw [List.Nodup.erase_eq_filter (verts_nodup s)]
    unfold verts
    rw [List.filter_filter]
    apply List.filter_congr
    intro x hx
    rw [bclr_bit _ _ _ hi (by simpa using hx)]
    rw [Bool.and_comm]
    congr 1
    by_cases e : i = x
    · simp [e]
    · simp [e]; exact fun h => e h.symm
  have hm : i ∈ verts s := mem_verts.2 ⟨hi, h⟩
  have hp : 0 < (verts s).length := List.length_pos_of_mem hm
  unfold size
  rw [e, List.length_erase_of_mem hm]
  omega
theorem Mat.run {t : Nat → Nat → Bool} {n : Nat} (hn : n ≤ 64) : ∀ (d r f : Nat) (A : Nat → Nat) (rest : Nat), r + d = n → Mat n (fillTo t n r).1 (fillTo t n r).2 A rest → size rest = d → d < f → ∀ i j, i < n → j < n → (fillTo t n n).1 i j = bt (extFrom f A rest) i j
  | _, _, 0, _, _, _, _, _, hf => by omega
  | 0, r, f + 1, A, rest, hr, hM, hs, _ => by
    have h0 : rest = 0 := verts_empty hM.rl (List.eq_nil_of_length_eq_zero hs)
    obtain rfl : r = n := by omega
    unfold extFrom
    rw [if_pos h0]
    exact hM.eq
  | d + 1, r, f + 1, A, rest, hr, hM, hs, hf => by
    have h0 : rest ≠ 0 := by
      intro e
      rw [e] at hs
      unfold size at hs
      rw [verts_zero] at hs
      simp at hs
    obtain ⟨b, hb64, hbr, he, hM2⟩ := hM.step hn h0
    unfold extFrom
    rw [if_neg h0]
    refine Mat.run hn d (r + 1) f _ _ (by omega) hM2 ?_ (by omega)
    rw [he]
    have := size_bclr hb64 hbr
    omega
/-- How both make the components. -/
inductive MadeL (es : List (Int × Int)) : Nat → List (List Int) → Prop
  | zero : MadeL es 0 []
  | skip {k : Nat} {ls : List (List Int)} : MadeL es k ls → (∃ l ∈ ls, (k : Int) ∈ l) → MadeL es (k + 1) ls
  | add {k : Nat} {ls : List (List Int)} {l : List Int} : MadeL es k ls → (∀ m ∈ ls, (k : Int) ∉ m) → l.Pairwise (· < ·) → (∀ x : Int, x ∈ l ↔ ∃ v : Nat, x = v ∧ Conn (Rel es) k v) → MadeL es (k + 1) (ls ++ [l])
theorem MadeL.same {es : List (Int × Int)} : ∀ {k : Nat} {ls ms : List (List Int)}, MadeL es k ls → MadeL es k ms → ls = ms := by
  intro k
  induction k with
  | zero =>
    intro ls ms h1 h2
    cases h1; cases h2; rfl
  | succ k ih =>
    intro ls ms h1 h2
    cases h1 with
    | skip h1 e1 =>
      cases h2 with
      | skip h2 e2 => exact ih h1 h2
      | add h2 e2 _ _ =>
        obtain ⟨l, hl, hk⟩ := e1
        rw [ih h1 h2] at hl
        exact absurd hk (e2 l hl)
    | add h1 e1 p1 q1 =>
      cases h2 with
      | skip h2 e2 =>
        obtain ⟨l, hl, hk⟩ := e2
        rw [← ih h1 h2] at hl
        exact absurd hk (e1 l hl)
      | add h2 e2 p2 q2 =>
        rw [ih h1 h2, asc_ext p1 p2 (fun x => (q1 x).trans (q2 x).symm)]
end Go.Gr
end
section
/- The error of a polynomial and a basis; the number of rounds is one; what the reference adds to its set: plain. -/
namespace Go.Sp
open Go.Ev Go.Mo Go.Gr
section
variable {N : Nat} (R : Rounds N)
end
/-- A key that may be asked: a monomial in n variables. -/
def domK (n : Nat) (c : Int) (v : List Int) : Prop := v.length = n ∧ ∀ x ∈ v, 0 ≤ x ∧ x ≤ c
theorem domK.mono {n : Nat} {c d : Int} {v : List Int} (h : domK n c v) (hcd : c ≤ d) : domK n d v := ⟨h.1, fun x hx => ⟨(h.2 x hx).1, by have := (h.2 x hx).2; omega⟩⟩
theorem vld_dom {m : List Int} (h : vldM m = true) : domK m.length 24 m := by
  have h := vldM_iff.1 h
  refine ⟨rfl, fun x hx => ⟨h.2.1 x hx, ?_⟩⟩
  have : ∀ (l : List Int), (∀ e ∈ l, 0 ≤ e) → x ∈ l → x ≤ l.sum ∧ 0 ≤ l.sum := by
    intro l
    induction l with
    | nil => intro _ h; cases h
    | cons y l ih =>
      intro h0 hx
      have h1 : 0 ≤ l.sum := by
        have : ∀ l : List Int, (∀ e ∈ l, 0 ≤ e) → 0 ≤ l.sum := by
          intro l
          induction l with
          | nil => intro _; simp
          | cons z l ih => intro h; rw [List.sum_cons]; have := h z (by simp); have := ih (fun e he => h e (by simp [he])); omega
        exact this l (fun e he => h0 e (by simp [he]))
      have hy := h0 y (by simp)
      rw [List.sum_cons]
      rcases List.mem_cons.1 hx with rfl | hx
      · omega
      · have := ih (fun e he => h0 e (by simp [he])) hx; omega
  have := (this m h.2.1 hx).1
  omega
end Go.Sp
end
section
/- Different monomials have different keys. -/
namespace Go.Proofs.Tg
open Go.RowKit Go.Maps Go.WideShapes Go.Sp
theorem kl6_key (l : List Int) : WideAt.IsKeyLit (kl6 l) := trivial
theorem alike_ints : ∀ (l m : List Int), l.length = m.length → Go.Alike (l.map fun x => Lit.int .i64 x) (m.map fun x => Lit.int .i64 x)
  | [], [], _ => trivial
  | [], _ :: _, h => by simp at h
  | _ :: _, [], h => by simp at h
  | x :: l, y :: m, h => ⟨rfl, alike_ints l m (by simpa using h)⟩
theorem kl6_inj {l m : List Int} (h : l.length = m.length) (hl : ∀ x ∈ l, -1000000 ≤ x ∧ x ≤ 1000000) (hm : ∀ x ∈ m, -1000000 ≤ x ∧ x ≤ 1000000) (e : kl6 l = kl6 m) : l = m := by
  unfold kl6 at e
  injection e with e
  have := Go.keyBytes_inj (alike_ints l m h) (fun a ha => by obtain ⟨x, hx, rfl⟩ := List.mem_map.1 ha; exact wf_small (hl x hx)) (fun a ha => by obtain ⟨x, hx, rfl⟩ := List.mem_map.1 ha; exact wf_small (hm x hx)) e
  have inj : ∀ (l m : List Int), (l.map fun x => Lit.int .i64 x) = (m.map fun x => Lit.int .i64 x) → l = m := by
    intro l
    induction l with
    | nil => intro m h; cases m with
      | nil => rfl
      | cons _ _ => simp at h
    | cons x l ih => intro m h; cases m with
      | nil => simp at h
      | cons y m =>
        simp only [List.map_cons, List.cons.injEq] at h
        obtain ⟨h1, h2⟩ := h
        injection h1 with _ h1
        rw [h1, ih m h2]
  exact inj l m this
theorem kv_dom {n : Nat} {v : List Int} (h : domK n 48 v) : ∀ x ∈ kv v, -1000000 ≤ x ∧ x ≤ 1000000 := fun x hx => by
  have := kv_bound (by omega) h.2 x hx
  omega
theorem klv_inj {n : Nat} (hn : n ≤ 6) {u v : List Int} (hu : domK n 48 u) (hv : domK n 48 v) (e : kl6 (kv u) = kl6 (kv v)) : u = v :=
  kv_inj (by rw [hu.1, hv.1]) (by rw [hu.1]; exact hn) (kl6_inj (by rw [kv_len, kv_len]) (kv_dom hu) (kv_dom hv) e)
end Go.Proofs.Tg
end
section
/- Polynomials in memory: a slice of terms, each a text and a slice of exponents. -/
namespace Go.Proofs.Tg
open Go.RowKit Go.Mo
theorem flat_get {α : Type} (f : α → List Value) (sz : Nat) (h : ∀ x, (f x).length = sz) : ∀ (ls : List α) (i j : Nat) (hi : i < ls.length), j < sz → (ls.flatMap f)[i * sz + j]? = (f ls[i])[j]?
  | x :: ls, 0, j, _, hj => by
    rw [List.flatMap_cons, Nat.zero_mul, Nat.zero_add, List.getElem?_append_left (by rw [h]; exact hj)]; rfl
  | x :: ls, i + 1, j, hi, hj => by
    rw [List.flatMap_cons, List.getElem?_append_right (by rw [h, Nat.succ_mul]; omega), h, show (i + 1) * sz + j - sz = i * sz + j by rw [Nat.succ_mul]; omega]
    rw [flat_get f sz h ls i j (by simpa using hi) hj]; rfl
theorem flat_len {α : Type} (f : α → List Value) (sz : Nat) (h : ∀ x, (f x).length = sz) : ∀ ls : List α, (ls.flatMap f).length = ls.length * sz
  | [] => by simp
  | x :: ls => by rw [List.flatMap_cons, List.length_append, h, flat_len f sz h ls, List.length_cons, Nat.succ_mul]; omega
/-- A term in memory. -/
structure TV where
  coef : ByteArray
  adr : Option Addr
  cap : Nat
  exps : List Int
def TV.cells (t : TV) : List Value := [.string t.coef, .slice t.adr t.exps.length t.cap]
def TV.pl (t : TV) : Term := (t.coef, t.exps)
/-- The slice at T holds the terms. -/
structure TermsAt (w : World) (T : Option Addr) (tv : List TV) : Prop where
  sl : Sl w T tv.length 2 (tv.flatMap TV.cells)
  ints : ∀ t ∈ tv, Ints w t.adr t.exps
theorem TermsAt.keep {w w' : World} {T : Option Addr} {tv : List TV} (h : TermsAt w T tv) (hb : Below w.heap.size w w') : TermsAt w' T tv :=
  ⟨h.sl.keep hb, fun t ht => (h.ints t ht).keep hb⟩
theorem off_one (a : Addr) (k : Nat) : (⟨(a.add k).block, (a.add k).off + 1, none⟩ : Addr) = a.add (k + 1) := by
  rw [← add_add]; simp [Addr.add]
theorem TermsAt.at {w : World} {T : Option Addr} {tv : List TV} (h : TermsAt w T tv) {k : Nat} (hk : k < tv.length) :
    ∃ ad, T = some ad ∧ w.cell? (ad.add (k * 2)) = some (.string tv[k].coef) ∧ w.cell? ⟨(ad.add (k * 2)).block, (ad.add (k * 2)).off + 1, none⟩ = some (.slice tv[k].adr tv[k].exps.length tv[k].cap) ∧ Ints w tv[k].adr tv[k].exps := by
  obtain ⟨ad, rfl, _, ha⟩ := h.sl.lies (by omega)
  refine ⟨ad, rfl, ha _ _ ?_, (congrArg w.cell? (off_one ad (k * 2))).trans (ha _ _ ?_), h.ints _ (List.getElem_mem _)⟩
  · have := flat_get TV.cells 2 (fun _ => rfl) tv k 0 hk (by omega)
    rw [Nat.add_zero] at this
    exact this
  · exact flat_get TV.cells 2 (fun _ => rfl) tv k 1 hk (by omega)
theorem TermsAt.nil (w : World) (T : Option Addr) : TermsAt w T [] := ⟨Sl.nil _ _ _, fun _ h => by cases h⟩
/-- A polynomial in memory. -/
structure PVal where
  vars : Int
  adr : Option Addr
  cap : Nat
  tv : List TV
def PVal.cells (p : PVal) : List Value := [.int .i64 p.vars, .slice p.adr p.tv.length p.cap]
structure PolysAt (w : World) (L : Option Addr) (ps : List PVal) : Prop where
  sl : Sl w L ps.length 2 (ps.flatMap PVal.cells)
  tms : ∀ p ∈ ps, TermsAt w p.adr p.tv
theorem PolysAt.keep {w w' : World} {L : Option Addr} {ps : List PVal} (h : PolysAt w L ps) (hb : Below w.heap.size w w') : PolysAt w' L ps :=
  ⟨h.sl.keep hb, fun p hp => (h.tms p hp).keep hb⟩
theorem PolysAt.at {w : World} {L : Option Addr} {ps : List PVal} (h : PolysAt w L ps) {k : Nat} (hk : k < ps.length) :
    ∃ ad, L = some ad ∧ w.cell? (ad.add (k * 2)) = some (.int .i64 ps[k].vars) ∧ w.cell? ⟨(ad.add (k * 2)).block, (ad.add (k * 2)).off + 1, none⟩ = some (.slice ps[k].adr ps[k].tv.length ps[k].cap) ∧ TermsAt w ps[k].adr ps[k].tv := by
  obtain ⟨ad, rfl, _, ha⟩ := h.sl.lies (by omega)
  refine ⟨ad, rfl, ha _ _ ?_, (congrArg w.cell? (off_one ad (k * 2))).trans (ha _ _ ?_), h.tms _ (List.getElem_mem _)⟩
  · have := flat_get PVal.cells 2 (fun _ => rfl) ps k 0 hk (by omega)
    rw [Nat.add_zero] at this
    exact this
  · exact flat_get PVal.cells 2 (fun _ => rfl) ps k 1 hk (by omega)
/-- A polynomial's plain content. -/
def PVal.ok (p : PVal) : Prop := VldP p.vars (p.tv.map TV.pl)
/-- Few terms, short texts. -/
def PVal.small (p : PVal) : Prop := p.tv.length ≤ 4096 ∧ ∀ t ∈ p.tv, t.coef.size ≤ 19 ∧ t.exps.length ≤ 64
end Go.Proofs.Tg
end
