/- Parts of the proof: GSpec, GWG, GWH, GSpecE, GWI, GWP, GXA, GXB, GXC, GPA. -/
import Derived.Laws.MakeOwn
import Derived.Test.YtpiedheafppnhaaGreatDoorMSF3
section
/- Plain functions that say what package graph computes, and their first properties. -/
namespace Go.Gr

theorem mem_verts {s i : Nat} : i ∈ verts s ↔ i < 64 ∧ s.testBit i = true := by simp [verts]
theorem bset_bit (s i j : Nat) : (bset s i).testBit j = (s.testBit j || decide (i = j)) := by
  unfold bset
  rw [Nat.testBit_or, Nat.one_shiftLeft, Nat.testBit_two_pow]
theorem andn_bit (a b j : Nat) (hb : b < 18446744073709551616) (hj : j < 64) : (andn a b).testBit j = (a.testBit j && !b.testBit j) := by
  unfold andn
  rw [Nat.testBit_and]
  have : (18446744073709551615 - b).testBit j = !b.testBit j := by
    have h := Nat.testBit_two_pow_sub_succ (n := 64) (x := b) (by omega) j
    rw [show 2 ^ 64 - (b + 1) = 18446744073709551615 - b from by omega] at h
    rw [h]; simp [hj]
  rw [this]
theorem bclr_bit (s i j : Nat) (hi : i < 64) (hj : j < 64) : (bclr s i).testBit j = (s.testBit j && !decide (i = j)) := by
  unfold bclr
  rw [andn_bit _ _ _ (shl_lt i hi) hj, Nat.one_shiftLeft, Nat.testBit_two_pow]
theorem firstN_bit (n j : Nat) : (firstN n).testBit j = decide (j < n) := by
  unfold firstN
  rw [Nat.one_shiftLeft, Nat.testBit_two_pow_sub_one]
theorem high_bit {s j : Nat} (hs : s < 18446744073709551616) (hj : 64 ≤ j) : s.testBit j = false :=
  Nat.testBit_lt_two_pow (Nat.lt_of_lt_of_le hs (Nat.pow_le_pow_right (n := 2) (by omega) hj))

/-- One step of the choice of the next vertex of a maximum cardinality search. -/
def bestStep (A : Nat → Nat) (vis : Nat) (bm : Int × Int) (v : Nat) : Int × Int :=
  if vis.testBit v = false ∧ bm.2 < (size (A v &&& vis) : Nat) then ((v : Int), ((size (A v &&& vis) : Nat) : Int)) else bm
def best (A : Nat → Nat) (vis n : Nat) : Int × Int := (List.range n).foldl (bestStep A vis) (-1, -1)
theorem best_succ (A : Nat → Nat) (vis n : Nat) : best A vis (n + 1) = bestStep A vis (best A vis n) n := by
  simp [best, List.range_succ, List.foldl_append]
/-- What the choice comes to: nothing, or the first of the vertices with the most. -/
theorem best_spec (A : Nat → Nat) (vis : Nat) : ∀ n, (best A vis n = (-1, -1) ∧ ∀ v, v < n → vis.testBit v = true) ∨
    ∃ v, v < n ∧ vis.testBit v = false ∧ best A vis n = ((v : Int), ((size (A v &&& vis) : Nat) : Int)) ∧ (∀ u, u < n → vis.testBit u = false → size (A u &&& vis) ≤ size (A v &&& vis)) ∧
      (∀ u, u < v → vis.testBit u = false → size (A u &&& vis) < size (A v &&& vis))
  | 0 => .inl ⟨rfl, fun _ h => by omega⟩
  | n + 1 => by
    rw [best_succ]
    rcases best_spec A vis n with ⟨h1, h2⟩ | ⟨v, hv, hf, he, hm, hfst⟩
    · rw [h1]
      by_cases hn : vis.testBit n = true
      · left
        refine ⟨by simp [bestStep, hn], fun v hv => ?_⟩
        by_cases e : v = n
        · rw [e]; exact hn
        · exact h2 v (by omega)
      · right
        have hn' : vis.testBit n = false := by simpa using hn
        refine ⟨n, by omega, hn', by unfold bestStep; rw [if_pos ⟨hn', by simp; omega⟩], fun u hu hu2 => ?_, fun u hu hu2 => ?_⟩
        · by_cases e : u = n
          · rw [e]; exact Nat.le_refl _
          · rw [h2 u (by omega)] at hu2; cases hu2
        · rw [h2 u hu] at hu2; cases hu2
    · right
      rw [he]
      by_cases hc : vis.testBit n = false ∧ size (A v &&& vis) < size (A n &&& vis)
      · refine ⟨n, by omega, hc.1, by unfold bestStep; rw [if_pos ⟨hc.1, by simp; omega⟩], fun u hu hu2 => ?_, fun u hu hu2 => ?_⟩
        · by_cases e : u = n
          · rw [e]; exact Nat.le_refl _
          · have := hm u (by omega) hu2; omega
        · have := hm u hu hu2; omega
      · refine ⟨v, by omega, hf, by unfold bestStep; rw [if_neg]; intro ⟨h1, h2⟩; exact hc ⟨h1, by simp at h2; omega⟩, fun u hu hu2 => ?_, hfst⟩
        by_cases e : u = n
        · subst e
          by_cases hlt : size (A v &&& vis) < size (A u &&& vis)
          · exact absurd ⟨hu2, hlt⟩ hc
          · omega
        · exact hm u (by omega) hu2

/-- The visited set and the order after r rounds. -/
def searchTo (A : Nat → Nat) (n : Nat) : Nat → Nat × List Nat
  | 0 => (0, [])
  | r + 1 => (bset (searchTo A n r).1 (best A (searchTo A n r).1 n).1.toNat, (searchTo A n r).2 ++ [(best A (searchTo A n r).1 n).1.toNat])
def search (A : Nat → Nat) (n : Nat) : List Nat := (searchTo A n n).2

theorem cover_le : ∀ (n : Nat) (l : List Nat), (∀ v, v < n → v ∈ l) → n ≤ l.length
  | 0, _, _ => by omega
  | n + 1, l, h => by
    have hm := h n (by omega)
    have h2 := cover_le n (l.erase n) (fun v hv => (List.mem_erase_of_ne (by omega)).2 (h v (by omega)))
    rw [List.length_erase_of_mem hm] at h2
    have : 0 < l.length := List.length_pos_of_mem hm
    omega
structure Visits (A : Nat → Nat) (n r : Nat) : Prop where
  len : (searchTo A n r).2.length = r
  bits : ∀ i, (searchTo A n r).1.testBit i = true ↔ i ∈ (searchTo A n r).2
  lt : ∀ i ∈ (searchTo A n r).2, i < n
  small : (searchTo A n r).1 < 18446744073709551616
  nodup : (searchTo A n r).2.Nodup
theorem best_of {A : Nat → Nat} {n r : Nat} (h : Visits A n r) (hr : r < n) : ∃ v, v < n ∧ (searchTo A n r).1.testBit v = false ∧
    best A (searchTo A n r).1 n = ((v : Int), ((size (A v &&& (searchTo A n r).1) : Nat) : Int)) ∧ (∀ u, u < n → (searchTo A n r).1.testBit u = false → size (A u &&& (searchTo A n r).1) ≤ size (A v &&& (searchTo A n r).1)) ∧
      (∀ u, u < v → (searchTo A n r).1.testBit u = false → size (A u &&& (searchTo A n r).1) < size (A v &&& (searchTo A n r).1)) := by
  rcases best_spec A (searchTo A n r).1 n with ⟨_, h2⟩ | h
  · exfalso
    have := cover_le n (searchTo A n r).2 (fun v hv => (h.bits v).1 (h2 v hv))
    have := h.len
    omega
  · exact h
theorem visits {A : Nat → Nat} {n : Nat} (hn : n ≤ 64) : ∀ r, r ≤ n → Visits A n r
  | 0, _ => ⟨rfl, by simp [searchTo], by simp [searchTo], by simp [searchTo], by simp [searchTo]⟩
  | r + 1, hr => by
    have ih := visits (A := A) hn r (by omega)
    obtain ⟨v, hv, hf, he, _⟩ := best_of ih (by omega)
    have e : searchTo A n (r + 1) = (bset (searchTo A n r).1 v, (searchTo A n r).2 ++ [v]) := by
      simp only [searchTo, he]; rfl
    refine ⟨?_, ?_, ?_, ?_, ?_⟩
    · rw [e]; simp [ih.len]
    · intro i
      rw [e]
      simp only [bset_bit, Bool.or_eq_true, decide_eq_true_eq, List.mem_append, List.mem_singleton, ih.bits]
      constructor
      · rintro (h | h)
        · exact .inl h
        · exact .inr h.symm
      · rintro (h | h)
        · exact .inl h
        · exact .inr h.symm
    · intro i hi
      rw [e] at hi
      simp only [List.mem_append, List.mem_singleton] at hi
      rcases hi with h | h
      · exact ih.lt i h
      · omega
    · rw [e]; exact bset_lt ih.small (by omega)
    · rw [e]
      rw [List.nodup_append]
      refine ⟨ih.nodup, by simp, fun a ha b hb => ?_⟩
      simp at hb
      subst hb
      rintro rfl
      have := (ih.bits a).2 ha
      rw [hf] at this
      cases this
/-- For each vertex of an order, the neighbours that come ahead of it. -/
def earlierFrom (A : Nat → Nat) : Nat → List Nat → List Nat
  | _, [] => []
  | vis, v :: l => (A v &&& vis) :: earlierFrom A (bset vis v) l
def earlier (A : Nat → Nat) (l : List Nat) : List Nat := earlierFrom A 0 l
def isClique (A : Nat → Nat) (s : Nat) : Bool := (verts s).all fun v => decide (andn (bclr s v) (A v) = 0)
def isChordal (A : Nat → Nat) (n : Nat) : Bool := (earlier A (search A n)).all (isClique A)
end Go.Gr
end
section
/- Maximum cardinality search. -/
namespace Go.Proofs.Tg.Gx
open Go.RowKit Go.Gr
theorem make_ints (l n : Nat) (hl : l ≤ n) (hn : n ≤ 1000000) (w : World) : (Instr.makeSlice 50 (.int .i64 (l : Int)) (.int .i64 (n : Int))).run Tryz.prog w = .ok (.slice (some ⟨w.heap.size, 0, none⟩) l n) (w.alloc (.cells (madeCells #[.int .i64 0] n) 3)) := by
  obtain ⟨i0, hi, hz0, hz1, hz2⟩ := info_parts int_info
  have hr := run_make (P := Tryz.prog) w 50 3 i0 (.int .i64 0) Tryz.underlying50 hi hz0 .i64 .i64 l n (by omega) (by omega) (by rw [hz2]; omega) (by omega)
  rw [hz1, Nat.mul_one, Int.toNat_natCast, Int.toNat_natCast] at hr
  exact hr
set_option maxHeartbeats 1000000
set_option maxRecDepth 100000
end Go.Proofs.Tg.Gx
end
section
/- The neighbours ahead of each vertex of an order; cliques; the test for chordal graphs. -/
namespace Go.Gr
theorem earlierFrom_len (A : Nat → Nat) : ∀ (l : List Nat) (vis : Nat), (earlierFrom A vis l).length = l.length
  | [], _ => rfl
  | _ :: l, vis => by simp [earlierFrom, earlierFrom_len A l]
end Go.Gr
namespace Go.Proofs.Tg.Gx
open Go.RowKit Go.Gr
theorem set_info : (Tryz.prog.info? 74).map (fun i => (i.zero, i.size, i.bytes)) = some (some (.int .u64 0), 1, 8) := by kernel_rfl
def sarr (l : List Nat) : Array Value := (l.map vs).toArray
theorem sarr_made (n : Nat) : madeCells #[.int .u64 0] n = sarr (List.replicate n 0) := by
  apply Array.ext
  · simp [sarr, size_madeCells]
  · intro i h1 h2
    simp [madeCells, sarr, vs, Nat.mod_one]
theorem sarr_set (l : List Nat) (k s : Nat) : (sarr l).setIfInBounds k (.int .u64 s) = sarr (l.set k s) := by
  simp [sarr, List.map_set, vs]
theorem set_mid (l : List Nat) (m s k : Nat) (hk : l.length = k) (hm : 0 < m) : (l ++ List.replicate m 0).set k s = (l ++ [s]) ++ List.replicate (m - 1) 0 := by
  subst hk
  obtain ⟨m, rfl⟩ : ∃ q, m = q + 1 := ⟨m - 1, by omega⟩
  simp [List.replicate_succ]
theorem own_sarr {w : World} {b g n : Nat} {l : List Nat} (h : Blk w g 74 (sarr l)) (hb : b ≤ g) (hn : l.length = n) (hm : n ≤ 1000000) : w.ownsRow b 74 1 (.slice (some ⟨g, 0, none⟩) n n) n (l.map vs) :=
  ⟨by simp [hn], .inr ⟨g, n, _, rfl, hb, h, Nat.le_refl _, by simp only [maxLen]; omega, by simp [sarr, hn], by rw [← hn]; simp only [sarr, Nat.mul_one]; exact List.take_of_length_le (by simp)⟩⟩
set_option maxHeartbeats 1000000
set_option maxRecDepth 100000
theorem andn_zero_any {s : Nat} (a : Nat) (hs : s < 18446744073709551616) (ha : a < 18446744073709551616) : bits BinOp.andNot IntKind.u64 (s : Int) (a : Int) = ((andn s a : Nat) : Int) := u64_andNot_nat s a hs ha
theorem sets_lt_earlier (A : Nat → Nat) (hS : Small A) : ∀ (l : List Nat) (vis : Nat), ∀ s ∈ earlierFrom A vis l, s < 18446744073709551616
  | [], _, s, h => by simp [earlierFrom] at h
  | v :: l, vis, s, h => by
    simp only [earlierFrom, List.mem_cons] at h
    rcases h with rfl | h
    · exact and_lt _ (hS v)
    · exact sets_lt_earlier A hS l _ s h
end Go.Proofs.Tg.Gx
end
section
/- Plain functions for the chordal extension. -/
namespace Go.Gr
/-- No vertex is its own neighbour. -/
def Irr (A : Nat → Nat) : Prop := ∀ v, v < 64 → (A v).testBit v = false
theorem upd_same (A : Nat → Nat) (i s : Nat) : upd A i s i = s := by simp [upd]
theorem upd_other (A : Nat → Nat) {i k : Nat} (s : Nat) (h : k ≠ i) : upd A i s k = A k := by simp [upd, h]
theorem Irr.zero : Irr (fun _ => 0) := fun _ _ => by simp
theorem Irr.connect {A : Nat → Nat} (h : Irr A) {i j : Nat} (hij : i ≠ j) : Irr (connect A i j) := by
  intro v hv
  unfold Gr.connect
  by_cases h1 : v = j
  · subst h1
    rw [upd_same, bset_bit, upd_other _ _ (fun e => hij e.symm), h v hv]
    simpa using hij
  · rw [upd_other _ _ h1]
    by_cases h2 : v = i
    · subst h2
      rw [upd_same, bset_bit, h v hv]
      simpa using fun e => hij e.symm
    · rw [upd_other _ _ h2]; exact h v hv
theorem size_lt {s i : Nat} (hi : i < 64) (h : s.testBit i = false) : size s < 64 := by
  have h1 : size s ≤ 64 := size_le s
  by_cases e : size s = 64
  · exfalso
    have h2 : verts s = List.range 64 := List.filter_eq_self.2 (by
      have := List.length_filter_eq_length_iff.1 (show ((List.range 64).filter s.testBit).length = (List.range 64).length by rw [List.length_range]; exact e)
      exact this)
    have : i ∈ verts s := by rw [h2]; simpa using hi
    rw [mem_verts] at this
    rw [h] at this
    cases this.2
  · omega
def minStep (A : Nat → Nat) (rest : Nat) (bm : Int × Int) (v : Nat) : Int × Int :=
  if ((size (A v &&& rest) : Nat) : Int) < bm.2 then ((v : Int), ((size (A v &&& rest) : Nat) : Int)) else bm
def minOf (A : Nat → Nat) (rest : Nat) (l : List Nat) : Int × Int := l.foldl (minStep A rest) (-1, 64)
theorem minOf_snoc (A : Nat → Nat) (rest : Nat) (l : List Nat) (v : Nat) : minOf A rest (l ++ [v]) = minStep A rest (minOf A rest l) v := by simp [minOf]
/-- What the choice comes to: the first of those with the fewest. -/
theorem minOf_spec (A : Nat → Nat) (rest : Nat) (hA : Irr A) : ∀ (r l : List Nat), (∀ v ∈ l, v < 64) → l.reverse = r → l = [] ∨ ∃ (v : Nat) (a b : List Nat), l = a ++ v :: b ∧ minOf A rest l = ((v : Int), ((size (A v &&& rest) : Nat) : Int)) ∧
      (∀ u ∈ a, size (A v &&& rest) < size (A u &&& rest)) ∧ (∀ u ∈ b, size (A v &&& rest) ≤ size (A u &&& rest))
  | [], l, _, hr => .inl (by simpa using hr)
  | x :: r, l, hl, hr => by
    right
    have hl2 : l = r.reverse ++ [x] := by
      have := congrArg List.reverse hr
      simpa using this
    subst hl2
    have hx : x < 64 := hl x (by simp)
    have h63 : size (A x &&& rest) < 64 := size_lt hx (by rw [Nat.testBit_and, hA x hx]; rfl)
    rw [minOf_snoc]
    rcases minOf_spec A rest hA r r.reverse (fun v hv => hl v (by simp [hv])) (by simp) with h | ⟨v, a, b, hab, hm, h1, h2⟩
    · refine ⟨x, [], [], by rw [h], ?_, by simp, by simp⟩
      rw [h]
      unfold minStep minOf
      rw [if_pos (by simp; omega)]
    · rw [hm]
      by_cases hc : size (A x &&& rest) < size (A v &&& rest)
      · refine ⟨x, a ++ v :: b, [], by rw [hab], ?_, ?_, by simp⟩
        · unfold minStep; rw [if_pos (by simp; omega)]
        · intro u hu
          simp only [List.mem_append, List.mem_cons] at hu
          rcases hu with hu | rfl | hu
          · have := h1 u hu; omega
          · exact hc
          · have := h2 u hu; omega
      · refine ⟨v, a, b ++ [x], by rw [hab]; simp, ?_, h1, ?_⟩
        · unfold minStep; rw [if_neg (by simp; omega)]
        · intro u hu
          simp only [List.mem_append, List.mem_singleton] at hu
          rcases hu with hu | rfl
          · exact h2 u hu
          · omega
def fillStep (ar : Nat) (A : Nat → Nat) (v : Nat) : Nat → Nat := upd A v (A v ||| bclr ar v)
def fill (ar : Nat) (l : List Nat) (A : Nat → Nat) : Nat → Nat := l.foldl (fillStep ar) A
theorem fill_snoc (ar : Nat) (l : List Nat) (v : Nat) (A : Nat → Nat) : fill ar (l ++ [v]) A = fillStep ar (fill ar l A) v := by simp [fill]
theorem fillStep_small {ar v : Nat} {A : Nat → Nat} (h : Small A) (ha : ar < 18446744073709551616) : Small (fillStep ar A v) := h.upd (or_lt (h v) (bclr_lt v ha))
theorem fillStep_irr {ar v : Nat} {A : Nat → Nat} (h : Irr A) (hv : v < 64) : Irr (fillStep ar A v) := by
  intro u hu
  unfold fillStep
  by_cases e : u = v
  · subst e
    rw [upd_same, Nat.testBit_or, h u hu, bclr_bit _ _ _ hu hu]
    simp
  · rw [upd_other _ _ e]; exact h u hu
theorem fill_small {ar : Nat} (ha : ar < 18446744073709551616) : ∀ (l : List Nat) {A : Nat → Nat}, Small A → Small (fill ar l A)
  | [], _, h => h
  | v :: l, A, h => by
    simp only [fill, List.foldl_cons]
    exact fill_small ha l (fillStep_small h ha)
theorem fill_irr {ar : Nat} : ∀ (l : List Nat) {A : Nat → Nat}, (∀ v ∈ l, v < 64) → Irr A → Irr (fill ar l A)
  | [], _, _, h => h
  | v :: l, A, hl, h => by
    simp only [fill, List.foldl_cons]
    exact fill_irr l (fun u hu => hl u (by simp [hu])) (fillStep_irr h (hl v (by simp)))
/-- One elimination: the adjacency and what is left. -/
def elim (A : Nat → Nat) (rest : Nat) : (Nat → Nat) × Nat :=
  let b := (minOf A rest (verts rest)).1.toNat
  (fill (A b &&& rest) (verts (A b &&& rest)) A, bclr rest b)
def extFrom : Nat → (Nat → Nat) → Nat → (Nat → Nat)
  | 0, A, _ => A
  | f + 1, A, rest => if rest = 0 then A else extFrom f (elim A rest).1 (elim A rest).2
def extend (A : Nat → Nat) (n : Nat) : Nat → Nat := extFrom 65 A (firstN n)
theorem bclr_less {s i : Nat} (hi : i < 64) (h : s.testBit i = true) : bclr s i < s ∧ size (bclr s i) < size s := by
  have hne : bclr s i ≠ s := by
    intro e
    have := congrArg (fun x => x.testBit i) e
    simp only [bclr_bit _ _ _ hi hi, h] at this
    simp at this
  have hle : bclr s i ≤ s := by unfold bclr andn; exact Nat.and_le_left
  refine ⟨by omega, ?_⟩
  unfold size verts
  have : ∀ (l : List Nat), (∀ x ∈ l, x < 64) → i ∈ l → (l.filter (bclr s i).testBit).length < (l.filter s.testBit).length := by
    intro l hl hm
    have hall : ∀ (l : List Nat), (∀ x ∈ l, x < 64) → (l.filter (bclr s i).testBit).length ≤ (l.filter s.testBit).length := by
      intro l hl
      induction l with
      | nil => simp
      | cons x l ih =>
        have ih := ih (fun y hy => hl y (by simp [hy]))
        have hx := hl x (by simp)
        by_cases h1 : (bclr s i).testBit x = true
        · have h2 : s.testBit x = true := by rw [bclr_bit _ _ _ hi hx] at h1; simp at h1; exact h1.1
          simp [h1, h2]; omega
        · by_cases h2 : s.testBit x = true <;> simp [h1, h2] <;> omega
    induction l with
    | nil => simp at hm
    | cons x l ih =>
      by_cases e : x = i
      · subst e
        have h1 : (bclr s x).testBit x = false := by rw [bclr_bit _ _ _ hi hi]; simp
        have := hall l (fun y hy => hl y (by simp [hy]))
        simp [h1, h]; omega
      · have ih := ih (fun y hy => hl y (by simp [hy])) ((List.mem_cons.1 hm).resolve_left (fun e2 => e e2.symm))
        have hx := hl x (by simp)
        have : (bclr s i).testBit x = s.testBit x := by
          rw [bclr_bit _ _ _ hi hx]; simp; intro _ e2; exact e e2.symm
        by_cases h2 : s.testBit x = true <;> simp [this, h2] <;> omega
  exact this (List.range 64) (fun x hx => by simpa using hx) (by simpa using hi)
end Go.Gr
end
section
/- Chordal and Extend. -/
namespace Go.Gr
theorem readAll_small (es : List (Int × Int)) (n : Int) (h : valid n es) : Small (readAll es) ∧ Irr (readAll es) := by
  obtain ⟨_, hn, hv⟩ := h
  have : ∀ k, k ≤ es.length → Small (readAll (es.take k)) ∧ Irr (readAll (es.take k)) := by
    intro k
    induction k with
    | zero => exact fun _ => ⟨by simp [readAll]; exact Small.zero, by simp [readAll]; exact Irr.zero⟩
    | succ k ih =>
      intro hk
      obtain ⟨h1, h2⟩ := ih (by omega)
      obtain ⟨⟨g1, g2, g3⟩, _⟩ := hv k (by omega) (by omega)
      have e : readAll (es.take (k + 1)) = connect (readAll (es.take k)) es[k].1.toNat es[k].2.toNat := by
        unfold readAll
        rw [List.take_succ_eq_append_getElem (by omega), List.foldl_append]
        rfl
      rw [e]
      exact ⟨h1.connect (by omega) (by omega), h2.connect (by omega)⟩
  have := this es.length (Nat.le_refl _)
  rwa [List.take_length] at this
end Go.Gr
namespace Go.Proofs.Tg.Gx
open Go.RowKit Go.Gr
set_option maxHeartbeats 1000000
set_option maxRecDepth 100000
/-- A row that is stored whole into a new variable. -/
theorem blk_setRow {w : World} {g : Nat} {t : TypeId} {old : Array Value} (h : Blk w g t old) (cs : Array Value) : Blk (w.setRow g cs) g t cs := setRow_heap w g old cs t (0, 0) h
theorem blk_setRow_far {w : World} {g g' : Nat} {t : TypeId} {cs' : Array Value} (h : Blk w g t cs') (hne : g ≠ g') (cs : Array Value) : Blk (w.setRow g' cs) g t cs' := (setRow_other w g' g cs hne).trans h
end Go.Proofs.Tg.Gx
end
section
/- Make. -/
namespace Go.Gr
def inR (n : Int) (e : Int × Int) : Prop := 0 ≤ e.1 ∧ e.1 < n ∧ 0 ≤ e.2 ∧ e.2 < n
def rangeOk (n : Int) (es : List (Int × Int)) : Prop := (0 ≤ n ∧ n ≤ 64) ∧ ∀ e ∈ es, inR n e
end Go.Gr
namespace Go.Proofs.Tg.Gx
open Go.RowKit Go.Gr
set_option maxHeartbeats 2000000
set_option maxRecDepth 100000
theorem results_g {fn : Func} {p q : Tmp} (h : fn.results = #[.cell p 30, .tmp q]) (tmps : Array Value) (w : World) (g : Nat) (a b : Value)
    (hp : tmps.getD p undef = .pointer (some ⟨g, 0, none⟩)) (hg : Blk w g 30 #[a, b]) :
    (results fn tmps).run Tryz.prog w = .ok (.tuple #[.agg #[a, b], tmps.getD q undef]) w := by
  have hp' : tmps[p]?.getD undef = .pointer (some ⟨g, 0, none⟩) := by simpa using hp
  have hi : (Tryz.prog.info? 30).map (·.size) = some (#[a, b] : Array Value).size := by
    show _ = some 2
    kernel_rfl
  simp [results, h, hp', asAddr, run_loadVar_row w g 30 30 #[a, b] (0, 0) _ hg Tryz.underlying30 rfl hi]
theorem blk_two {w : World} {g : Nat} {a b c d : Value} (h : Blk w g 30 #[a, b]) : Blk ((w.setCell ⟨g, 0, none⟩ c).setCell ⟨g, 1, none⟩ d) g 30 #[c, d] := by
  have := (h.set 0 c).set 1 d
  simpa using this
def zeroG : Value := .agg #[.int .i64 0, .slice none 0 0]
def RetMake (n : Int) (es : List (Int × Int)) (w : World) (e : Ending) (w' : World) : Prop :=
  (¬ rangeOk n es ∧ e = .returned (.tuple #[zeroG, .int .i64 3]) ∧ Below w.heap.size w w') ∨
  (rangeOk n es ∧ (∃ x ∈ es, x.1 = x.2) ∧ e = .returned (.tuple #[zeroG, .int .i64 1]) ∧ Below w.heap.size w w') ∨
  (rangeOk n es ∧ (∀ x ∈ es, x.1 ≠ x.2) ∧ ∃ F d, e = .returned (.tuple #[.agg #[.int .i64 n, .slice F (writeEdges (readAll es) n.toNat).length d], .int .i64 0]) ∧
    w'.ownsRow w.heap.size 94 2 (.slice F (writeEdges (readAll es) n.toNat).length d) (writeEdges (readAll es) n.toNat).length (ecells (writeEdges (readAll es) n.toNat)) ∧ Below w.heap.size w w')
theorem make_any (n : Int) (E : Option Addr) (c : Nat) (es : List (Int × Int)) (w : World) (hE : EdgesAt w E es) (hl : es.length ≤ 1000000) (hT : Tab w) :
    Calls Tryz.prog 40 #[.int .i64 n, .slice E es.length c] w (RetMake n es w) := by
  by_cases hn : 0 ≤ n ∧ n ≤ 64
  · have d1 : decide (n < 0) = false := by simp; omega
    have d2 : decide (64 < n) = false := by simp; omega
    obtain ⟨hn0, hn1⟩ := hn
    go_enter Tryz.func40, Tryz.ntmps40
    go_wp2
    go_loopw [20] (fun i wr => ∃ k : Nat, i = .int .i64 k ∧ k ≤ es.length ∧ Blk wr w.heap.size 30 #[.int .i64 0, .slice none 0 0] ∧ Hid (∀ e ∈ es.take k, inR n e) ∧ Below w.heap.size w wr) (fun i _ => es.length - (intOf i).toNat)
    case atStart => exact ⟨0, rfl, Nat.zero_le _, Blk.new _ _ _, Lib.hid (by simp), (Below.refl _ _).alloc (Nat.le_refl _) _⟩
    case round =>
      obtain ⟨k, rfl, hk, hB, HI, hb⟩ := hrel
      have hbl := hb.size
      by_cases hkl : k < es.length
      · obtain ⟨ad, rfl, hc1, hc2⟩ := EdgesAt.at (hE.keep hb) hkl
        have HM : Hid (es[k] ∈ es) := Lib.hid (List.getElem_mem _)
        have HT2 : Hid (es.take (k + 1) = es.take k ++ [es[k]]) := Lib.hid (List.take_succ_eq_append_getElem hkl)
        obtain ⟨x, y, hp⟩ : ∃ x y, es[k] = (x, y) := ⟨_, _, rfl⟩
        rw [hp] at hc1 hc2 HM HT2
        clear hp
        simp only at hc1 hc2
        have b0 := hB.cell 0
        have b1 := hB.cell 1
        have f0 := hB.frozen 0
        have f1 := hB.frozen 1
        simp at b0 b1
        have hlB := Blk.lt hB
        by_cases hin : inR n (x, y)
        · have HIN := Lib.hid hin
          obtain ⟨p1, p2, p3, p4⟩ := hin
          simp only at p1 p2 p3 p4
          rcases Int.lt_or_le x y with hxy | hxy
          all_goals go_wp2
          all_goals
            go_roundw
            case rel =>
              refine ⟨k + 1, by go_num, by omega, hB.alloc _, Lib.hid ?_, hb.alloc hbl _⟩
              rw [HT2.out]
              intro e he
              rcases List.mem_append.1 he with h | h
              · exact HI.out e h
              · simp at h; subst h; exact HIN.out
            case measure => simp [intOf]; omega
        · have HBAD : Hid (¬ rangeOk n es) := Lib.hid (fun h => hin (h.2 _ HM.out))
          have hcase : (x < y ∧ x < 0) ∨ (x < y ∧ 0 ≤ x ∧ n ≤ y) ∨ (y ≤ x ∧ y < 0) ∨ (y ≤ x ∧ 0 ≤ y ∧ n ≤ x) := by
            unfold inR at hin
            simp only at hin
            omega
          clear hin
          rcases hcase with ⟨p1, p2⟩ | ⟨p1, p2, p3⟩ | ⟨p1, p2⟩ | ⟨p1, p2, p3⟩
          all_goals go_wp2
          all_goals
            refine bodyPost_ret (v := .tuple #[zeroG, .int .i64 3]) (results_g (p := 4) (q := 5) rfl _ _ w.heap.size _ _ rfl ((blk_two hB).alloc _)) rfl ?_
            exact .inl ⟨HBAD.out, rfl, ((hb.setCell (by simp) _).setCell (by simp) _).alloc (by simpa [World.setCell] using hbl) _⟩
      · obtain rfl : k = es.length := by omega
        have HOK : Hid (rangeOk n es) := Lib.hid ⟨⟨hn0, hn1⟩, by have := HI.out; rwa [List.take_length] at this⟩
        clear HI
        obtain ⟨nn, rfl⟩ := Int.eq_ofNat_of_zero_le hn0
        have hnn : nn ≤ 64 := by omega
        obtain ⟨wo, rfl⟩ : ∃ wo : World, wo = wr := ⟨_, rfl⟩
        go_wp2_with (refine adj_alloc _ _ _ _ ?_)
        go_loopw [43] (fun i wr => ∃ (k : Nat) (A : Nat → Nat), i = .int .i64 k ∧ k ≤ es.length ∧ Blk wr w.heap.size 30 #[.int .i64 0, .slice none 0 0] ∧ AdjAt wr wo.heap.size A ∧ Small A ∧ Hid (A = readAll (es.take k)) ∧ Hid (∀ e ∈ es.take k, e.1 ≠ e.2) ∧ Below w.heap.size w wr) (fun i _ => es.length - (intOf i).toNat)
        case atStart => exact ⟨0, fun _ => 0, rfl, Nat.zero_le _, hB.alloc _, Blk.new _ _ _, Small.zero, Lib.hid (by simp [readAll]), Lib.hid (by simp), hb.alloc hbl _⟩
        case round =>
          have hlB := Blk.lt hB
          clear hB hb
          obtain ⟨k, A, rfl, hk, hB, hA, hS, HA, HI, hb⟩ := hrel
          have hbl2 := hb.size
          have hAl := Blk.lt hA
          have hlB2 := Blk.lt hB
          by_cases hkl : k < es.length
          · obtain ⟨ad, rfl, hc1, hc2⟩ := EdgesAt.at (hE.keep hb) hkl
            have HM : Hid (es[k] ∈ es) := Lib.hid (List.getElem_mem _)
            have HT2 : Hid (es.take (k + 1) = es.take k ++ [es[k]]) := Lib.hid (List.take_succ_eq_append_getElem hkl)
            have HA2 : Hid (readAll (es.take (k + 1)) = connect (readAll (es.take k)) es[k].1.toNat es[k].2.toNat) := Lib.hid (readAll_succ hkl)
            have hin := HOK.out.2 _ (List.getElem_mem hkl)
            obtain ⟨x, y, hp⟩ : ∃ x y, es[k] = (x, y) := ⟨_, _, rfl⟩
            rw [hp] at hc1 hc2 HM HT2 HA2 hin
            clear hp
            obtain ⟨p1, p2, p3, p4⟩ := hin
            simp only at hc1 hc2 p1 p2 p3 p4
            obtain ⟨i, rfl⟩ := Int.eq_ofNat_of_zero_le p1
            obtain ⟨j, rfl⟩ := Int.eq_ofNat_of_zero_le p3
            have b0 := hB.cell 0
            have b1 := hB.cell 1
            have f0 := hB.frozen 0
            have f1 := hB.frozen 1
            simp at b0 b1
            by_cases hij : i = j
            · subst hij
              have HBAD : Hid (∃ x ∈ es, x.1 = x.2) := Lib.hid ⟨_, HM.out, rfl⟩
              go_wp2
              refine bodyPost_ret (v := .tuple #[zeroG, .int .i64 1]) (results_g (p := 4) (q := 5) rfl _ _ w.heap.size _ _ rfl ((blk_two hB).alloc _)) rfl ?_
              exact .inr (.inl ⟨HOK.out, HBAD.out, rfl, ((hb.setCell (by simp) _).setCell (by simp) _).alloc (by simpa [World.setCell] using hbl2) _⟩)
            · have hbe : (((i : Nat) : Int) == ((j : Nat) : Int)) = false := by simp; omega
              have HIJ := Lib.hid hij
              have hA2 := Blk.alloc hA (.cells #[.int .i64 i, .int .i64 j] 94)
              have HC := Lib.hid (connect_any wo.heap.size i j A (wr.alloc (.cells #[.int .i64 i, .int .i64 j] 94)) hA2 hS (by omega) (by omega))
              clear hij hA2
              go_wp2_with (go_at_call 47; refine HC.out.mono ?_; rintro e w1 ⟨rfl, hA1, hg1⟩)
              go_roundw
              case rel =>
                refine ⟨k + 1, connect A i j, by go_num, by omega, (hB.alloc _).grown hg1 (fun h => by injection h with h; omega), hA1, hS.connect (by omega) (by omega), Lib.hid ?_, Lib.hid ?_, (hb.alloc hbl2 _).grown hg1 (by simp; omega) (fun q hq => by injection hq with hq; omega)⟩
                · rw [HA2.out, ← HA.out]; rfl
                · rw [HT2.out]
                  intro e he
                  rcases List.mem_append.1 he with h | h
                  · exact HI.out e h
                  · simp at h; subst h; have := HIJ.out; simp; omega
              case measure => simp [intOf]; omega
          · obtain rfl : k = es.length := by omega
            have HA2 : Hid (A = readAll es) := Lib.hid (by rw [HA.out, List.take_length])
            have HI2 : Hid (∀ e ∈ es, e.1 ≠ e.2) := Lib.hid (by have := HI.out; rwa [List.take_length] at this)
            have d0 := hB.cell 0
            have d1 := hB.cell 1
            have f0 := hB.frozen 0
            have f1 := hB.frozen 1
            simp at d0 d1
            clear HA HI
            go_wp2_with (go_at_call 62; refine (write_any wo.heap.size nn A wr hA hS hnn (hT.below hb hT.1)).mono ?_; rintro e w2 ⟨F, d, rfl, hFd, hF, hb2⟩
                         have e0 := keep_cell hb2 d0
                         have e1 := keep_cell hb2 d1
                         have g0 := (hb2.frozen (p := ⟨w.heap.size, 0, none⟩) (Blk.lt hB)).trans f0
                         have g1 := (hb2.frozen (p := ⟨w.heap.size, 1, none⟩) (Blk.lt hB)).trans f1)
            refine bodyPost_ret (v := .tuple #[.agg #[.int .i64 nn, .slice F (writeEdges A nn).length d], .int .i64 0]) (by simp [results, Tryz.results40, go_sem, e0, e1]) rfl ?_
            refine .inr (.inr ⟨HOK.out, HI2.out, F, d, ?_, ?_, ((below_all hb hb2).setCell (by simp) _).setCell (by simp) _⟩)
            · rw [← HA2.out]; rfl
            · rw [← HA2.out]
              have hlo : w.heap.size < wr.heap.size := Blk.lt hB
              exact own_base (ownsRow_setCell_below (ownsRow_setCell_below hF (by simpa using hlo) _) (by simpa using hlo) _) (by omega)
  · have HBAD : Hid (¬ rangeOk n es) := Lib.hid (fun h => hn h.1)
    by_cases h1 : n < 0
    · have d1 : decide (n < 0) = true := by simpa using h1
      clear hn
      go_enter Tryz.func40, Tryz.ntmps40
      go_wp2
      refine bodyPost_ret (v := .tuple #[zeroG, .int .i64 3]) (by simp [results, Tryz.results40, go_sem, zeroG]) rfl ?_
      exact .inl ⟨HBAD.out, rfl, (Below.refl _ _).alloc (Nat.le_refl _) _⟩
    · have d1 : decide (n < 0) = false := by simpa using h1
      have d2 : decide (64 < n) = true := by simp; omega
      clear hn
      go_enter Tryz.func40, Tryz.ntmps40
      go_wp2
      refine bodyPost_ret (v := .tuple #[zeroG, .int .i64 3]) (by simp [results, Tryz.results40, go_sem, zeroG]) rfl ?_
      exact .inl ⟨HBAD.out, rfl, (Below.refl _ _).alloc (Nat.le_refl _) _⟩
end Go.Proofs.Tg.Gx
end
section
/- The reference's tables: a slice of rows of truth values, each row a block of its own. -/
namespace Go.Proofs.Tg.Gx
open Go.RowKit Go.Gr
/-- A row of n cells, told by a function. -/
def farr (n : Nat) (f : Nat → Value) : Array Value := ((List.range n).map f).toArray
theorem farr_size (n : Nat) (f : Nat → Value) : (farr n f).size = n := by simp [farr]
theorem farr_at (n : Nat) (f : Nat → Value) {i : Nat} (hi : i < n) : (farr n f)[i]? = some (f i) := by simp [farr, hi]
theorem farr_set (n : Nat) (f : Nat → Value) (i : Nat) (v : Value) : (farr n f).setIfInBounds i v = farr n (fun k => if k = i then v else f k) := by
  apply Array.ext
  · simp [farr]
  · intro k h1 h2
    rw [Array.getElem_setIfInBounds (by simpa using h1)]
    simp only [farr, List.getElem_toArray, List.getElem_map, List.getElem_range]
    by_cases hk : i = k
    · subst hk; simp
    · rw [if_neg hk, if_neg (fun e => hk e.symm)]
theorem farr_made (z : Value) (n : Nat) : madeCells #[z] n = farr n (fun _ => z) := by
  apply Array.ext
  · simp [farr, size_madeCells]
  · intro i h1 h2
    simp [madeCells, farr, Nat.mod_one]
theorem farr_congr {n : Nat} {f g : Nat → Value} (h : ∀ i, i < n → f i = g i) : farr n f = farr n g := by
  unfold farr
  rw [List.map_congr_left (fun i hi => h i (by simpa using hi))]
theorem brow_info : (Tryz.prog.info? 98).map (fun i => (i.zero, i.size, i.bytes)) = some (some (.slice none 0 0), 1, 24) := by kernel_rfl
theorem bool_info : (Tryz.prog.info? 4).map (fun i => (i.zero, i.size, i.bytes)) = some (some (.bool false), 1, 1) := by kernel_rfl
theorem make_table (n : Nat) (hn : n ≤ 1000000) (w : World) : (Instr.makeSlice 70 (.int .i64 (n : Int)) (.int .i64 (n : Int))).run Tryz.prog w = .ok (.slice (some ⟨w.heap.size, 0, none⟩) n n) (w.alloc (.cells (farr n fun _ => .slice none 0 0) 98)) := by
  obtain ⟨i0, hi, hz0, hz1, hz2⟩ := info_parts brow_info
  have hr := run_make (P := Tryz.prog) w 70 98 i0 (.slice none 0 0) Tryz.underlying70 hi hz0 .i64 .i64 n n (by omega) (by omega) (by rw [hz2]; omega) (by omega)
  rw [hz1, Nat.mul_one, Int.toNat_natCast, show (Value.slice none 0 0).cells = #[.slice none 0 0] from rfl, farr_made] at hr
  exact hr
theorem make_bools (n : Nat) (hn : n ≤ 1000000) (w : World) : (Instr.makeSlice 98 (.int .i64 (n : Int)) (.int .i64 (n : Int))).run Tryz.prog w = .ok (.slice (some ⟨w.heap.size, 0, none⟩) n n) (w.alloc (.cells (farr n fun _ => .bool false) 4)) := by
  obtain ⟨i0, hi, hz0, hz1, hz2⟩ := info_parts bool_info
  have hr := run_make (P := Tryz.prog) w 98 4 i0 (.bool false) Tryz.underlying98 hi hz0 .i64 .i64 n n (by omega) (by omega) (by rw [hz2]; omega) (by omega)
  rw [hz1, Nat.mul_one, Int.toNat_natCast, show (Value.bool false).cells = #[.bool false] from rfl, farr_made] at hr
  exact hr
def rowV (g n i : Nat) : Value := .slice (some ⟨g + 1 + i, 0, none⟩) n n
/-- The table at block g, its rows in the next n blocks. -/
structure TableAt (w : World) (g n : Nat) (t : Nat → Nat → Bool) : Prop where
  head : Blk w g 98 (farr n (rowV g n))
  row : ∀ i, i < n → Blk w (g + 1 + i) 4 (farr n fun j => .bool (t i j))
set_option maxHeartbeats 1000000
set_option maxRecDepth 100000
theorem blank_any (n : Nat) (w : World) (hn : n ≤ 1000000) :
    Calls Tryz.prog 43 #[.int .i64 n] w fun e w' => e = .returned (.slice (some ⟨w.heap.size, 0, none⟩) n n) ∧ TableAt w' w.heap.size n (fun _ _ => false) ∧ Below w.heap.size w w' := by
  have m1 := fun W => make_table n hn W
  have m2 := fun W => make_bools n hn W
  go_enter Tryz.func43, Tryz.ntmps43
  go_wp2
  go_loopw [4] (fun i wr => ∃ k : Nat, i = .int .i64 k ∧ k ≤ n ∧ Hid (wr.heap.size = w.heap.size + 1 + k) ∧ Blk wr w.heap.size 98 (farr n fun i => if i < k then rowV w.heap.size n i else .slice none 0 0) ∧ (∀ i, i < k → Blk wr (w.heap.size + 1 + i) 4 (farr n fun _ => .bool false)) ∧ Below w.heap.size w wr) (fun i _ => n - (intOf i).toNat)
  case atStart =>
    refine ⟨0, rfl, Nat.zero_le _, Lib.hid (by simp), ?_, fun i hi => by omega, (Below.refl _ _).alloc (Nat.le_refl _) _⟩
    have := Blk.new w 98 (farr n fun _ => .slice none 0 0)
    rw [show (farr n fun i => if i < 0 then rowV w.heap.size n i else .slice none 0 0) = farr n fun _ => .slice none 0 0 from farr_congr (fun i _ => by simp)]
    exact this
  case round =>
    obtain ⟨k, rfl, hk, HS, hB, hR, hb⟩ := hrel
    have HR := Lib.hid hR
    clear hR
    by_cases hkn : k < n
    · have ck := (hB.cell k).trans (farr_at n _ hkn)
      rw [if_neg (by omega)] at ck
      have fk := hB.frozen k
      have hlt := Blk.lt hB
      have hsz := hb.size
      go_wp2
      go_roundw
      case rel =>
        refine ⟨k + 1, by go_num, by omega, Lib.hid ?_, ?_, ?_, ?_⟩
        · simp [World.setCell]; have := HS.out; omega
        · have := (hB.set k (.slice (some ⟨wr.heap.size, 0, none⟩) n n))
          rw [farr_set, HS.out] at this
          rw [show (farr n fun i => if i < k + 1 then rowV w.heap.size n i else .slice none 0 0) = farr n (fun i => if i = k then .slice (some ⟨w.heap.size + 1 + k, 0, none⟩) n n else if i < k then rowV w.heap.size n i else .slice none 0 0) from farr_congr (fun i _ => by
            by_cases h1 : i = k
            · subst h1; simp [rowV]
            · by_cases h2 : i < k
              · simp [h1, h2]; omega
              · simp [h1, h2]; omega)]
          rw [HS.out]
          first | exact this.alloc _ | exact this
        · intro i hi
          by_cases h1 : i = k
          · subst h1
            have := Blk.new (wr.setCell ⟨w.heap.size, i, none⟩ (.slice (some ⟨wr.heap.size, 0, none⟩) n n)) 4 (farr n fun _ => .bool false)
            rw [show (wr.setCell ⟨w.heap.size, i, none⟩ (.slice (some ⟨wr.heap.size, 0, none⟩) n n)).heap.size = w.heap.size + 1 + i from by simp [World.setCell]; exact HS.out] at this
            exact this
          · exact ((HR.out i (by omega)).far (by simp; omega) _).alloc _
        · exact (hb.setCell (by simp) _).alloc (by simp [World.setCell]; omega) _
      case measure => simp [intOf]; omega
    · obtain rfl : k = n := by omega
      go_wp2
      go_ret
      refine ⟨rfl, ⟨?_, HR.out⟩, hb⟩
      rw [show farr k (rowV w.heap.size k) = farr k fun i => if i < k then rowV w.heap.size k i else .slice none 0 0 from farr_congr (fun i hi => by rw [if_pos hi])]
      exact hB
end Go.Proofs.Tg.Gx
end
section
/- The reference's Write. -/
namespace Go.Gr
/-- The edges of row i of a table to vertices from i + 1 to j - 1. -/
def rowT (t : Nat → Nat → Bool) (i j : Nat) : List (Int × Int) := ((List.range j).filter fun k => decide (i < k) && t i k).map fun k : Nat => ((i : Int), (k : Int))
def tableEdges (t : Nat → Nat → Bool) (n m : Nat) : List (Int × Int) := (List.range m).flatMap fun i => rowT t i n
theorem rowT_succ (t : Nat → Nat → Bool) (i j : Nat) : rowT t i (j + 1) = rowT t i j ++ if i < j ∧ t i j = true then [((i : Int), (j : Int))] else [] := by
  unfold rowT
  rw [List.range_succ, List.filter_append, List.map_append]
  by_cases h : i < j ∧ t i j = true
  · rw [if_pos h]; simp [h.1, h.2]
  · rw [if_neg h]
    congr 1
    have : (decide (i < j) && t i j) = false := by
      by_cases h1 : i < j
      · have : t i j = false := by
          cases hh : t i j
          · rfl
          · exact absurd ⟨h1, hh⟩ h
        simp [this]
      · simp [h1]
    simp [this]
theorem rowT_start (t : Nat → Nat → Bool) (i : Nat) : rowT t i (i + 1) = [] := by
  unfold rowT
  rw [List.map_eq_nil_iff, List.filter_eq_nil_iff]
  intro k hk
  have : k < i + 1 := by simpa using hk
  simp; intro h; omega
theorem tableEdges_succ (t : Nat → Nat → Bool) (n m : Nat) : tableEdges t n (m + 1) = tableEdges t n m ++ rowT t m n := by simp [tableEdges, List.range_succ]
end Go.Gr
namespace Go.Proofs.Tg.Gx
open Go.RowKit Go.Gr
set_option maxHeartbeats 2000000
set_option maxRecDepth 100000
theorem rwrite_any (g n : Nat) (t : Nat → Nat → Bool) (w : World) (hA : TableAt w g n t) (hn : n ≤ 64) :
    Calls Tryz.prog 24 #[.slice (some ⟨g, 0, none⟩) n n] w (RetGraph n (tableEdges t n n) w) := by
  obtain ⟨i0, hi, hz0, hz1, hz2⟩ := info_parts pair_info
  have hgl := Blk.lt hA.head
  go_enter Tryz.func24, Tryz.ntmps24
  go_wp2
  go_loopw [4] (fun i wr => ∃ (k : Nat) (E : Option Addr) (c : Nat) (es : List (Int × Int)), i = .int .i64 k ∧ k ≤ n ∧ Blk wr w.heap.size 30 #[.int .i64 0, .slice none 0 0] ∧ Blk wr (w.heap.size + 1) 30 #[.int .i64 n, .slice E es.length c] ∧
      wr.ownsRow (w.heap.size + 2) 94 2 (.slice E es.length c) es.length (ecells es) ∧ es.length ≤ c ∧ es.length ≤ 64 * k ∧ Hid (es = tableEdges t n k) ∧ Below w.heap.size w wr) (fun i _ => n - (intOf i).toNat)
  case atStart =>
    refine ⟨0, none, 0, [], rfl, Nat.zero_le _, ?_, ?_, World.ownsRow_nil _ _ _ _, by simp, by simp, Lib.hid (by simp [tableEdges]), ?_⟩
    · exact Blk.alloc (Blk.new _ _ _) _
    · have := Blk.new (w.alloc (Obj.cells #[Value.int IntKind.i64 0, Value.slice none 0 0] 30)) 30 #[Value.int IntKind.i64 ↑n, Value.slice none 0 0]
      simpa using this
    · exact ((Below.refl _ _).alloc (Nat.le_refl _) _).alloc (by simp) _
  case round =>
    obtain ⟨wo, rfl⟩ : ∃ wo : World, wo = wr := ⟨_, rfl⟩
    obtain ⟨k, E, c, es, rfl, hk, hb4, hb5, hown, hec, hel, HE, hb⟩ := hrel
    by_cases hlt : k < n
    · have hkb : decide ((k : Int) < (n : Int)) = true := by simp; omega
      have hrl := Blk.lt (hA.row k hlt)
      go_wp2
      go_loopw [5] (fun j wr => ∃ (i : Nat) (E2 : Option Addr) (c2 : Nat) (fs : List (Int × Int)), j = .int .i64 i ∧ k + 1 ≤ i ∧ i ≤ n ∧ Blk wr w.heap.size 30 #[.int .i64 0, .slice none 0 0] ∧ Blk wr (w.heap.size + 1) 30 #[.int .i64 n, .slice E2 fs.length c2] ∧
          wr.ownsRow (w.heap.size + 2) 94 2 (.slice E2 fs.length c2) fs.length (ecells fs) ∧ fs.length ≤ c2 ∧ fs.length + 1 ≤ 64 * k + i ∧ Hid (fs = es ++ rowT t k i) ∧ Below w.heap.size w wr) (fun j _ => n - (intOf j).toNat)
      case atStart => exact ⟨k + 1, E, c, es, by go_num, by omega, by omega, hb4, hb5, hown, hec, by omega, Lib.hid (by rw [rowT_start, List.append_nil]), hb⟩
      case round =>
        clear hb4 hb5 hown hb
        obtain ⟨i, E2, c2, fs, rfl, hi1, hi2, hb4, hb5, hown, hfc, hfl, HF, hb⟩ := hrel
        by_cases hil : i < n
        · have hib : decide ((i : Int) < (n : Int)) = true := by simp; omega
          have hck := ((hA.head.keep hb hgl).cell k).trans (farr_at n _ hlt)
          have hci := (((hA.row k hlt).keep hb hrl).cell i).trans (farr_at n _ hil)
          unfold rowV at hck
          have HS := Lib.hid (rowT_succ t k i)
          have h51 := hb5.cell 1
          have f51 := hb5.frozen 1
          simp at h51
          have hszx := hb.size
          have hl5 := hb5.lt
          cases hti : t k i
          · rw [hti] at hci
            have HF2 : Hid (fs = es ++ rowT t k (i + 1)) := Lib.hid (by rw [HS.out, if_neg (by simp [hti]), List.append_nil]; exact HF.out)
            clear HF HS hti
            go_wp2
            go_roundw
            case rel => exact ⟨i + 1, E2, c2, fs, by go_num, by omega, by omega, hb4, hb5, hown, hfc, by omega, HF2, hb⟩
            case measure => simp [intOf]; omega
          · rw [hti] at hci
            have HF2 : Hid (fs ++ [((k : Int), (i : Int))] = es ++ rowT t k (i + 1)) := Lib.hid (by rw [HS.out, if_pos ⟨by omega, hti⟩, ← List.append_assoc, ← HF.out])
            clear HF HS hti
            have hne := own_blk_ne hown hb5 (by decide)
            have hne4 := own_blk_ne hown hb4 (by decide)
            have HB := Lib.hid (And.intro hb4 hb5)
            go_wp2_with (at_builtin; refine wpList_append_own_at _ rfl _ _ 28 rfl (w.heap.size + 2) 94 i0 (.agg #[.int .i64 0, .int .i64 0]) 2 16 Tryz.underlying28 hi hz0 hz1 hz2 rfl (by decide) (.slice E2 fs.length c2) _ _ rfl (hown.alloc _) ⟨wr.heap.size, 0, none⟩ 1 1 [.int .i64 k, .int .i64 i] rfl rfl ?c1 ?c2 ?c3 ?c4 ?c5 ?_
                         case c1 => exact cell_two_new' _ _ _ _
                         case c2 => simp [Value.oneCell']
                         case c3 => simp only [maxLen]; omega
                         case c4 => omega
                         case c5 => simp; omega
                         intro v' w1 hown1 hg1 _ _
                         obtain ⟨E3, c3, hv, hle3, _⟩ := Sl.of_own hown1
                         subst hv
                         have k51 := (Blk.grown (Blk.alloc HB.out.2 _) hg1 hne).cell 1
                         have g51 := (Blk.grown (Blk.alloc HB.out.2 _) hg1 hne).frozen 1
                         simp at k51)
            have hlen : (fs ++ [((k : Int), (i : Int))]).length = fs.length + 1 := by simp
            have B5 := Blk.grown (Blk.alloc HB.out.2 _) hg1 hne
            have B4 := Blk.grown (Blk.alloc HB.out.1 _) hg1 hne4
            go_roundw
            case rel =>
              refine ⟨i + 1, E3, c3, fs ++ [((k : Int), (i : Int))], by go_num, by omega, by omega, B4.far (by simp) _, ?_, ?_, by rw [hlen]; exact hle3, by rw [hlen]; omega, HF2, ?_⟩
              · have := B5.set 1 (.slice E3 (fs.length + 1) c3)
                rw [hlen]
                simpa using this
              · rw [hlen, ecells_app]
                exact own_far hown1 (own_blk_ne hown1 B5 (by decide)) _
              · exact ((hb.alloc hb.size _).grown hg1 (by simp; omega) (fun j hj => by have := (hown.lt j hj).1; omega)).setCell (by simp) _
            case measure => simp [intOf]; omega
        · have hib : decide ((i : Int) < (n : Int)) = false := by simp; omega
          obtain rfl : i = n := by omega
          go_wp2
          go_roundw
          case rel => exact ⟨k + 1, E2, c2, fs, by go_num, by omega, hb4, hb5, hown, hfc, by omega, Lib.hid (by rw [HF.out, tableEdges_succ, HE.out]), hb⟩
          case measure => simp [intOf]; omega
    · obtain rfl : k = n := by omega
      have h40 := hb4.cell 0
      have h41 := hb4.cell 1
      have f40 := hb4.frozen 0
      have f41 := hb4.frozen 1
      have h50 := hb5.cell 0
      have h51 := hb5.cell 1
      simp at h40 h41 h50 h51
      go_wp2
      refine bodyPost_ret (v := .agg #[.int .i64 k, .slice E es.length c]) (by simp [results, Tryz.results24, go_sem, h40, h41]) rfl ?_
      rw [← HE.out]
      exact ⟨E, c, rfl, hec, own_base (ownsRow_setCell_below (ownsRow_setCell_below hown (by simp) _) (by simp) _) (by omega), (hb.setCell (by simp) _).setCell (by simp) _⟩
end Go.Proofs.Tg.Gx
end
section
/- The reference's Make. -/
namespace Go.Gr
def setT (t : Nat → Nat → Bool) (a b : Nat) : Nat → Nat → Bool := fun i j => if i = a ∧ j = b then true else t i j
def joinT (t : Nat → Nat → Bool) (a b : Nat) : Nat → Nat → Bool := setT (setT t a b) b a
def readT (es : List (Int × Int)) : Nat → Nat → Bool := es.foldl (fun t e => joinT t e.1.toNat e.2.toNat) (fun _ _ => false)
theorem readT_succ {es : List (Int × Int)} {k : Nat} (hk : k < es.length) : readT (es.take (k + 1)) = joinT (readT (es.take k)) es[k].1.toNat es[k].2.toNat := by
  unfold readT
  rw [List.take_succ_eq_append_getElem hk, List.foldl_append]
  rfl
end Go.Gr
namespace Go.Proofs.Tg.Gx
open Go.RowKit Go.Gr
set_option maxHeartbeats 2000000
set_option maxRecDepth 100000
theorem TableAt.keep {w w' : World} {g n B : Nat} {t : Nat → Nat → Bool} (h : TableAt w g n t) (hb : Below B w w') (hB : w.heap.size ≤ B) : TableAt w' g n t :=
  ⟨h.head.keep hb (Nat.lt_of_lt_of_le h.head.lt hB), fun i hi => (h.row i hi).keep hb (Nat.lt_of_lt_of_le (h.row i hi).lt hB)⟩
theorem TableAt.drew {w : World} {g n : Nat} {t : Nat → Nat → Bool} (h : TableAt w g n t) : TableAt w.drew g n t := ⟨h.head, h.row⟩
theorem TableAt.drewN {w : World} {g n : Nat} {t : Nat → Nat → Bool} (h : TableAt w g n t) (k : Nat) : TableAt (w.drewN k) g n t := ⟨h.head, h.row⟩
theorem TableAt.set {w : World} {g n : Nat} {t : Nat → Nat → Bool} (h : TableAt w g n t) {a b : Nat} (ha : a < n) : TableAt (w.setCell ⟨g + 1 + a, b, none⟩ (.bool true)) g n (setT t a b) := by
  refine ⟨h.head.far (by simp; omega) _, fun i hi => ?_⟩
  by_cases e : i = a
  · subst e
    have := (h.row i hi).set b (.bool true)
    rw [farr_set] at this
    rw [show (farr n fun j => Value.bool (setT t i b i j)) = farr n (fun k => if k = b then Value.bool true else Value.bool (t i k)) from farr_congr (fun j _ => by unfold setT; by_cases hj : j = b <;> simp [hj])]
    exact this
  · have := (h.row i hi).far (p := ⟨g + 1 + a, b, none⟩) (by simp; omega) (.bool true)
    rw [show (farr n fun j => Value.bool (setT t a b i j)) = farr n (fun j => Value.bool (t i j)) from farr_congr (fun j _ => by unfold setT; simp [e])]
    exact this
def RetRMake (n : Int) (es : List (Int × Int)) (w : World) (e : Ending) (w' : World) : Prop :=
  (¬ rangeOk n es ∧ e = .returned (.tuple #[zeroG, .int .i64 3]) ∧ Below w.heap.size w w') ∨
  (rangeOk n es ∧ (∃ x ∈ es, x.1 = x.2) ∧ e = .returned (.tuple #[zeroG, .int .i64 1]) ∧ Below w.heap.size w w') ∨
  (rangeOk n es ∧ (∀ x ∈ es, x.1 ≠ x.2) ∧ ∃ F d, e = .returned (.tuple #[.agg #[.int .i64 n, .slice F (tableEdges (readT es) n.toNat n.toNat).length d], .int .i64 0]) ∧
    w'.ownsRow w.heap.size 94 2 (.slice F (tableEdges (readT es) n.toNat n.toNat).length d) (tableEdges (readT es) n.toNat n.toNat).length (ecells (tableEdges (readT es) n.toNat n.toNat)) ∧ Below w.heap.size w w')
end Go.Proofs.Tg.Gx
end
section
/- Plain law of Make: the edges that the library writes are the edges of the reference's table. -/
namespace Go.Gr
theorem connect_bit (A : Nat → Nat) (a b k m : Nat) : (connect A a b k).testBit m = (decide (k = a ∧ m = b) || decide (k = b ∧ m = a) || (A k).testBit m) := by
  unfold connect upd
  by_cases h1 : k = b
  · subst h1
    by_cases h2 : k = a
    · subst h2
      by_cases h3 : m = k
      · subst h3; simp [bset_bit]
      · have : ¬ k = m := fun e => h3 e.symm
        simp [bset_bit, h3, this]
    · by_cases h3 : m = a
      · subst h3; simp [bset_bit, h2]
      · have : ¬ a = m := fun e => h3 e.symm
        simp [bset_bit, h2, h3, this]
  · by_cases h2 : k = a
    · subst h2
      by_cases h3 : m = b
      · subst h3; simp [bset_bit, h1]
      · have : ¬ b = m := fun e => h3 e.symm
        simp [bset_bit, h1, h3, this]
    · simp [h1, h2]
theorem joinT_at (t : Nat → Nat → Bool) (a b k m : Nat) : joinT t a b k m = (decide (k = a ∧ m = b) || decide (k = b ∧ m = a) || t k m) := by
  unfold joinT setT
  by_cases h1 : k = b ∧ m = a
  · simp [h1]
  · by_cases h2 : k = a ∧ m = b
    · simp [h2]
    · simp [h1, h2]
theorem read_bits (es : List (Int × Int)) (k m : Nat) : (readAll es k).testBit m = readT es k m := by
  unfold readAll readT
  have : ∀ (es : List (Int × Int)) (A : Nat → Nat) (t : Nat → Nat → Bool), (∀ k m, (A k).testBit m = t k m) → ∀ k m, (es.foldl (fun A e => connect A e.1.toNat e.2.toNat) A k).testBit m = es.foldl (fun t e => joinT t e.1.toNat e.2.toNat) t k m := by
    intro es
    induction es with
    | nil => exact fun A t h => h
    | cons e es ih =>
      intro A t h
      simp only [List.foldl_cons]
      exact ih _ _ (fun k m => by rw [connect_bit, joinT_at, h])
  exact this es _ _ (fun k m => by simp) k m
theorem readT_from (es : List (Int × Int)) {k m : Nat} (h : readT es k m = true) : ∃ e ∈ es, (e.1.toNat = k ∧ e.2.toNat = m) ∨ (e.1.toNat = m ∧ e.2.toNat = k) := by
  unfold readT at h
  have : ∀ (es : List (Int × Int)) (t : Nat → Nat → Bool), es.foldl (fun t e => joinT t e.1.toNat e.2.toNat) t k m = true → t k m = true ∨ ∃ e ∈ es, (e.1.toNat = k ∧ e.2.toNat = m) ∨ (e.1.toNat = m ∧ e.2.toNat = k) := by
    intro es
    induction es with
    | nil => exact fun t h => .inl h
    | cons e es ih =>
      intro t h
      simp only [List.foldl_cons] at h
      rcases ih _ h with h1 | ⟨e', he, h1⟩
      · rw [joinT_at] at h1
        simp only [Bool.or_eq_true, decide_eq_true_eq] at h1
        rcases h1 with (h1 | h1) | h1
        · exact .inr ⟨e, by simp, .inl ⟨h1.1.symm, h1.2.symm⟩⟩
        · exact .inr ⟨e, by simp, .inr ⟨h1.2.symm, h1.1.symm⟩⟩
        · exact .inl h1
      · exact .inr ⟨e', by simp [he], h1⟩
  rcases this es _ h with h1 | h1
  · cases h1
  · exact h1
theorem filter_range_le {n N : Nat} (hn : n ≤ N) {p q : Nat → Bool} (h1 : ∀ k, k < n → p k = q k) (h2 : ∀ k, n ≤ k → k < N → p k = false) : (List.range N).filter p = (List.range n).filter q := by
  obtain ⟨d, rfl⟩ := Nat.le.dest hn
  rw [List.range_add, List.filter_append, List.filter_congr (fun x hx => h1 x (by simpa using hx))]
  rw [show ((List.range d).map (n + ·)).filter p = [] from List.filter_eq_nil_iff.2 (fun a ha => by
    obtain ⟨x, hx, rfl⟩ := List.mem_map.1 ha
    have : x < d := by simpa using hx
    simp [h2 (n + x) (by omega) (by omega)])]
  simp
theorem make_edges {n : Int} {es : List (Int × Int)} (h : rangeOk n es) (hne : ∀ e ∈ es, e.1 ≠ e.2) : writeEdges (readAll es) n.toNat = tableEdges (readT es) n.toNat n.toNat := by
  obtain ⟨⟨hn0, hn1⟩, hr⟩ := h
  have hb : ∀ k m, readT es k m = true → m < n.toNat ∧ k ≠ m := by
    intro k m h
    obtain ⟨e, he, h1⟩ := readT_from es h
    have := hr e he
    have := hne e he
    unfold inR at *
    omega
  unfold writeEdges tableEdges
  rw [List.flatMap_def, List.flatMap_def]
  congr 1
  apply List.map_congr_left
  intro i hi
  have hi : i < n.toNat := by simpa using hi
  unfold rowEdges rowT verts
  congr 1
  have hf : firstN i < 18446744073709551616 := by
    unfold firstN
    have := shl_lt i (by omega)
    omega
  apply filter_range_le (by omega)
  · intro k hk
    rw [andn_bit _ _ _ hf (by omega), firstN_bit, read_bits]
    cases hh : readT es i k
    · simp
    · have := (hb i k hh).2
      by_cases hik : i < k
      · simp [hik]; omega
      · simp [hik]; omega
  · intro k h1 h2
    rw [andn_bit _ _ _ hf h2, read_bits]
    cases hh : readT es i k
    · simp
    · have := (hb i k hh).1
      omega
end Go.Gr
end
