/- Parts of the proof: SP1, GWB, GWC, GWD, GWE, GWF, GSpec, GWG, GSpecE, GWP, GXC, GPA, GPC, GSpecT, GPB, GWK, GSort, GWL, GWO, GWN, GWQ, GWR, GXF, GXN. -/
import Derived.Deep.RegionWith
import Derived.Deep.RegionHeld3
import Derived.Deep.DeepCutAuto
import Derived.Maps.AppendAt
import Derived.Laws.Tables
import Derived.IntWalk
import Derived.Laws.MakeOwn
import Derived.Lib.Tables
import Derived.Laws.MathBits
import Derived.Laws.CopyOwn
import Derived.StillTailTactics
import Derived.Test.YtpkompfkhoceoaaGreatDoorMMV0
import Derived.Test.YtpkompfkhoceoaaGreatDoorMMV15
section
/- Rounds of coarser and coarser partitions; the first round behind which nothing changes: plain. -/
namespace Go.Sp
structure Rounds (N : Nat) where
  C : Nat → Nat → Nat → Prop
  B : Nat → List (List Int)
  eqv : ∀ t, Eqv (C t)
  mono : ∀ t a b, C t a b → C (t + 1) a b
  lt : ∀ t a b, a < N → C t a b → b < N
  made : ∀ t, MadeR (C t) N (B t)
section
variable {N : Nat} (R : Rounds N)
theorem Rounds.sub (t : Nat) : ∀ l ∈ R.B t, ∃ m ∈ R.B (t + 1), ∀ x ∈ l, x ∈ m := coarse_sub (R.eqv (t + 1)) (R.mono t) (R.made t) (R.made (t + 1))
end
end Go.Sp
end
section
/- The elements of a set, in a slice. -/
namespace Go.Proofs.Tg.Gx
open Go.RowKit Go.Gr
theorem int_info : (Tryz.prog.info? 3).map (fun i => (i.zero, i.size, i.bytes)) = some (some (.int .i64 0), 1, 8) := by kernel_rfl
set_option maxHeartbeats 1000000
end Go.Proofs.Tg.Gx
end
section
/- The adjacency: 64 sets in a block; connect. -/
namespace Go.Gr
def upd (A : Nat → Nat) (i s : Nat) : Nat → Nat := fun k => if k = i then s else A k
def connect (A : Nat → Nat) (i j : Nat) : Nat → Nat := upd (upd A i (bset (A i) j)) j (bset (upd A i (bset (A i) j) j) i)
def Small (A : Nat → Nat) : Prop := ∀ i, A i < 18446744073709551616
theorem Small.upd {A : Nat → Nat} (h : Small A) {i s : Nat} (hs : s < 18446744073709551616) : Small (upd A i s) := fun k => by
  unfold Gr.upd; split
  · exact hs
  · exact h k
theorem Small.connect {A : Nat → Nat} (h : Small A) {i j : Nat} (hi : i < 64) (hj : j < 64) : Small (connect A i j) :=
  (h.upd (bset_lt (h i) hj)).upd (bset_lt ((h.upd (bset_lt (h i) hj)) j) hi)
theorem Small.zero : Small (fun _ => 0) := fun _ => by simp
end Go.Gr
namespace Go.Proofs.Tg.Gx
open Go.RowKit Go.Gr
def adjA (A : Nat → Nat) : Array Value := ((List.range 64).map fun i => vs (A i)).toArray
set_option maxHeartbeats 1000000
end Go.Proofs.Tg.Gx
end
section
/- The edges of an adjacency, written out. -/
namespace Go.Gr
/-- The edges that go from i to greater vertices. -/
def rowEdges (A : Nat → Nat) (i : Nat) : List (Int × Int) := (verts (andn (A i) (firstN i))).map fun j : Nat => ((i : Int), (j : Int))
def writeEdges (A : Nat → Nat) (n : Nat) : List (Int × Int) := (List.range n).flatMap (rowEdges A)
end Go.Gr
namespace Go.Proofs.Tg.Gx
open Go.RowKit Go.Gr
def ecells (es : List (Int × Int)) : List Value := es.flatMap fun e => [vi e.1, vi e.2]
set_option maxHeartbeats 1000000
set_option maxRecDepth 100000
end Go.Proofs.Tg.Gx
end
section
/- Comparisons: cmp.Compare at int, cmp.Or of two numbers, edges. -/
namespace Go.Gr
def orI (a b : Int) : Int := if a = 0 then b else a
def cmpE (e f : Int × Int) : Int := orI (cmpI e.1 f.1) (cmpI e.2 f.2)
end Go.Gr
namespace Go.Proofs.Tg.Gx
open Go.RowKit Go.Gr
set_option maxHeartbeats 1000000
set_option maxRecDepth 100000
theorem nan_any (a : Int) (w : World) : Calls Tryz.prog 186 #[.int .i64 a] w fun e w' => e = .returned (.bool false) ∧ w = w' := by
  go_enter Tryz.func186, Tryz.ntmps186
  go_wp2
  go_ret
  exact ⟨by simp, rfl⟩
theorem cmp_any (a b : Int) (w : World) : Calls Tryz.prog 165 #[.int .i64 a, .int .i64 b] w fun e w' => e = .returned (.int .i64 (cmpI a b)) ∧ w = w' := by
  by_cases h1 : a < b
  · have e : cmpI a b = -1 := by unfold cmpI; rw [if_pos h1]
    rw [e]; clear e
    go_enter Tryz.func165, Tryz.ntmps165
    go_wp2_with (go_at_call 186; refine (nan_any _ _).mono ?_; rintro e w' ⟨rfl, rfl⟩)
    go_ret
    exact ⟨rfl, rfl⟩
  · by_cases h2 : b < a
    · have e : cmpI a b = 1 := by unfold cmpI; rw [if_neg h1, if_pos h2]
      rw [e]; clear e
      go_enter Tryz.func165, Tryz.ntmps165
      go_wp2_with (go_at_call 186; refine (nan_any _ _).mono ?_; rintro e w' ⟨rfl, rfl⟩)
      go_ret
      exact ⟨rfl, rfl⟩
    · have e : cmpI a b = 0 := by unfold cmpI; rw [if_neg h1, if_neg h2]
      rw [e]; clear e
      go_enter Tryz.func165, Tryz.ntmps165
      go_wp2_with (go_at_call 186; refine (nan_any _ _).mono ?_; rintro e w' ⟨rfl, rfl⟩)
      go_ret
      exact ⟨rfl, rfl⟩
end Go.Proofs.Tg.Gx
end
section
/- Reading a graph into an adjacency. -/
namespace Go.Gr
def goodEdge (n : Int) (e : Int × Int) : Prop := 0 ≤ e.1 ∧ e.1 < e.2 ∧ e.2 < n
def readAll (es : List (Int × Int)) : Nat → Nat := es.foldl (fun A e => connect A e.1.toNat e.2.toNat) (fun _ => 0)
/-- The first k edges are valid: each good by itself, and each behind the one before. -/
def validTo (n : Int) (es : List (Int × Int)) (k : Nat) : Prop := ∀ i (h : i < es.length), i < k → goodEdge n es[i] ∧ (0 < i → cmpE (es[i - 1]'(by omega)) es[i] < 0)
def valid (n : Int) (es : List (Int × Int)) : Prop := 0 ≤ n ∧ n ≤ 64 ∧ validTo n es es.length
end Go.Gr
namespace Go.Proofs.Tg.Gx
open Go.RowKit Go.Gr
abbrev EdgesAt (w : World) (E : Option Addr) (es : List (Int × Int)) : Prop := Sl w E es.length 2 (ecells es)
theorem ecells_at : ∀ (es : List (Int × Int)) (k : Nat) (hk : k < es.length), (ecells es)[k * 2]? = some (vi es[k].1) ∧ (ecells es)[k * 2 + 1]? = some (vi es[k].2)
  | e :: es, 0, _ => by simp [ecells]
  | e :: es, k + 1, hk => by
    have := ecells_at es k (by simpa using hk)
    simp only [ecells, List.flatMap_cons, show (k + 1) * 2 = k * 2 + 1 + 1 from by omega, List.cons_append, List.nil_append, List.getElem?_cons_succ, List.getElem_cons_succ] at this ⊢
    exact this
theorem EdgesAt.at {w : World} {E : Option Addr} {es : List (Int × Int)} (h : EdgesAt w E es) {k : Nat} (hk : k < es.length) :
    ∃ ad, E = some ad ∧ w.cell? (ad.add (k * 2)) = some (.int .i64 es[k].1) ∧ w.cell? ⟨(ad.add (k * 2)).block, (ad.add (k * 2)).off + 1, none⟩ = some (.int .i64 es[k].2) := by
  obtain ⟨ad, rfl, _, hc⟩ := h.lies (by omega)
  obtain ⟨h1, h2⟩ := ecells_at es k hk
  have h2' := hc _ _ h2
  exact ⟨ad, rfl, hc _ _ h1, by rw [← add_add] at h2'; exact h2'⟩
theorem below_setRow {B : Nat} {a w : World} (h : Below B a w) {g : Nat} (hg : B ≤ g) (cs : Array Value) : Below B a (w.setRow g cs) :=
  h.trans ⟨rfl, rfl, rfl, by simp, fun k hk => setRow_other w g k _ (by omega)⟩
def RetRead (b : Bool) (A : Nat → Nat) (w : World) (e : Ending) (w' : World) : Prop :=
  ∃ A', Small A' ∧ e = .returned (.tuple #[.agg (adjA A'), .bool b]) ∧ (b = true → A' = A) ∧ Below w.heap.size w w'
set_option maxHeartbeats 1000000
set_option maxRecDepth 100000
end Go.Proofs.Tg.Gx
end
section
/- Plain functions that say what package graph computes, and their first properties. -/
namespace Go.Gr

theorem mem_verts {s i : Nat} : i ∈ verts s ↔ i < 64 ∧ s.testBit i = true := by simp [verts]
theorem bset_bit (s i j : Nat) : (bset s i).testBit j = (s.testBit j || decide (i = j)) := by
  unfold bset
  rw [Nat.testBit_or, Nat.one_shiftLeft, Nat.testBit_two_pow]
theorem andn_bit (a b j : Nat) (hb : b < 18446744073709551616) (hj : j < 64) : (andn a b).testBit j = (a.testBit j && !b.testBit j) := by
  unfold andn
  rw [Nat.testBit_and]
  have : (18446744073709551615 - b).testBit j = !b.testBit j := by
    have h := Nat.testBit_two_pow_sub_succ (n := 64) (x := b) (by omega) j
    rw [show 2 ^ 64 - (b + 1) = 18446744073709551615 - b from by omega] at h
    rw [h]; simp [hj]
  rw [this]
theorem bclr_bit (s i j : Nat) (hi : i < 64) (hj : j < 64) : (bclr s i).testBit j = (s.testBit j && !decide (i = j)) := by
  unfold bclr
  rw [andn_bit _ _ _ (shl_lt i hi) hj, Nat.one_shiftLeft, Nat.testBit_two_pow]
theorem high_bit {s j : Nat} (hs : s < 18446744073709551616) (hj : 64 ≤ j) : s.testBit j = false :=
  Nat.testBit_lt_two_pow (Nat.lt_of_lt_of_le hs (Nat.pow_le_pow_right (n := 2) (by omega) hj))

/-- One step of the choice of the next vertex of a maximum cardinality search. -/
def bestStep (A : Nat → Nat) (vis : Nat) (bm : Int × Int) (v : Nat) : Int × Int :=
  if vis.testBit v = false ∧ bm.2 < (size (A v &&& vis) : Nat) then ((v : Int), ((size (A v &&& vis) : Nat) : Int)) else bm
def best (A : Nat → Nat) (vis n : Nat) : Int × Int := (List.range n).foldl (bestStep A vis) (-1, -1)
/-- The visited set and the order after r rounds. -/
def searchTo (A : Nat → Nat) (n : Nat) : Nat → Nat × List Nat
  | 0 => (0, [])
  | r + 1 => (bset (searchTo A n r).1 (best A (searchTo A n r).1 n).1.toNat, (searchTo A n r).2 ++ [(best A (searchTo A n r).1 n).1.toNat])
def search (A : Nat → Nat) (n : Nat) : List Nat := (searchTo A n n).2

end Go.Gr
end
section
/- Maximum cardinality search. -/
namespace Go.Proofs.Tg.Gx
open Go.RowKit Go.Gr
theorem make_ints (l n : Nat) (hl : l ≤ n) (hn : n ≤ 1000000) (w : World) : (Instr.makeSlice 41 (.int .i64 (l : Int)) (.int .i64 (n : Int))).run Tryz.prog w = .ok (.slice (some ⟨w.heap.size, 0, none⟩) l n) (w.alloc (.cells (madeCells #[.int .i64 0] n) 3)) := by
  obtain ⟨i0, hi, hz0, hz1, hz2⟩ := info_parts int_info
  have hr := run_make (P := Tryz.prog) w 41 3 i0 (.int .i64 0) Tryz.underlying41 hi hz0 .i64 .i64 l n (by omega) (by omega) (by rw [hz2]; omega) (by omega)
  rw [hz1, Nat.mul_one, Int.toNat_natCast, Int.toNat_natCast] at hr
  exact hr
set_option maxHeartbeats 1000000
set_option maxRecDepth 100000
end Go.Proofs.Tg.Gx
end
section
/- Plain functions for the chordal extension. -/
namespace Go.Gr
/-- No vertex is its own neighbour. -/
def Irr (A : Nat → Nat) : Prop := ∀ v, v < 64 → (A v).testBit v = false
theorem upd_same (A : Nat → Nat) (i s : Nat) : upd A i s i = s := by simp [upd]
theorem upd_other (A : Nat → Nat) {i k : Nat} (s : Nat) (h : k ≠ i) : upd A i s k = A k := by simp [upd, h]
theorem Irr.zero : Irr (fun _ => 0) := fun _ _ => by simp
theorem Irr.connect {A : Nat → Nat} (h : Irr A) {i j : Nat} (hij : i ≠ j) : Irr (connect A i j) := by
  intro v hv
  unfold Gr.connect
  by_cases h1 : v = j
  · subst h1
    rw [upd_same, bset_bit, upd_other _ _ (fun e => hij e.symm), h v hv]
    simpa using hij
  · rw [upd_other _ _ h1]
    by_cases h2 : v = i
    · subst h2
      rw [upd_same, bset_bit, h v hv]
      simpa using fun e => hij e.symm
    · rw [upd_other _ _ h2]; exact h v hv
theorem size_lt {s i : Nat} (hi : i < 64) (h : s.testBit i = false) : size s < 64 := by
  have h1 : size s ≤ 64 := size_le s
  by_cases e : size s = 64
  · exfalso
    have h2 : verts s = List.range 64 := List.filter_eq_self.2 (by
      have := List.length_filter_eq_length_iff.1 (show ((List.range 64).filter s.testBit).length = (List.range 64).length by rw [List.length_range]; exact e)
      exact this)
    have : i ∈ verts s := by rw [h2]; simpa using hi
    rw [mem_verts] at this
    rw [h] at this
    cases this.2
  · omega
def minStep (A : Nat → Nat) (rest : Nat) (bm : Int × Int) (v : Nat) : Int × Int :=
  if ((size (A v &&& rest) : Nat) : Int) < bm.2 then ((v : Int), ((size (A v &&& rest) : Nat) : Int)) else bm
def minOf (A : Nat → Nat) (rest : Nat) (l : List Nat) : Int × Int := l.foldl (minStep A rest) (-1, 64)
theorem minOf_snoc (A : Nat → Nat) (rest : Nat) (l : List Nat) (v : Nat) : minOf A rest (l ++ [v]) = minStep A rest (minOf A rest l) v := by simp [minOf]
/-- What the choice comes to: the first of those with the fewest. -/
theorem minOf_spec (A : Nat → Nat) (rest : Nat) (hA : Irr A) : ∀ (r l : List Nat), (∀ v ∈ l, v < 64) → l.reverse = r → l = [] ∨ ∃ (v : Nat) (a b : List Nat), l = a ++ v :: b ∧ minOf A rest l = ((v : Int), ((size (A v &&& rest) : Nat) : Int)) ∧
      (∀ u ∈ a, size (A v &&& rest) < size (A u &&& rest)) ∧ (∀ u ∈ b, size (A v &&& rest) ≤ size (A u &&& rest))
  | [], l, _, hr => .inl (by simpa using hr)
  | x :: r, l, hl, hr => by
    right
    have hl2 : l = r.reverse ++ [x] := by
      have := congrArg List.reverse hr
      simpa using this
    subst hl2
    have hx : x < 64 := hl x (by simp)
    have h63 : size (A x &&& rest) < 64 := size_lt hx (by rw [Nat.testBit_and, hA x hx]; rfl)
    rw [minOf_snoc]
    rcases minOf_spec A rest hA r r.reverse (fun v hv => hl v (by simp [hv])) (by simp) with h | ⟨v, a, b, hab, hm, h1, h2⟩
    · refine ⟨x, [], [], by rw [h], ?_, by simp, by simp⟩
      rw [h]
      unfold minStep minOf
      rw [if_pos (by simp; omega)]
    · rw [hm]
      by_cases hc : size (A x &&& rest) < size (A v &&& rest)
      · refine ⟨x, a ++ v :: b, [], by rw [hab], ?_, ?_, by simp⟩
        · unfold minStep; rw [if_pos (by simp; omega)]
        · intro u hu
          simp only [List.mem_append, List.mem_cons] at hu
          rcases hu with hu | rfl | hu
          · have := h1 u hu; omega
          · exact hc
          · have := h2 u hu; omega
      · refine ⟨v, a, b ++ [x], by rw [hab]; simp, ?_, h1, ?_⟩
        · unfold minStep; rw [if_neg (by simp; omega)]
        · intro u hu
          simp only [List.mem_append, List.mem_singleton] at hu
          rcases hu with hu | rfl
          · exact h2 u hu
          · omega
def fillStep (ar : Nat) (A : Nat → Nat) (v : Nat) : Nat → Nat := upd A v (A v ||| bclr ar v)
def fill (ar : Nat) (l : List Nat) (A : Nat → Nat) : Nat → Nat := l.foldl (fillStep ar) A
theorem fillStep_small {ar v : Nat} {A : Nat → Nat} (h : Small A) (ha : ar < 18446744073709551616) : Small (fillStep ar A v) := h.upd (or_lt (h v) (bclr_lt v ha))
theorem fillStep_irr {ar v : Nat} {A : Nat → Nat} (h : Irr A) (hv : v < 64) : Irr (fillStep ar A v) := by
  intro u hu
  unfold fillStep
  by_cases e : u = v
  · subst e
    rw [upd_same, Nat.testBit_or, h u hu, bclr_bit _ _ _ hu hu]
    simp
  · rw [upd_other _ _ e]; exact h u hu
theorem fill_small {ar : Nat} (ha : ar < 18446744073709551616) : ∀ (l : List Nat) {A : Nat → Nat}, Small A → Small (fill ar l A)
  | [], _, h => h
  | v :: l, A, h => by
    simp only [fill, List.foldl_cons]
    exact fill_small ha l (fillStep_small h ha)
theorem fill_irr {ar : Nat} : ∀ (l : List Nat) {A : Nat → Nat}, (∀ v ∈ l, v < 64) → Irr A → Irr (fill ar l A)
  | [], _, _, h => h
  | v :: l, A, hl, h => by
    simp only [fill, List.foldl_cons]
    exact fill_irr l (fun u hu => hl u (by simp [hu])) (fillStep_irr h (hl v (by simp)))
/-- One elimination: the adjacency and what is left. -/
def elim (A : Nat → Nat) (rest : Nat) : (Nat → Nat) × Nat :=
  let b := (minOf A rest (verts rest)).1.toNat
  (fill (A b &&& rest) (verts (A b &&& rest)) A, bclr rest b)
def extFrom : Nat → (Nat → Nat) → Nat → (Nat → Nat)
  | 0, A, _ => A
  | f + 1, A, rest => if rest = 0 then A else extFrom f (elim A rest).1 (elim A rest).2
def extend (A : Nat → Nat) (n : Nat) : Nat → Nat := extFrom 65 A (firstN n)
end Go.Gr
end
section
/- Make. -/
namespace Go.Gr
def inR (n : Int) (e : Int × Int) : Prop := 0 ≤ e.1 ∧ e.1 < n ∧ 0 ≤ e.2 ∧ e.2 < n
def rangeOk (n : Int) (es : List (Int × Int)) : Prop := (0 ≤ n ∧ n ≤ 64) ∧ ∀ e ∈ es, inR n e
end Go.Gr
namespace Go.Proofs.Tg.Gx
open Go.RowKit Go.Gr
set_option maxHeartbeats 2000000
set_option maxRecDepth 100000
end Go.Proofs.Tg.Gx
end
section
/- The reference's Make. -/
namespace Go.Gr
def setT (t : Nat → Nat → Bool) (a b : Nat) : Nat → Nat → Bool := fun i j => if i = a ∧ j = b then true else t i j
def joinT (t : Nat → Nat → Bool) (a b : Nat) : Nat → Nat → Bool := setT (setT t a b) b a
end Go.Gr
namespace Go.Proofs.Tg.Gx
open Go.RowKit Go.Gr
set_option maxHeartbeats 2000000
set_option maxRecDepth 100000
end Go.Proofs.Tg.Gx
end
section
/- Plain law of Make: the edges that the library writes are the edges of the reference's table. -/
namespace Go.Gr
theorem joinT_at (t : Nat → Nat → Bool) (a b k m : Nat) : joinT t a b k m = (decide (k = a ∧ m = b) || decide (k = b ∧ m = a) || t k m) := by
  unfold joinT setT
  by_cases h1 : k = b ∧ m = a
  · simp [h1]
  · by_cases h2 : k = a ∧ m = b
    · simp [h2]
    · simp [h1, h2]
theorem filter_range_le {n N : Nat} (hn : n ≤ N) {p q : Nat → Bool} (h1 : ∀ k, k < n → p k = q k) (h2 : ∀ k, n ≤ k → k < N → p k = false) : (List.range N).filter p = (List.range n).filter q := by
  obtain ⟨d, rfl⟩ := Nat.le.dest hn
  rw [List.range_add, List.filter_append, List.filter_congr (fun x hx => h1 x (by simpa using hx))]
  rw [show ((List.range d).map (n + ·)).filter p = [] from List.filter_eq_nil_iff.2 (fun a ha => by
    obtain ⟨x, hx, rfl⟩ := List.mem_map.1 ha
    have : x < d := by simpa using hx
    simp [h2 (n + x) (by omega) (by omega)])]
  simp
end Go.Gr
end
section
/- Plain facts on lists of edges: those of a table are valid; what is read back. -/
namespace Go.Gr
/-- A table that reads a valid graph: symmetric, no loop, all within. -/
structure Nice (t : Nat → Nat → Bool) (n : Nat) : Prop where
  sym : ∀ i j, t i j = true → t j i = true
  irr : ∀ i, t i i = false
  lt : ∀ i j, t i j = true → i < n ∧ j < n
theorem Nice.symm {t : Nat → Nat → Bool} {n : Nat} (h : Nice t n) (i j : Nat) : t i j = t j i := by
  rw [Bool.eq_iff_iff]; exact ⟨h.sym i j, h.sym j i⟩
end Go.Gr
end
section
/- Plain functions for the tree of cliques. -/
namespace Go.Gr
/-- One pair of sets is looked at: i outside the tree, k inside. -/
def pairStep (sets : List Nat) (inT i : Nat) (b : Int × Int × Int) (k : Nat) : Int × Int × Int :=
  if inT.testBit i = false ∧ inT.testBit k = true ∧ b.2.2 < ((size (sets.getD i 0 &&& sets.getD k 0) : Nat) : Int) then ((i : Int), (k : Int), ((size (sets.getD i 0 &&& sets.getD k 0) : Nat) : Int)) else b
def rowTo (sets : List Nat) (inT i : Nat) (b : Int × Int × Int) (k : Nat) : Int × Int × Int := (List.range k).foldl (pairStep sets inT i) b
def allTo (sets : List Nat) (inT m : Nat) : Nat → Int × Int × Int
  | 0 => (-1, -1, -1)
  | i + 1 => rowTo sets inT i (allTo sets inT m i) m
/-- The sets in the tree, and the parents, after r rounds. -/
def treeTo (sets : List Nat) : Nat → Nat × List Int
  | 0 => (bset 0 0, List.replicate sets.length (-1))
  | r + 1 =>
    let b := allTo sets (treeTo sets r).1 sets.length sets.length
    (bset (treeTo sets r).1 b.1.toNat, if 0 < b.2.2 then (treeTo sets r).2.set b.1.toNat b.2.1 else (treeTo sets r).2)
def tree (sets : List Nat) : List Int := (treeTo sets (sets.length - 1)).2
end Go.Gr
end
section
/- Plain law of Tree: the library's parents are the reference's. -/
namespace Go.Gr
def updF {α : Type} (f : Nat → α) (i : Nat) (x : α) : Nat → α := fun k => if k = i then x else f k
end Go.Gr
end
section
/- Reading a set; the tree of cliques. -/
namespace Go.Proofs.Tg.Gx
open Go.RowKit Go.Gr
set_option maxHeartbeats 1000000
set_option maxRecDepth 100000
/-- A slice of slices of numbers. -/
def Lists (w : World) (V : Option Addr) (ls : List (List Int)) : Prop :=
  ∃ f : Nat → Option Addr × Nat, Sl w V ls.length 1 ((List.range ls.length).map fun i => .slice (f i).1 (ls.getD i []).length (f i).2) ∧ ∀ i, i < ls.length → Ints w (f i).1 (ls.getD i [])
theorem Lists.keep {w w' : World} {V : Option Addr} {ls : List (List Int)} (h : Lists w V ls) (hb : Below w.heap.size w w') : Lists w' V ls := by
  obtain ⟨f, hs, hr⟩ := h
  exact ⟨f, hs.keep hb, fun i hi => (hr i hi).keep hb⟩
theorem Lists.at {w : World} {V : Option Addr} {ls : List (List Int)} (h : Lists w V ls) {k : Nat} (hk : k < ls.length) : ∃ ad A c, V = some ad ∧ w.cell? (ad.add k) = some (.slice A ls[k].length c) ∧ Ints w A ls[k] := by
  obtain ⟨f, hs, hr⟩ := h
  obtain ⟨ad, rfl, hc⟩ := Sl.at1 hs hk
  have e : ls.getD k [] = ls[k] := by simp [hk]
  have hi := hr k hk
  rw [e] at hi
  refine ⟨ad, (f k).1, (f k).2, rfl, ?_, hi⟩
  rw [hc]
  simp [hk]
def iarr (l : List Int) : Array Value := (l.map vi).toArray
theorem iarr_made (n : Nat) : madeCells #[.int .i64 0] n = iarr (List.replicate n 0) := by
  apply Array.ext
  · simp [iarr, size_madeCells]
  · intro i h1 h2
    simp [madeCells, iarr, vi, Nat.mod_one]
theorem iarr_set (l : List Int) (k : Nat) (s : Int) : (iarr l).setIfInBounds k (.int .i64 s) = iarr (l.set k s) := by
  simp [iarr, List.map_set, vi]
theorem iarr_at (l : List Int) {k : Nat} (hk : k < l.length) : (iarr l)[k]? = some (.int .i64 l[k]) := by simp [iarr, hk, vi]
end Go.Proofs.Tg.Gx
end
section
/- Plain mathematics of an insertion sort by exchanges. -/
namespace Go.Gr
/-- The elements j - 1 and j are exchanged. -/
def swp (l : List Nat) (j : Nat) : List Nat := (l.set j (l.getD (j - 1) 0)).set (j - 1) (l.getD j 0)
theorem swp_len (l : List Nat) (j : Nat) : (swp l j).length = l.length := by simp [swp]
end Go.Gr
end
section
/- slices.Compare at []int, and slices.SortFunc at a few slices. -/
namespace Go.Proofs.Tg.Gx
open Go.RowKit Go.Gr
set_option maxHeartbeats 1000000
set_option maxRecDepth 100000
/-- The values of slices that lie in a row: by a number for each. -/
def enc (F : Nat → Option Addr × Nat) (ls : Nat → List Int) (i : Nat) : Value := .slice (F i).1 (ls i).length (F i).2
end Go.Proofs.Tg.Gx
end
section
/- Sorting rows of the call's own. -/
namespace Go.Proofs.Tg.Gx
open Go.RowKit Go.Gr
set_option maxHeartbeats 1000000
set_option maxRecDepth 100000
/-- m rows of numbers, each the call's own. -/
def RowsIn (w : World) (base m : Nat) (F : Nat → Option Addr × Nat) (ls : Nat → List Int) : Prop := ∀ i, i < m → w.ownsRow base 3 1 (enc F ls i) (ls i).length ((ls i).map vi)
end Go.Proofs.Tg.Gx
end
section
/- Cliques. -/
namespace Go.Gr
end Go.Gr
namespace Go.Proofs.Tg.Gx
open Go.RowKit Go.Gr
set_option maxHeartbeats 4000000
set_option maxRecDepth 100000
theorem RowsIn.kept {w w' : World} {base m : Nat} {F : Nat → Option Addr × Nat} {ls : Nat → List Int} {row : Option Nat} (h : RowsIn w base m F ls) (hg : w.grownBy w' row) (hne : ∀ i, i < m → (enc F ls i).ownBlock = none ∨ (enc F ls i).ownBlock ≠ row) : RowsIn w' base m F ls :=
  fun i hi => (h i hi).kept hg (hne i hi)
theorem RowsIn.below {w w' : World} {base m B : Nat} {F : Nat → Option Addr × Nat} {ls : Nat → List Int} (h : RowsIn w base m F ls) (hb : Below B w w') (hB : w.heap.size ≤ B) : RowsIn w' base m F ls := fun i hi => own_below (h i hi) hb hB
theorem RowsIn.alloc {w : World} {base m : Nat} {F : Nat → Option Addr × Nat} {ls : Nat → List Int} (h : RowsIn w base m F ls) (o : Obj) : RowsIn (w.alloc o) base m F ls := fun i hi => (h i hi).alloc o
end Go.Proofs.Tg.Gx
end
section
/- Comparisons of lists in the statements. -/
namespace Go.Proofs.Tg.Gx
open Go.RowKit Go.Gr
set_option maxHeartbeats 1000000
set_option maxRecDepth 100000
/-- The world has turned in draws alone. -/
def Dr (w w' : World) : Prop := ∃ n, w' = w.drewN n
theorem Dr.refl (w : World) : Dr w w := ⟨0, rfl⟩
theorem Dr.below {w w' : World} (h : Dr w w') : Below w.heap.size w w' := by
  obtain ⟨n, rfl⟩ := h
  exact below_drewN (Below.refl _ _) n
theorem Dr.drewN {w w' : World} (h : Dr w w') (k : Nat) : Dr w (w'.drewN k) := by
  obtain ⟨n, rfl⟩ := h
  exact ⟨n + k, by rw [World.drewN_drewN]⟩
end Go.Proofs.Tg.Gx
end
section
/- The statements' sanity check: the chapter's first two examples. -/
namespace Go.Gr
def es0 : List (Int × Int) := [(0, 1), (2, 1), (2, 3), (3, 0), (0, 1)]
def es1 : List (Int × Int) := [(0, 1), (0, 3), (1, 2), (2, 3)]
def es2 : List (Int × Int) := [(0, 1), (0, 3), (1, 2), (1, 3), (2, 3)]
theorem w1 : writeEdges (readAll es0) 4 = es1 := by decide +kernel
theorem w2 : writeEdges (extend (readAll es1) 4) 4 = es2 := by decide +kernel
theorem v1 : valid 4 es1 := by
  refine ⟨by omega, by omega, fun i hi _ => ?_⟩
  have h4 : i < 4 := hi
  have : i = 0 ∨ i = 1 ∨ i = 2 ∨ i = 3 := by omega
  rcases this with rfl | rfl | rfl | rfl <;> exact ⟨⟨by simp [es1], by simp [es1], by simp [es1]⟩, fun h0 => by first | exact absurd h0 (by omega) | simp [es1, cmpE, orI, cmpI]⟩
theorem v2 : valid 4 es2 := by
  refine ⟨by omega, by omega, fun i hi _ => ?_⟩
  have h4 : i < 5 := hi
  have : i = 0 ∨ i = 1 ∨ i = 2 ∨ i = 3 ∨ i = 4 := by omega
  rcases this with rfl | rfl | rfl | rfl | rfl <;> exact ⟨⟨by simp [es2], by simp [es2], by simp [es2]⟩, fun h0 => by first | exact absurd h0 (by omega) | simp [es2, cmpE, orI, cmpI]⟩
theorem r0 : rangeOk 4 es0 ∧ ∀ x ∈ es0, x.1 ≠ x.2 := by
  refine ⟨⟨by omega, fun e he => ?_⟩, by decide⟩
  simp only [es0, List.mem_cons, List.not_mem_nil, or_false] at he
  rcases he with rfl | rfl | rfl | rfl | rfl <;> exact ⟨by decide, by decide, by decide, by decide⟩
end Go.Gr
namespace Go.Proofs.Tg.Gx
open Go.RowKit Go.Gr
set_option maxHeartbeats 1000000
set_option maxRecDepth 100000
end Go.Proofs.Tg.Gx
end
section
/- The reference's Tree. -/
namespace Go.Proofs.Tg.Gx
open Go.RowKit Go.Gr
set_option maxHeartbeats 2000000
set_option maxRecDepth 100000
theorem Lists.two {w : World} {V : Option Addr} {ls : List (List Int)} (h : Lists w V ls) {j q : Nat} (hj : j < ls.length) (hq : q < ls.length) :
    ∃ ad A c B d, V = some ad ∧ w.cell? (ad.add j) = some (.slice A ls[j].length c) ∧ Ints w A ls[j] ∧ w.cell? (ad.add q) = some (.slice B ls[q].length d) ∧ Ints w B ls[q] := by
  obtain ⟨ad, A, c, rfl, h1, h2⟩ := Lists.at h hj
  obtain ⟨ad', B, d, e, h3, h4⟩ := Lists.at h hq
  injection e with e
  subst e
  exact ⟨ad, A, c, B, d, rfl, h1, h2, h3, h4⟩
end Go.Proofs.Tg.Gx
end
section
/- The reference's Fill. -/
namespace Go.Gr
def cntR (t : Nat → Nat → Bool) (gone : Nat → Bool) (i k : Nat) : Nat := ((List.range k).filter fun j => t i j && !gone j).length
theorem cntR_le (t : Nat → Nat → Bool) (gone : Nat → Bool) (i k : Nat) : cntR t gone i k ≤ k := by
  unfold cntR
  exact Nat.le_trans (List.length_filter_le _ _) (by simp)
def minStepR (t : Nat → Nat → Bool) (n : Nat) (gone : Nat → Bool) (bm : Int × Int) (i : Nat) : Int × Int := if gone i = false ∧ ((cntR t gone i n : Nat) : Int) < bm.2 then ((i : Int), ((cntR t gone i n : Nat) : Int)) else bm
def minR (t : Nat → Nat → Bool) (n : Nat) (gone : Nat → Bool) (k : Nat) : Int × Int := (List.range k).foldl (minStepR t n gone) (-1, (n : Int) + 1)
theorem minR_succ (t : Nat → Nat → Bool) (n : Nat) (gone : Nat → Bool) (k : Nat) : minR t n gone (k + 1) = minStepR t n gone (minR t n gone k) k := by simp [minR, List.range_succ]
/-- What the choice comes to: the first of those with the fewest. -/
theorem minR_spec (t : Nat → Nat → Bool) (n : Nat) (gone : Nat → Bool) : ∀ k, (minR t n gone k = (-1, (n : Int) + 1) ∧ ∀ j, j < k → gone j = true) ∨
    ∃ i, i < k ∧ gone i = false ∧ minR t n gone k = ((i : Int), ((cntR t gone i n : Nat) : Int)) ∧ (∀ j, j < k → gone j = false → cntR t gone i n ≤ cntR t gone j n) ∧ (∀ j, j < i → gone j = false → cntR t gone i n < cntR t gone j n)
  | 0 => .inl ⟨rfl, fun j h => by omega⟩
  | k + 1 => by
    rw [minR_succ]
    rcases minR_spec t n gone k with ⟨h1, h2⟩ | ⟨i, hi, hg, he, hm, hf⟩
    · rw [h1]
      cases hk : gone k
      · right
        refine ⟨k, by omega, hk, ?_, fun j hj hgj => ?_, fun j hj hgj => ?_⟩
        · unfold minStepR
          rw [if_pos ⟨hk, by have := cntR_le t gone k n; simp; omega⟩]
        · by_cases e : j = k
          · rw [e]; exact Nat.le_refl _
          · rw [h2 j (by omega)] at hgj; cases hgj
        · rw [h2 j hj] at hgj; cases hgj
      · left
        refine ⟨by unfold minStepR; rw [if_neg (by rw [hk]; simp)], fun j hj => ?_⟩
        by_cases e : j = k
        · rw [e]; exact hk
        · exact h2 j (by omega)
    · right
      rw [he]
      by_cases hc : gone k = false ∧ cntR t gone k n < cntR t gone i n
      · refine ⟨k, by omega, hc.1, ?_, fun j hj hgj => ?_, fun j hj hgj => ?_⟩
        · unfold minStepR; rw [if_pos ⟨hc.1, by simp; omega⟩]
        · by_cases e : j = k
          · rw [e]; exact Nat.le_refl _
          · have := hm j (by omega) hgj; omega
        · have := hm j hj hgj; omega
      · refine ⟨i, by omega, hg, ?_, fun j hj hgj => ?_, hf⟩
        · unfold minStepR; rw [if_neg (fun h => hc ⟨h.1, by have := h.2; simp at this; omega⟩)]
        · by_cases e : j = k
          · subst e
            by_cases hlt : cntR t gone j n < cntR t gone i n
            · exact absurd ⟨hgj, hlt⟩ hc
            · omega
          · exact hm j (by omega) hgj
def stepF (gone : Nat → Bool) (best a : Nat) (t : Nat → Nat → Bool) (b : Nat) : Nat → Nat → Bool := if (!gone a && !gone b && t best a && t best b) = true then joinT t a b else t
def rowF (gone : Nat → Bool) (best a : Nat) (t : Nat → Nat → Bool) (k : Nat) : Nat → Nat → Bool := (List.range k).foldl (stepF gone best a) t
theorem rowF_succ (gone : Nat → Bool) (best a : Nat) (t : Nat → Nat → Bool) (k : Nat) : rowF gone best a t (k + 1) = stepF gone best a (rowF gone best a t k) k := by simp [rowF, List.range_succ]
def allF (gone : Nat → Bool) (best : Nat) (t : Nat → Nat → Bool) (k : Nat) : Nat → Nat → Bool := (List.range k).foldl (fun t a => rowF gone best a t a) t
theorem allF_succ (gone : Nat → Bool) (best : Nat) (t : Nat → Nat → Bool) (k : Nat) : allF gone best t (k + 1) = rowF gone best k (allF gone best t k) k := by simp [allF, List.range_succ]
/-- The table, and what is gone, after r steps. -/
def fillTo (t : Nat → Nat → Bool) (n : Nat) : Nat → (Nat → Nat → Bool) × (Nat → Bool)
  | 0 => (t, fun _ => false)
  | r + 1 => (allF (fillTo t n r).2 (minR (fillTo t n r).1 n (fillTo t n r).2 n).1.toNat (fillTo t n r).1 n, updF (fillTo t n r).2 (minR (fillTo t n r).1 n (fillTo t n r).2 n).1.toNat true)
end Go.Gr
namespace Go.Proofs.Tg.Gx
open Go.RowKit Go.Gr
set_option maxHeartbeats 4000000
set_option maxRecDepth 100000
end Go.Proofs.Tg.Gx
end
