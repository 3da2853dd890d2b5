/- Parts of the proof: SP0, SP1, GWB, GWC, GWD, GWE, GWF, GSpec, GWG, GSpecE, GWP, GXC, GPA, GPC, GSpecT, GPB, GWK, GSort, GWL, GWO. -/
import Derived.Deep.RegionWith
import Derived.Deep.RegionHeld3
import Derived.Deep.DeepCutAuto
import Derived.Maps.AppendAt
import Derived.Laws.Tables
import Derived.IntWalk
import Derived.Laws.MakeOwn
import Derived.Lib.Tables
import Derived.Laws.MathBits
import Derived.Test.YtpkompfkhoceoaaGreatDoorMMT0
section
/- Partitions made vertex by vertex from an equivalence, and a coarser one: plain. -/
namespace Go.Sp
open Classical
structure Eqv (C : Nat → Nat → Prop) : Prop where
  refl : ∀ a, C a a
  symm : ∀ a b, C a b → C b a
  trans : ∀ a b c, C a b → C b c → C a c
inductive MadeR (C : Nat → Nat → Prop) : Nat → List (List Int) → Prop
  | zero : MadeR C 0 []
  | skip {k : Nat} {ls : List (List Int)} : MadeR C k ls → (∃ l ∈ ls, (k : Int) ∈ l) → MadeR C (k + 1) ls
  | add {k : Nat} {ls : List (List Int)} {l : List Int} : MadeR C k ls → (∀ m ∈ ls, (k : Int) ∉ m) → l.Pairwise (· < ·) → (∀ x : Int, x ∈ l ↔ ∃ v : Nat, x = v ∧ C k v) → MadeR C (k + 1) (ls ++ [l])
/-- Each block is the class of a number. -/
theorem MadeR.each {C : Nat → Nat → Prop} {k : Nat} {ls : List (List Int)} (h : MadeR C k ls) : ∀ l ∈ ls, ∃ r, r < k ∧ ∀ x : Int, x ∈ l ↔ ∃ v : Nat, x = v ∧ C r v := by
  induction h with
  | zero => intro l hl; cases hl
  | skip _ _ ih => intro l hl; obtain ⟨r, h1, h2⟩ := ih l hl; exact ⟨r, by omega, h2⟩
  | @add k ls l _ _ _ q ih =>
    intro m hm
    rcases List.mem_append.1 hm with h | h
    · obtain ⟨r, h1, h2⟩ := ih m h; exact ⟨r, by omega, h2⟩
    · rw [List.mem_singleton.1 h]; exact ⟨k, by omega, q⟩
/-- Which numbers are in a block. -/
theorem MadeR.mem {C : Nat → Nat → Prop} (hE : Eqv C) {k : Nat} {ls : List (List Int)} (h : MadeR C k ls) (v : Nat) : (∃ l ∈ ls, (v : Int) ∈ l) ↔ ∃ j, j < k ∧ C j v := by
  induction h with
  | zero => simp
  | @skip k ls _ e ih =>
    rw [ih]
    constructor
    · rintro ⟨j, h1, h2⟩; exact ⟨j, by omega, h2⟩
    · rintro ⟨j, h1, h2⟩
      by_cases hj : j < k
      · exact ⟨j, hj, h2⟩
      · obtain rfl : j = k := by omega
        rw [← ih]
        obtain ⟨l, hl, hk⟩ := e
        refine ⟨l, hl, ?_⟩
        rename_i hM
        obtain ⟨r, _, hr⟩ := hM.each l hl
        obtain ⟨v', e1, e2⟩ := (hr j).1 hk
        obtain rfl : j = v' := by omega
        exact (hr v).2 ⟨v, rfl, hE.trans _ _ _ e2 h2⟩
  | @add k ls l _ e p q ih =>
    constructor
    · rintro ⟨m, hm, hv⟩
      rcases List.mem_append.1 hm with h | h
      · obtain ⟨j, h1, h2⟩ := ih.1 ⟨m, h, hv⟩; exact ⟨j, by omega, h2⟩
      · rw [List.mem_singleton.1 h] at hv
        obtain ⟨v', e1, e2⟩ := (q v).1 hv
        obtain rfl : v = v' := by omega
        exact ⟨k, by omega, e2⟩
    · rintro ⟨j, h1, h2⟩
      by_cases hj : j < k
      · obtain ⟨m, hm, hv⟩ := ih.2 ⟨j, hj, h2⟩
        exact ⟨m, List.mem_append_left _ hm, hv⟩
      · obtain rfl : j = k := by omega
        exact ⟨l, List.mem_append_right _ (by simp), (q v).2 ⟨v, rfl, h2⟩⟩
/-- The least numbers of the classes. -/
noncomputable def isRep (C : Nat → Nat → Prop) (j : Nat) : Bool := @decide (∀ i, i < j → ¬ C i j) (Classical.propDecidable _)
theorem isRep_iff {C : Nat → Nat → Prop} {j : Nat} : isRep C j = true ↔ ∀ i, i < j → ¬ C i j := by unfold isRep; exact @decide_eq_true_iff _ (Classical.propDecidable _)
noncomputable def reps (C : Nat → Nat → Prop) (k : Nat) : List Nat := (List.range k).filter (isRep C)
theorem MadeR.length {C : Nat → Nat → Prop} (hE : Eqv C) {k : Nat} {ls : List (List Int)} (h : MadeR C k ls) : ls.length = (reps C k).length := by
  induction h with
  | zero => rfl
  | @skip k ls hM e ih =>
    rw [ih]
    unfold reps
    rw [List.range_succ, List.filter_append]
    have : ¬ ∀ i, i < k → ¬ C i k := by
      obtain ⟨j, h1, h2⟩ := (hM.mem hE k).1 e
      exact fun h => h j h1 h2
    have hf : [k].filter (isRep C) = [] := by
      rw [List.filter_cons_of_neg (fun h => this (isRep_iff.1 h))]; rfl
    rw [List.length_append, hf]; rfl
  | @add k ls l hM e p q ih =>
    rw [List.length_append, ih]
    unfold reps
    rw [List.range_succ, List.filter_append]
    have : ∀ i, i < k → ¬ C i k := fun i hi hc => by
      obtain ⟨m, hm, hv⟩ := (hM.mem hE k).2 ⟨i, hi, hc⟩
      exact e m hm hv
    have hf : [k].filter (isRep C) = [k] := by
      rw [List.filter_cons_of_pos (isRep_iff.2 this)]; rfl
    rw [List.length_append, hf]; rfl
section
variable {C C' : Nat → Nat → Prop} {n : Nat} {ls ms : List (List Int)}
theorem reps_sub (hs : ∀ a b, C a b → C' a b) : ∀ x ∈ reps C' n, x ∈ reps C n := by
  intro x hx
  unfold reps at hx ⊢
  rw [List.mem_filter] at hx ⊢
  refine ⟨hx.1, isRep_iff.2 fun i hi hc => ?_⟩
  exact (isRep_iff.1 hx.2) i hi (hs i x hc)
theorem reps_nodup (C : Nat → Nat → Prop) (n : Nat) : (reps C n).Nodup := List.nodup_range.filter _
/-- A coarser equivalence has no more blocks. -/
theorem coarse_le (hE : Eqv C) (hE' : Eqv C') (hs : ∀ a b, C a b → C' a b) (h : MadeR C n ls) (h' : MadeR C' n ms) : ms.length ≤ ls.length := by
  rw [h.length hE, h'.length hE']
  exact (reps_nodup C' n).length_le_of_subset (reps_sub hs)
/-- Each block lies in one of the coarser ones. -/
theorem coarse_sub (hE' : Eqv C') (hs : ∀ a b, C a b → C' a b) (h : MadeR C n ls) (h' : MadeR C' n ms) : ∀ l ∈ ls, ∃ m ∈ ms, ∀ x ∈ l, x ∈ m := by
  intro l hl
  obtain ⟨r, hr, hx⟩ := h.each l hl
  obtain ⟨m, hm, hv⟩ := (h'.mem hE' r).2 ⟨r, hr, hE'.refl r⟩
  obtain ⟨q, _, hy⟩ := h'.each m hm
  obtain ⟨r', e1, e2⟩ := (hy r).1 hv
  obtain rfl : r = r' := by omega
  refine ⟨m, hm, fun x hxl => ?_⟩
  obtain ⟨v, e3, e4⟩ := (hx x).1 hxl
  exact (hy x).2 ⟨v, e3, hE'.trans _ _ _ e2 (hs _ _ e4)⟩
end
end Go.Sp
end
section
/- Rounds of coarser and coarser partitions; the first round behind which nothing changes: plain. -/
namespace Go.Sp
structure Rounds (N : Nat) where
  C : Nat → Nat → Nat → Prop
  B : Nat → List (List Int)
  eqv : ∀ t, Eqv (C t)
  mono : ∀ t a b, C t a b → C (t + 1) a b
  lt : ∀ t a b, a < N → C t a b → b < N
  made : ∀ t, MadeR (C t) N (B t)
section
variable {N : Nat} (R : Rounds N)
theorem Rounds.len_le (t : Nat) : (R.B (t + 1)).length ≤ (R.B t).length := coarse_le (R.eqv t) (R.eqv (t + 1)) (R.mono t) (R.made t) (R.made (t + 1))
theorem Rounds.sub (t : Nat) : ∀ l ∈ R.B t, ∃ m ∈ R.B (t + 1), ∀ x ∈ l, x ∈ m := coarse_sub (R.eqv (t + 1)) (R.mono t) (R.made t) (R.made (t + 1))
theorem Rounds.first_le : (R.B 0).length ≤ N := by
  rw [(R.made 0).length (R.eqv 0)]
  have := (reps_nodup (R.C 0) N).length_le_of_subset (l₂ := List.range N) (fun x hx => (List.mem_filter.1 hx).1)
  simpa using this
/-- The blocks of the first m rounds are each time fewer. -/
def Rounds.Fell (m : Nat) : Prop := ∀ t, t + 1 < m → (R.B (t + 1)).length ≠ (R.B t).length
/-- The loop has ended with the number m. -/
structure Rounds.Final (k m : Nat) : Prop where
  pos : 1 ≤ m
  le : m ≤ k
  fell : R.Fell m
  fin : m = k ∨ (R.B m).length = (R.B (m - 1)).length
theorem Rounds.fell_len {m : Nat} (h : R.Fell m) : ∀ t, t < m → (R.B t).length + t ≤ N
  | 0, _ => by have := R.first_le; omega
  | t + 1, ht => by
    have h1 := Rounds.fell_len h t (by omega)
    have h2 := R.len_le t
    have h3 := h t ht
    omega
theorem Rounds.fell_le {m : Nat} (h : R.Fell m) : m ≤ N + 1 := by
  rcases Nat.lt_or_ge (N + 1) m with h1 | h1
  · have := R.fell_len h (N + 1) h1
    omega
  · exact h1
/-- Behind the end for any number of rounds, the number is the same. -/
theorem Rounds.stable {big n k m : Nat} (hs : R.Final big n) (hb : N + 1 < big) (h : R.Final k m) : (n ≤ k → m = n) ∧ (k < n → m = k) := by
  have h1 := R.fell_le hs.fell
  have hfin : (R.B n).length = (R.B (n - 1)).length := by
    rcases hs.fin with e | e
    · omega
    · exact e
  have p1 := hs.pos
  have p2 := h.pos
  constructor
  · intro hk
    rcases Nat.lt_trichotomy m n with hlt | heq | hgt
    · rcases h.fin with e | e
      · omega
      · have := hs.fell (m - 1) (by omega)
        rw [show m - 1 + 1 = m by omega] at this
        exact absurd e this
    · exact heq
    · have := h.fell (n - 1) (by omega)
      rw [show n - 1 + 1 = n by omega] at this
      exact absurd hfin this
  · intro hk
    rcases h.fin with e | e
    · exact e
    · have hle := h.le
      have := hs.fell (m - 1) (by omega)
      rw [show m - 1 + 1 = m by omega] at this
      exact absurd e this
/-- What the statement on the rounds asks. -/
theorem Rounds.law {big n k m1 m2 : Nat} (hs : R.Final big n) (hb : N + 1 < big) (h1 : R.Final k m1) (h2 : R.Final (k + 1) m2) :
    (n ≤ k → R.B (m1 - 1) = R.B (n - 1) ∧ R.B (m2 - 1) = R.B (n - 1)) ∧ (k < n → (R.B (m2 - 1)).length < (R.B (m1 - 1)).length) ∧ ∀ l ∈ R.B (m1 - 1), ∃ m ∈ R.B (m2 - 1), ∀ x ∈ l, x ∈ m := by
  have a1 := R.stable hs hb h1
  have a2 := R.stable hs hb h2
  have p1 := h1.pos
  refine ⟨fun hk => ?_, fun hk => ?_, ?_⟩
  · rw [a1.1 hk, a2.1 (by omega)]; exact ⟨rfl, rfl⟩
  · have e1 := a1.2 hk
    have hk1 : 1 ≤ k := by omega
    have e2 : m2 = k + 1 := by
      by_cases hn : n ≤ k + 1
      · have := a2.1 hn; omega
      · exact a2.2 (by omega)
    have := hs.fell (k - 1) (by omega)
    have := R.len_le (k - 1)
    rw [e1, e2, show k + 1 - 1 = k - 1 + 1 by omega]
    omega
  · by_cases hk : n ≤ k
    · rw [a1.1 hk, a2.1 (by omega)]
      exact fun l hl => ⟨l, hl, fun x hx => hx⟩
    · have e1 := a1.2 (by omega)
      have hk1 : 1 ≤ k := by omega
      have e2 : m2 = k + 1 := by
        by_cases hn : n ≤ k + 1
        · have := a2.1 hn; omega
        · exact a2.2 (by omega)
      rw [e1, e2, show k + 1 - 1 = k - 1 + 1 by omega]
      exact R.sub (k - 1)
end
end Go.Sp
end
section
/- The elements of a set, in a slice. -/
namespace Go.Proofs.Tg.Gx
open Go.RowKit Go.Gr
theorem int_info : (Tryz.prog.info? 3).map (fun i => (i.zero, i.size, i.bytes)) = some (some (.int .i64 0), 1, 8) := by kernel_rfl
set_option maxHeartbeats 1000000
end Go.Proofs.Tg.Gx
end
section
/- The adjacency: 64 sets in a block; connect. -/
namespace Go.Gr
def upd (A : Nat → Nat) (i s : Nat) : Nat → Nat := fun k => if k = i then s else A k
def connect (A : Nat → Nat) (i j : Nat) : Nat → Nat := upd (upd A i (bset (A i) j)) j (bset (upd A i (bset (A i) j) j) i)
def Small (A : Nat → Nat) : Prop := ∀ i, A i < 18446744073709551616
theorem Small.upd {A : Nat → Nat} (h : Small A) {i s : Nat} (hs : s < 18446744073709551616) : Small (upd A i s) := fun k => by
  unfold Gr.upd; split
  · exact hs
  · exact h k
theorem Small.connect {A : Nat → Nat} (h : Small A) {i j : Nat} (hi : i < 64) (hj : j < 64) : Small (connect A i j) :=
  (h.upd (bset_lt (h i) hj)).upd (bset_lt ((h.upd (bset_lt (h i) hj)) j) hi)
theorem Small.zero : Small (fun _ => 0) := fun _ => by simp
end Go.Gr
namespace Go.Proofs.Tg.Gx
open Go.RowKit Go.Gr
def adjA (A : Nat → Nat) : Array Value := ((List.range 64).map fun i => vs (A i)).toArray
set_option maxHeartbeats 1000000
end Go.Proofs.Tg.Gx
end
section
/- The edges of an adjacency, written out. -/
namespace Go.Gr
/-- The edges that go from i to greater vertices. -/
def rowEdges (A : Nat → Nat) (i : Nat) : List (Int × Int) := (verts (andn (A i) (firstN i))).map fun j : Nat => ((i : Int), (j : Int))
def writeEdges (A : Nat → Nat) (n : Nat) : List (Int × Int) := (List.range n).flatMap (rowEdges A)
end Go.Gr
namespace Go.Proofs.Tg.Gx
open Go.RowKit Go.Gr
def ecells (es : List (Int × Int)) : List Value := es.flatMap fun e => [vi e.1, vi e.2]
set_option maxHeartbeats 1000000
set_option maxRecDepth 100000
end Go.Proofs.Tg.Gx
end
section
/- Comparisons: cmp.Compare at int, cmp.Or of two numbers, edges. -/
namespace Go.Gr
def orI (a b : Int) : Int := if a = 0 then b else a
def cmpE (e f : Int × Int) : Int := orI (cmpI e.1 f.1) (cmpI e.2 f.2)
end Go.Gr
namespace Go.Proofs.Tg.Gx
open Go.RowKit Go.Gr
set_option maxHeartbeats 1000000
set_option maxRecDepth 100000
theorem nan_any (a : Int) (w : World) : Calls Tryz.prog 186 #[.int .i64 a] w fun e w' => e = .returned (.bool false) ∧ w = w' := by
  go_enter Tryz.func186, Tryz.ntmps186
  go_wp2
  go_ret
  exact ⟨by simp, rfl⟩
theorem cmp_any (a b : Int) (w : World) : Calls Tryz.prog 165 #[.int .i64 a, .int .i64 b] w fun e w' => e = .returned (.int .i64 (cmpI a b)) ∧ w = w' := by
  by_cases h1 : a < b
  · have e : cmpI a b = -1 := by unfold cmpI; rw [if_pos h1]
    rw [e]; clear e
    go_enter Tryz.func165, Tryz.ntmps165
    go_wp2_with (go_at_call 186; refine (nan_any _ _).mono ?_; rintro e w' ⟨rfl, rfl⟩)
    go_ret
    exact ⟨rfl, rfl⟩
  · by_cases h2 : b < a
    · have e : cmpI a b = 1 := by unfold cmpI; rw [if_neg h1, if_pos h2]
      rw [e]; clear e
      go_enter Tryz.func165, Tryz.ntmps165
      go_wp2_with (go_at_call 186; refine (nan_any _ _).mono ?_; rintro e w' ⟨rfl, rfl⟩)
      go_ret
      exact ⟨rfl, rfl⟩
    · have e : cmpI a b = 0 := by unfold cmpI; rw [if_neg h1, if_neg h2]
      rw [e]; clear e
      go_enter Tryz.func165, Tryz.ntmps165
      go_wp2_with (go_at_call 186; refine (nan_any _ _).mono ?_; rintro e w' ⟨rfl, rfl⟩)
      go_ret
      exact ⟨rfl, rfl⟩
end Go.Proofs.Tg.Gx
end
section
/- Reading a graph into an adjacency. -/
namespace Go.Gr
def goodEdge (n : Int) (e : Int × Int) : Prop := 0 ≤ e.1 ∧ e.1 < e.2 ∧ e.2 < n
def readAll (es : List (Int × Int)) : Nat → Nat := es.foldl (fun A e => connect A e.1.toNat e.2.toNat) (fun _ => 0)
/-- The first k edges are valid: each good by itself, and each behind the one before. -/
def validTo (n : Int) (es : List (Int × Int)) (k : Nat) : Prop := ∀ i (h : i < es.length), i < k → goodEdge n es[i] ∧ (0 < i → cmpE (es[i - 1]'(by omega)) es[i] < 0)
def valid (n : Int) (es : List (Int × Int)) : Prop := 0 ≤ n ∧ n ≤ 64 ∧ validTo n es es.length
end Go.Gr
namespace Go.Proofs.Tg.Gx
open Go.RowKit Go.Gr
abbrev EdgesAt (w : World) (E : Option Addr) (es : List (Int × Int)) : Prop := Sl w E es.length 2 (ecells es)
theorem ecells_at : ∀ (es : List (Int × Int)) (k : Nat) (hk : k < es.length), (ecells es)[k * 2]? = some (vi es[k].1) ∧ (ecells es)[k * 2 + 1]? = some (vi es[k].2)
  | e :: es, 0, _ => by simp [ecells]
  | e :: es, k + 1, hk => by
    have := ecells_at es k (by simpa using hk)
    simp only [ecells, List.flatMap_cons, show (k + 1) * 2 = k * 2 + 1 + 1 from by omega, List.cons_append, List.nil_append, List.getElem?_cons_succ, List.getElem_cons_succ] at this ⊢
    exact this
theorem EdgesAt.at {w : World} {E : Option Addr} {es : List (Int × Int)} (h : EdgesAt w E es) {k : Nat} (hk : k < es.length) :
    ∃ ad, E = some ad ∧ w.cell? (ad.add (k * 2)) = some (.int .i64 es[k].1) ∧ w.cell? ⟨(ad.add (k * 2)).block, (ad.add (k * 2)).off + 1, none⟩ = some (.int .i64 es[k].2) := by
  obtain ⟨ad, rfl, _, hc⟩ := h.lies (by omega)
  obtain ⟨h1, h2⟩ := ecells_at es k hk
  have h2' := hc _ _ h2
  exact ⟨ad, rfl, hc _ _ h1, by rw [← add_add] at h2'; exact h2'⟩
theorem below_setRow {B : Nat} {a w : World} (h : Below B a w) {g : Nat} (hg : B ≤ g) (cs : Array Value) : Below B a (w.setRow g cs) :=
  h.trans ⟨rfl, rfl, rfl, by simp, fun k hk => setRow_other w g k _ (by omega)⟩
def RetRead (b : Bool) (A : Nat → Nat) (w : World) (e : Ending) (w' : World) : Prop :=
  ∃ A', Small A' ∧ e = .returned (.tuple #[.agg (adjA A'), .bool b]) ∧ (b = true → A' = A) ∧ Below w.heap.size w w'
set_option maxHeartbeats 1000000
set_option maxRecDepth 100000
end Go.Proofs.Tg.Gx
end
section
/- Plain functions that say what package graph computes, and their first properties. -/
namespace Go.Gr

theorem mem_verts {s i : Nat} : i ∈ verts s ↔ i < 64 ∧ s.testBit i = true := by simp [verts]
theorem bset_bit (s i j : Nat) : (bset s i).testBit j = (s.testBit j || decide (i = j)) := by
  unfold bset
  rw [Nat.testBit_or, Nat.one_shiftLeft, Nat.testBit_two_pow]
theorem andn_bit (a b j : Nat) (hb : b < 18446744073709551616) (hj : j < 64) : (andn a b).testBit j = (a.testBit j && !b.testBit j) := by
  unfold andn
  rw [Nat.testBit_and]
  have : (18446744073709551615 - b).testBit j = !b.testBit j := by
    have h := Nat.testBit_two_pow_sub_succ (n := 64) (x := b) (by omega) j
    rw [show 2 ^ 64 - (b + 1) = 18446744073709551615 - b from by omega] at h
    rw [h]; simp [hj]
  rw [this]
theorem bclr_bit (s i j : Nat) (hi : i < 64) (hj : j < 64) : (bclr s i).testBit j = (s.testBit j && !decide (i = j)) := by
  unfold bclr
  rw [andn_bit _ _ _ (shl_lt i hi) hj, Nat.one_shiftLeft, Nat.testBit_two_pow]
theorem high_bit {s j : Nat} (hs : s < 18446744073709551616) (hj : 64 ≤ j) : s.testBit j = false :=
  Nat.testBit_lt_two_pow (Nat.lt_of_lt_of_le hs (Nat.pow_le_pow_right (n := 2) (by omega) hj))

/-- One step of the choice of the next vertex of a maximum cardinality search. -/
def bestStep (A : Nat → Nat) (vis : Nat) (bm : Int × Int) (v : Nat) : Int × Int :=
  if vis.testBit v = false ∧ bm.2 < (size (A v &&& vis) : Nat) then ((v : Int), ((size (A v &&& vis) : Nat) : Int)) else bm
def best (A : Nat → Nat) (vis n : Nat) : Int × Int := (List.range n).foldl (bestStep A vis) (-1, -1)
/-- The visited set and the order after r rounds. -/
def searchTo (A : Nat → Nat) (n : Nat) : Nat → Nat × List Nat
  | 0 => (0, [])
  | r + 1 => (bset (searchTo A n r).1 (best A (searchTo A n r).1 n).1.toNat, (searchTo A n r).2 ++ [(best A (searchTo A n r).1 n).1.toNat])
def search (A : Nat → Nat) (n : Nat) : List Nat := (searchTo A n n).2

end Go.Gr
end
section
/- Maximum cardinality search. -/
namespace Go.Proofs.Tg.Gx
open Go.RowKit Go.Gr
theorem make_ints (l n : Nat) (hl : l ≤ n) (hn : n ≤ 1000000) (w : World) : (Instr.makeSlice 41 (.int .i64 (l : Int)) (.int .i64 (n : Int))).run Tryz.prog w = .ok (.slice (some ⟨w.heap.size, 0, none⟩) l n) (w.alloc (.cells (madeCells #[.int .i64 0] n) 3)) := by
  obtain ⟨i0, hi, hz0, hz1, hz2⟩ := info_parts int_info
  have hr := run_make (P := Tryz.prog) w 41 3 i0 (.int .i64 0) Tryz.underlying41 hi hz0 .i64 .i64 l n (by omega) (by omega) (by rw [hz2]; omega) (by omega)
  rw [hz1, Nat.mul_one, Int.toNat_natCast, Int.toNat_natCast] at hr
  exact hr
set_option maxHeartbeats 1000000
set_option maxRecDepth 100000
end Go.Proofs.Tg.Gx
end
section
/- Plain functions for the chordal extension. -/
namespace Go.Gr
/-- No vertex is its own neighbour. -/
def Irr (A : Nat → Nat) : Prop := ∀ v, v < 64 → (A v).testBit v = false
theorem upd_same (A : Nat → Nat) (i s : Nat) : upd A i s i = s := by simp [upd]
theorem upd_other (A : Nat → Nat) {i k : Nat} (s : Nat) (h : k ≠ i) : upd A i s k = A k := by simp [upd, h]
theorem Irr.zero : Irr (fun _ => 0) := fun _ _ => by simp
theorem Irr.connect {A : Nat → Nat} (h : Irr A) {i j : Nat} (hij : i ≠ j) : Irr (connect A i j) := by
  intro v hv
  unfold Gr.connect
  by_cases h1 : v = j
  · subst h1
    rw [upd_same, bset_bit, upd_other _ _ (fun e => hij e.symm), h v hv]
    simpa using hij
  · rw [upd_other _ _ h1]
    by_cases h2 : v = i
    · subst h2
      rw [upd_same, bset_bit, h v hv]
      simpa using fun e => hij e.symm
    · rw [upd_other _ _ h2]; exact h v hv
theorem size_lt {s i : Nat} (hi : i < 64) (h : s.testBit i = false) : size s < 64 := by
  have h1 : size s ≤ 64 := size_le s
  by_cases e : size s = 64
  · exfalso
    have h2 : verts s = List.range 64 := List.filter_eq_self.2 (by
      have := List.length_filter_eq_length_iff.1 (show ((List.range 64).filter s.testBit).length = (List.range 64).length by rw [List.length_range]; exact e)
      exact this)
    have : i ∈ verts s := by rw [h2]; simpa using hi
    rw [mem_verts] at this
    rw [h] at this
    cases this.2
  · omega
def minStep (A : Nat → Nat) (rest : Nat) (bm : Int × Int) (v : Nat) : Int × Int :=
  if ((size (A v &&& rest) : Nat) : Int) < bm.2 then ((v : Int), ((size (A v &&& rest) : Nat) : Int)) else bm
def minOf (A : Nat → Nat) (rest : Nat) (l : List Nat) : Int × Int := l.foldl (minStep A rest) (-1, 64)
theorem minOf_snoc (A : Nat → Nat) (rest : Nat) (l : List Nat) (v : Nat) : minOf A rest (l ++ [v]) = minStep A rest (minOf A rest l) v := by simp [minOf]
/-- What the choice comes to: the first of those with the fewest. -/
theorem minOf_spec (A : Nat → Nat) (rest : Nat) (hA : Irr A) : ∀ (r l : List Nat), (∀ v ∈ l, v < 64) → l.reverse = r → l = [] ∨ ∃ (v : Nat) (a b : List Nat), l = a ++ v :: b ∧ minOf A rest l = ((v : Int), ((size (A v &&& rest) : Nat) : Int)) ∧
      (∀ u ∈ a, size (A v &&& rest) < size (A u &&& rest)) ∧ (∀ u ∈ b, size (A v &&& rest) ≤ size (A u &&& rest))
  | [], l, _, hr => .inl (by simpa using hr)
  | x :: r, l, hl, hr => by
    right
    have hl2 : l = r.reverse ++ [x] := by
      have := congrArg List.reverse hr
      simpa using this
    subst hl2
    have hx : x < 64 := hl x (by simp)
    have h63 : size (A x &&& rest) < 64 := size_lt hx (by rw [Nat.testBit_and, hA x hx]; rfl)
    rw [minOf_snoc]
    rcases minOf_spec A rest hA r r.reverse (fun v hv => hl v (by simp [hv])) (by simp) with h | ⟨v, a, b, hab, hm, h1, h2⟩
    · refine ⟨x, [], [], by rw [h], ?_, by simp, by simp⟩
      rw [h]
      unfold minStep minOf
      rw [if_pos (by simp; omega)]
    · rw [hm]
      by_cases hc : size (A x &&& rest) < size (A v &&& rest)
      · refine ⟨x, a ++ v :: b, [], by rw [hab], ?_, ?_, by simp⟩
        · unfold minStep; rw [if_pos (by simp; omega)]
        · intro u hu
          simp only [List.mem_append, List.mem_cons] at hu
          rcases hu with hu | rfl | hu
          · have := h1 u hu; omega
          · exact hc
          · have := h2 u hu; omega
      · refine ⟨v, a, b ++ [x], by rw [hab]; simp, ?_, h1, ?_⟩
        · unfold minStep; rw [if_neg (by simp; omega)]
        · intro u hu
          simp only [List.mem_append, List.mem_singleton] at hu
          rcases hu with hu | rfl
          · exact h2 u hu
          · omega
def fillStep (ar : Nat) (A : Nat → Nat) (v : Nat) : Nat → Nat := upd A v (A v ||| bclr ar v)
def fill (ar : Nat) (l : List Nat) (A : Nat → Nat) : Nat → Nat := l.foldl (fillStep ar) A
theorem fillStep_small {ar v : Nat} {A : Nat → Nat} (h : Small A) (ha : ar < 18446744073709551616) : Small (fillStep ar A v) := h.upd (or_lt (h v) (bclr_lt v ha))
theorem fillStep_irr {ar v : Nat} {A : Nat → Nat} (h : Irr A) (hv : v < 64) : Irr (fillStep ar A v) := by
  intro u hu
  unfold fillStep
  by_cases e : u = v
  · subst e
    rw [upd_same, Nat.testBit_or, h u hu, bclr_bit _ _ _ hu hu]
    simp
  · rw [upd_other _ _ e]; exact h u hu
theorem fill_small {ar : Nat} (ha : ar < 18446744073709551616) : ∀ (l : List Nat) {A : Nat → Nat}, Small A → Small (fill ar l A)
  | [], _, h => h
  | v :: l, A, h => by
    simp only [fill, List.foldl_cons]
    exact fill_small ha l (fillStep_small h ha)
theorem fill_irr {ar : Nat} : ∀ (l : List Nat) {A : Nat → Nat}, (∀ v ∈ l, v < 64) → Irr A → Irr (fill ar l A)
  | [], _, _, h => h
  | v :: l, A, hl, h => by
    simp only [fill, List.foldl_cons]
    exact fill_irr l (fun u hu => hl u (by simp [hu])) (fillStep_irr h (hl v (by simp)))
/-- One elimination: the adjacency and what is left. -/
def elim (A : Nat → Nat) (rest : Nat) : (Nat → Nat) × Nat :=
  let b := (minOf A rest (verts rest)).1.toNat
  (fill (A b &&& rest) (verts (A b &&& rest)) A, bclr rest b)
def extFrom : Nat → (Nat → Nat) → Nat → (Nat → Nat)
  | 0, A, _ => A
  | f + 1, A, rest => if rest = 0 then A else extFrom f (elim A rest).1 (elim A rest).2
def extend (A : Nat → Nat) (n : Nat) : Nat → Nat := extFrom 65 A (firstN n)
end Go.Gr
end
section
/- Make. -/
namespace Go.Gr
def inR (n : Int) (e : Int × Int) : Prop := 0 ≤ e.1 ∧ e.1 < n ∧ 0 ≤ e.2 ∧ e.2 < n
def rangeOk (n : Int) (es : List (Int × Int)) : Prop := (0 ≤ n ∧ n ≤ 64) ∧ ∀ e ∈ es, inR n e
end Go.Gr
namespace Go.Proofs.Tg.Gx
open Go.RowKit Go.Gr
set_option maxHeartbeats 2000000
set_option maxRecDepth 100000
end Go.Proofs.Tg.Gx
end
section
/- The reference's Make. -/
namespace Go.Gr
def setT (t : Nat → Nat → Bool) (a b : Nat) : Nat → Nat → Bool := fun i j => if i = a ∧ j = b then true else t i j
def joinT (t : Nat → Nat → Bool) (a b : Nat) : Nat → Nat → Bool := setT (setT t a b) b a
end Go.Gr
namespace Go.Proofs.Tg.Gx
open Go.RowKit Go.Gr
set_option maxHeartbeats 2000000
set_option maxRecDepth 100000
end Go.Proofs.Tg.Gx
end
section
/- Plain law of Make: the edges that the library writes are the edges of the reference's table. -/
namespace Go.Gr
theorem joinT_at (t : Nat → Nat → Bool) (a b k m : Nat) : joinT t a b k m = (decide (k = a ∧ m = b) || decide (k = b ∧ m = a) || t k m) := by
  unfold joinT setT
  by_cases h1 : k = b ∧ m = a
  · simp [h1]
  · by_cases h2 : k = a ∧ m = b
    · simp [h2]
    · simp [h1, h2]
theorem filter_range_le {n N : Nat} (hn : n ≤ N) {p q : Nat → Bool} (h1 : ∀ k, k < n → p k = q k) (h2 : ∀ k, n ≤ k → k < N → p k = false) : (List.range N).filter p = (List.range n).filter q := by
  obtain ⟨d, rfl⟩ := Nat.le.dest hn
  rw [List.range_add, List.filter_append, List.filter_congr (fun x hx => h1 x (by simpa using hx))]
  rw [show ((List.range d).map (n + ·)).filter p = [] from List.filter_eq_nil_iff.2 (fun a ha => by
    obtain ⟨x, hx, rfl⟩ := List.mem_map.1 ha
    have : x < d := by simpa using hx
    simp [h2 (n + x) (by omega) (by omega)])]
  simp
end Go.Gr
end
section
/- Plain facts on lists of edges: those of a table are valid; what is read back. -/
namespace Go.Gr
/-- A table that reads a valid graph: symmetric, no loop, all within. -/
structure Nice (t : Nat → Nat → Bool) (n : Nat) : Prop where
  sym : ∀ i j, t i j = true → t j i = true
  irr : ∀ i, t i i = false
  lt : ∀ i j, t i j = true → i < n ∧ j < n
theorem Nice.symm {t : Nat → Nat → Bool} {n : Nat} (h : Nice t n) (i j : Nat) : t i j = t j i := by
  rw [Bool.eq_iff_iff]; exact ⟨h.sym i j, h.sym j i⟩
end Go.Gr
end
section
/- Plain functions for the tree of cliques. -/
namespace Go.Gr
/-- One pair of sets is looked at: i outside the tree, k inside. -/
def pairStep (sets : List Nat) (inT i : Nat) (b : Int × Int × Int) (k : Nat) : Int × Int × Int :=
  if inT.testBit i = false ∧ inT.testBit k = true ∧ b.2.2 < ((size (sets.getD i 0 &&& sets.getD k 0) : Nat) : Int) then ((i : Int), (k : Int), ((size (sets.getD i 0 &&& sets.getD k 0) : Nat) : Int)) else b
def rowTo (sets : List Nat) (inT i : Nat) (b : Int × Int × Int) (k : Nat) : Int × Int × Int := (List.range k).foldl (pairStep sets inT i) b
def allTo (sets : List Nat) (inT m : Nat) : Nat → Int × Int × Int
  | 0 => (-1, -1, -1)
  | i + 1 => rowTo sets inT i (allTo sets inT m i) m
/-- The sets in the tree, and the parents, after r rounds. -/
def treeTo (sets : List Nat) : Nat → Nat × List Int
  | 0 => (bset 0 0, List.replicate sets.length (-1))
  | r + 1 =>
    let b := allTo sets (treeTo sets r).1 sets.length sets.length
    (bset (treeTo sets r).1 b.1.toNat, if 0 < b.2.2 then (treeTo sets r).2.set b.1.toNat b.2.1 else (treeTo sets r).2)
def tree (sets : List Nat) : List Int := (treeTo sets (sets.length - 1)).2
end Go.Gr
end
section
/- Plain law of Tree: the library's parents are the reference's. -/
namespace Go.Gr
def updF {α : Type} (f : Nat → α) (i : Nat) (x : α) : Nat → α := fun k => if k = i then x else f k
end Go.Gr
end
section
/- Reading a set; the tree of cliques. -/
namespace Go.Proofs.Tg.Gx
open Go.RowKit Go.Gr
set_option maxHeartbeats 1000000
set_option maxRecDepth 100000
/-- A slice of slices of numbers. -/
def Lists (w : World) (V : Option Addr) (ls : List (List Int)) : Prop :=
  ∃ f : Nat → Option Addr × Nat, Sl w V ls.length 1 ((List.range ls.length).map fun i => .slice (f i).1 (ls.getD i []).length (f i).2) ∧ ∀ i, i < ls.length → Ints w (f i).1 (ls.getD i [])
theorem Lists.keep {w w' : World} {V : Option Addr} {ls : List (List Int)} (h : Lists w V ls) (hb : Below w.heap.size w w') : Lists w' V ls := by
  obtain ⟨f, hs, hr⟩ := h
  exact ⟨f, hs.keep hb, fun i hi => (hr i hi).keep hb⟩
theorem Lists.at {w : World} {V : Option Addr} {ls : List (List Int)} (h : Lists w V ls) {k : Nat} (hk : k < ls.length) : ∃ ad A c, V = some ad ∧ w.cell? (ad.add k) = some (.slice A ls[k].length c) ∧ Ints w A ls[k] := by
  obtain ⟨f, hs, hr⟩ := h
  obtain ⟨ad, rfl, hc⟩ := Sl.at1 hs hk
  have e : ls.getD k [] = ls[k] := by simp [hk]
  have hi := hr k hk
  rw [e] at hi
  refine ⟨ad, (f k).1, (f k).2, rfl, ?_, hi⟩
  rw [hc]
  simp [hk]
def iarr (l : List Int) : Array Value := (l.map vi).toArray
theorem iarr_made (n : Nat) : madeCells #[.int .i64 0] n = iarr (List.replicate n 0) := by
  apply Array.ext
  · simp [iarr, size_madeCells]
  · intro i h1 h2
    simp [madeCells, iarr, vi, Nat.mod_one]
theorem iarr_set (l : List Int) (k : Nat) (s : Int) : (iarr l).setIfInBounds k (.int .i64 s) = iarr (l.set k s) := by
  simp [iarr, List.map_set, vi]
theorem iarr_at (l : List Int) {k : Nat} (hk : k < l.length) : (iarr l)[k]? = some (.int .i64 l[k]) := by simp [iarr, hk, vi]
end Go.Proofs.Tg.Gx
end
section
/- Plain mathematics of an insertion sort by exchanges. -/
namespace Go.Gr
/-- The elements j - 1 and j are exchanged. -/
def swp (l : List Nat) (j : Nat) : List Nat := (l.set j (l.getD (j - 1) 0)).set (j - 1) (l.getD j 0)
theorem swp_len (l : List Nat) (j : Nat) : (swp l j).length = l.length := by simp [swp]
end Go.Gr
end
section
/- slices.Compare at []int, and slices.SortFunc at a few slices. -/
namespace Go.Proofs.Tg.Gx
open Go.RowKit Go.Gr
set_option maxHeartbeats 1000000
set_option maxRecDepth 100000
/-- The values of slices that lie in a row: by a number for each. -/
def enc (F : Nat → Option Addr × Nat) (ls : Nat → List Int) (i : Nat) : Value := .slice (F i).1 (ls i).length (F i).2
end Go.Proofs.Tg.Gx
end
section
/- Sorting rows of the call's own. -/
namespace Go.Proofs.Tg.Gx
open Go.RowKit Go.Gr
set_option maxHeartbeats 1000000
set_option maxRecDepth 100000
/-- m rows of numbers, each the call's own. -/
def RowsIn (w : World) (base m : Nat) (F : Nat → Option Addr × Nat) (ls : Nat → List Int) : Prop := ∀ i, i < m → w.ownsRow base 3 1 (enc F ls i) (ls i).length ((ls i).map vi)
end Go.Proofs.Tg.Gx
end
