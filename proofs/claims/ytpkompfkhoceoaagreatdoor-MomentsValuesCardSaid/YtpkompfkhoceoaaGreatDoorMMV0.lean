/- Parts of the proof: Mem, Mem2, WL1, Bits, WA, E1. -/
import Derived.WalkKit
import Derived.WalkSpells
import Derived.Lib.Hide
import Derived.Deep.Draws
import Derived.Deep.QuietTactic
import Derived.Test.YtpkompfkhoceoaaGreatDoorProg
import Derived.WalkLawsBesides
import Derived.BigQuiet
import Derived.Laws.MakeOwn
import Derived.IntWalk
import Derived.Outline
import Derived.Laws.BitsAllLaws
import Derived.Lib.TrailingZeros
import Derived.Laws.Bits64b
section
/- Words for memory: cells that lie from an address on, slices that hold cells, what a call that only makes memory leaves. -/
namespace Go.Proofs.Tg
open Go.RowKit

theorem add_block (a : Addr) (n : Nat) : (a.add n).block = a.block := by unfold Addr.add; split <;> rfl
theorem add_add (a : Addr) (i j : Nat) : (a.add i).add j = a.add (i + j) := by
  unfold Addr.add
  by_cases hi : i = 0 <;> by_cases hj : j = 0 <;> simp [hi, hj, Nat.add_assoc]
theorem add_lit (b o j : Nat) : (⟨b, o, none⟩ : Addr).add j = ⟨b, o + j, none⟩ := by
  unfold Addr.add
  by_cases hj : j = 0 <;> simp [hj]

/-- The cells xs lie from the address on. -/
def At (w : World) (ad : Addr) (xs : List Value) : Prop := ∀ j u, xs[j]? = some u → w.cell? (ad.add j) = some u
/-- A slice of n elements of sz cells each, at A: the cells that it holds. -/
structure Sl (w : World) (A : Option Addr) (n sz : Nat) (xs : List Value) : Prop where
  len : xs.length = n * sz
  lies : 0 < n → ∃ ad, A = some ad ∧ ad.block < w.heap.size ∧ At w ad xs

theorem At.keep {w w' : World} {ad : Addr} {xs : List Value} {B : Nat} (h : At w ad xs) (hb : Below B w w') (hB : ad.block < B) : At w' ad xs :=
  fun j u hu => (hb.cell (p := ad.add j) (by rw [add_block]; exact hB)).trans (h j u hu)
theorem Sl.keep {w w' : World} {A : Option Addr} {n sz : Nat} {xs : List Value} (h : Sl w A n sz xs) (hb : Below w.heap.size w w') : Sl w' A n sz xs :=
  ⟨h.len, fun hn => by
    obtain ⟨ad, e, hl, ha⟩ := h.lies hn
    exact ⟨ad, e, Nat.lt_of_lt_of_le hl hb.size, ha.keep hb hl⟩⟩
theorem Sl.drewN {w : World} {A : Option Addr} {n sz : Nat} {xs : List Value} (h : Sl w A n sz xs) (k : Nat) : Sl (w.drewN k) A n sz xs := ⟨h.len, h.lies⟩
theorem Sl.nil (w : World) (A : Option Addr) (sz : Nat) : Sl w A 0 sz [] := ⟨by simp, fun h => absurd h (by omega)⟩
theorem Sl.at1 {w : World} {A : Option Addr} {n : Nat} {xs : List Value} (h : Sl w A n 1 xs) {k : Nat} (hk : k < n) : ∃ ad, A = some ad ∧ w.cell? (ad.add k) = some (xs[k]'(by have := h.len; omega)) := by
  obtain ⟨ad, rfl, _, hc⟩ := h.lies (by omega)
  exact ⟨ad, rfl, hc k _ (List.getElem?_eq_getElem _)⟩
/-- What a row of the call's own holds can be read. -/
theorem Sl.of_own {w : World} {base : Nat} {e : TypeId} {sz n : Nat} {v : Value} {xs : List Value} (h : w.ownsRow base e sz v n xs) : ∃ A c, v = .slice A n c ∧ n ≤ c ∧ Sl w A n sz xs := by
  rcases h.2 with ⟨rfl, rfl⟩ | ⟨g, cap, cur, rfl, hb, hg, hn, _, _, _⟩
  · have hx : xs = [] := List.eq_nil_of_length_eq_zero (by simpa using h.1)
    subst hx
    exact ⟨none, 0, rfl, Nat.le_refl _, Sl.nil _ _ _⟩
  · refine ⟨_, _, rfl, hn, h.1, fun _ => ⟨_, rfl, ?_, h.cells (g := g) rfl⟩⟩
    exact (Array.getElem?_eq_some_iff.1 hg).1
/-- The value that a call returns is a slice that holds cells; nothing that was there has turned. -/
def RetSl (n sz : Nat) (xs : List Value) (w : World) (e : Ending) (w' : World) : Prop :=
  ∃ A c, e = .returned (.slice A n c) ∧ n ≤ c ∧ Sl w' A n sz xs ∧ Below w.heap.size w w'
theorem Sl.own {w : World} {base : Nat} {t : TypeId} {sz n c : Nat} {A : Option Addr} {xs : List Value} (h : w.ownsRow base t sz (.slice A n c) n xs) : Sl w A n sz xs := by
  obtain ⟨A', c', hv, _, hS⟩ := Sl.of_own h
  injection hv with h1 h2 h3
  subst h1
  exact hS
/-- Two rows of the call's own whose element types differ lie in different blocks. -/
theorem own_ne {w : World} {b b' : Nat} {t t' : TypeId} {sz sz' n n' : Nat} {v v' : Value} {xs xs' : List Value} (h : w.ownsRow b t sz v n xs) (h' : w.ownsRow b' t' sz' v' n' xs') (hne : t ≠ t') :
    v.ownBlock = none ∨ v.ownBlock ≠ v'.ownBlock := by
  rcases h.2 with ⟨rfl, _⟩ | ⟨g, cap, cur, rfl, _, hg, _⟩
  · exact .inl rfl
  · refine .inr ?_
    rcases h'.2 with ⟨rfl, _⟩ | ⟨g', cap', cur', rfl, _, hg', _⟩
    · simp [Value.ownBlock]
    · intro e
      have : g = g' := by simpa [Value.ownBlock] using e
      subst this
      rw [hg] at hg'
      injection hg' with hg'
      injection hg' with _ ht
      exact hne ht
def vi (x : Int) : Value := .int .i64 x
def vn (x : Nat) : Value := .int .i64 x
def vs (x : Nat) : Value := .int .u64 x
abbrev Ints (w : World) (A : Option Addr) (xs : List Int) : Prop := Sl w A xs.length 1 (xs.map vi)
abbrev Nats (w : World) (A : Option Addr) (xs : List Nat) : Prop := Sl w A xs.length 1 (xs.map vn)
abbrev Sets (w : World) (A : Option Addr) (xs : List Nat) : Prop := Sl w A xs.length 1 (xs.map vs)
theorem Ints.at {w : World} {A : Option Addr} {xs : List Int} (h : Ints w A xs) {k : Nat} (hk : k < xs.length) : ∃ ad, A = some ad ∧ w.cell? (ad.add k) = some (.int .i64 xs[k]) := by
  obtain ⟨ad, rfl, hc⟩ := Sl.at1 h hk
  exact ⟨ad, rfl, by simpa [vi] using hc⟩
theorem Nats.at {w : World} {A : Option Addr} {xs : List Nat} (h : Nats w A xs) {k : Nat} (hk : k < xs.length) : ∃ ad, A = some ad ∧ w.cell? (ad.add k) = some (.int .i64 (xs[k] : Nat)) := by
  obtain ⟨ad, rfl, hc⟩ := Sl.at1 h hk
  exact ⟨ad, rfl, by simpa [vn] using hc⟩
theorem Sets.at {w : World} {A : Option Addr} {xs : List Nat} (h : Sets w A xs) {k : Nat} (hk : k < xs.length) : ∃ ad, A = some ad ∧ w.cell? (ad.add k) = some (.int .u64 (xs[k] : Nat)) := by
  obtain ⟨ad, rfl, hc⟩ := Sl.at1 h hk
  exact ⟨ad, rfl, by simpa [vs] using hc⟩

/-- Block g is just the cells cs, none frozen. -/
def Blk (w : World) (g : Nat) (t : TypeId) (cs : Array Value) : Prop := w.heap[g]? = some (.cells cs t (0, 0))
theorem Blk.lt {w : World} {g : Nat} {t : TypeId} {cs : Array Value} (h : Blk w g t cs) : g < w.heap.size := (Array.getElem?_eq_some_iff.1 h).1
theorem Blk.cell {w : World} {g : Nat} {t : TypeId} {cs : Array Value} (h : Blk w g t cs) (i : Nat) : w.cell? ⟨g, i, none⟩ = cs[i]? := cell_of_row w g i cs t (0, 0) h
theorem Blk.frozen {w : World} {g : Nat} {t : TypeId} {cs : Array Value} (h : Blk w g t cs) (i : Nat) : w.frozen? ⟨g, i, none⟩ = false := by
  unfold Blk at h
  simp [World.frozen?, h]
theorem own_blk_ne {w : World} {b g : Nat} {t t' : TypeId} {sz n : Nat} {v : Value} {xs : List Value} {cs : Array Value} (h : w.ownsRow b t sz v n xs) (hg : Blk w g t' cs) (hne : t ≠ t') : some g ≠ v.ownBlock := by
  rcases h.2 with ⟨rfl, _⟩ | ⟨g', cap, cur, rfl, _, hh, _⟩
  · simp [Value.ownBlock]
  · intro e
    have : g = g' := by simpa [Value.ownBlock] using e
    subst this
    unfold Blk at hg
    rw [hh] at hg
    injection hg with hg
    injection hg with _ ht
    exact hne ht
theorem Blk.keep {w w' : World} {g : Nat} {t : TypeId} {cs : Array Value} {B : Nat} (h : Blk w g t cs) (hb : Below B w w') (hg : g < B) : Blk w' g t cs := (hb.block g hg).trans h
theorem Blk.grown {w w' : World} {g : Nat} {t : TypeId} {cs : Array Value} {row : Option Nat} (h : Blk w g t cs) (hb : w.grownBy w' row) (hg : some g ≠ row) : Blk w' g t cs := (hb.block g h.lt hg).trans h
theorem Blk.alloc {w : World} {g : Nat} {t : TypeId} {cs : Array Value} (h : Blk w g t cs) (o : Obj) : Blk (w.alloc o) g t cs := (Below.heap_alloc w o g h.lt).trans h
theorem Blk.drewN {w : World} {g : Nat} {t : TypeId} {cs : Array Value} (h : Blk w g t cs) (n : Nat) : Blk (w.drewN n) g t cs := h
theorem Blk.drew {w : World} {g : Nat} {t : TypeId} {cs : Array Value} (h : Blk w g t cs) : Blk w.drew g t cs := h
theorem Blk.new (w : World) (t : TypeId) (cs : Array Value) : Blk (w.alloc (.cells cs t)) w.heap.size t cs := heap_alloc_new w _
theorem Blk.set {w : World} {g : Nat} {t : TypeId} {cs : Array Value} (h : Blk w g t cs) (i : Nat) (u : Value) : Blk (w.setCell ⟨g, i, none⟩ u) g t (cs.setIfInBounds i u) := by
  unfold Blk at h ⊢
  simp [World.setCell, Array.getElem?_modify, h]
theorem Blk.far {w : World} {g : Nat} {t : TypeId} {cs : Array Value} (h : Blk w g t cs) {p : Addr} (hp : g ≠ p.block) (u : Value) : Blk (w.setCell p u) g t cs := (Below.heap_setCell w p u g hp).trans h
theorem own_below {w w' : World} {b B : Nat} {t : TypeId} {sz n : Nat} {v : Value} {xs : List Value} (h : w.ownsRow b t sz v n xs) (hb : Below B w w') (hB : w.heap.size ≤ B) : w'.ownsRow b t sz v n xs :=
  h.kept (row := none) ⟨hb.os, hb.tape, hb.output, hb.size, fun k hk _ => hb.block k (by omega)⟩ (by cases hv : v.ownBlock <;> simp)
theorem own_far {w : World} {b : Nat} {t : TypeId} {sz n : Nat} {v : Value} {xs : List Value} (h : w.ownsRow b t sz v n xs) {p : Addr} (hp : some p.block ≠ v.ownBlock) (u : Value) : (w.setCell p u).ownsRow b t sz v n xs :=
  h.kept (row := some p.block) ⟨rfl, rfl, rfl, by simp [World.setCell], fun k _ hk => Below.heap_setCell w p u k (fun e => hk (by rw [e]))⟩ (by cases hv : v.ownBlock <;> simp_all; exact fun e => hp e.symm)
theorem own_base {w : World} {b b' : Nat} {t : TypeId} {sz n : Nat} {v : Value} {xs : List Value} (h : w.ownsRow b t sz v n xs) (hb : b' ≤ b) : w.ownsRow b' t sz v n xs := by
  refine ⟨h.1, ?_⟩
  rcases h.2 with h2 | ⟨g, cap, cur, hv, hg, r⟩
  · exact .inl h2
  · exact .inr ⟨g, cap, cur, hv, Nat.le_trans hb hg, r⟩
theorem below_drewN {B : Nat} {a w : World} (h : Below B a w) (n : Nat) : Below B a (w.drewN n) := ⟨h.os, h.tape, h.output, h.size, h.block⟩
theorem keep_cell {W w' : World} (hb : Below W.heap.size W w') {p : Addr} {v : Value} (h : W.cell? p = some v) : w'.cell? p = some v := (hb.cell (World.block_lt_of_cell? W p h)).trans h
theorem cell_alloc {W : World} {p : Addr} {v : Value} (h : W.cell? p = some v) (o : Obj) : (W.alloc o).cell? p = some v := (World.cell?_alloc_lt W o p (World.block_lt_of_cell? W p h)).trans h
theorem below_of_drewN {B n : Nat} {w w' : World} (h : Below B (w.drewN n) w') : Below B w w' := ⟨h.os, h.tape, h.output, h.size, h.block⟩
theorem below_all {a w w' : World} (h : Below a.heap.size a w) (k : Below w.heap.size w w') : Below a.heap.size a w' := h.trans (k.mono h.size)
/-- A store into a cell that holds what the slice does not hold. -/
theorem Sl.put {w : World} {A : Option Addr} {n sz : Nat} {xs : List Value} (h : Sl w A n sz xs) {p : Addr} {v : Value} (hp : w.cell? p = some v) (hv : v ∉ xs) (u : Value) : Sl (w.setCell p u) A n sz xs :=
  ⟨h.len, fun hn => by
    obtain ⟨ad, e, hl, ha⟩ := h.lies hn
    refine ⟨ad, e, by simpa [World.setCell] using hl, fun j x hx => ?_⟩
    have hj := ha j x hx
    have hne : p ≠ ad.add j := by
      rintro rfl
      rw [hp] at hj
      injection hj with hj
      subst hj
      exact hv (List.mem_of_getElem? hx)
    rw [World.cell?_setCell_other _ _ _ _ hne]
    exact hj⟩
/-- A callee that leaves the world alone, in a quiet region. -/
theorem quiet_sm {P : Program} {f : FuncId} {args : Array Value} {w : World} {n : Nat} {v : Value} (h : Calls P f args (w.drewN n) fun e w' => e = .returned v ∧ w.drewN n = w') :
    Calls P f args (w.drewN n) fun e w'' => e = .returned v ∧ ∃ m, w'' = w.drewN m := h.mono fun _ _ ⟨he, hm⟩ => ⟨he, n, hm.symm⟩
theorem Blk.two {w : World} {g : Nat} {t : TypeId} {a b : Value} (h : Blk w g t #[a, b]) : w.cell? ⟨g, 0, none⟩ = some a ∧ w.cell? ⟨g, 1, none⟩ = some b ∧ w.frozen? ⟨g, 0, none⟩ = false ∧ w.frozen? ⟨g, 1, none⟩ = false :=
  ⟨h.cell 0, h.cell 1, h.frozen 0, h.frozen 1⟩
theorem Blk.three {w : World} {g : Nat} {t : TypeId} {a b c : Value} (h : Blk w g t #[a, b, c]) : w.cell? ⟨g, 0, none⟩ = some a ∧ w.cell? ⟨g, 1, none⟩ = some b ∧ w.cell? ⟨g, 2, none⟩ = some c ∧ w.frozen? ⟨g, 0, none⟩ = false ∧ w.frozen? ⟨g, 1, none⟩ = false ∧ w.frozen? ⟨g, 2, none⟩ = false :=
  ⟨h.cell 0, h.cell 1, h.cell 2, h.frozen 0, h.frozen 1, h.frozen 2⟩
theorem Blk.four {w : World} {g : Nat} {t : TypeId} {a b c d : Value} (h : Blk w g t #[a, b, c, d]) : w.cell? ⟨g, 0, none⟩ = some a ∧ w.cell? ⟨g, 1, none⟩ = some b ∧ w.cell? ⟨g, 2, none⟩ = some c ∧ w.cell? ⟨g, 3, none⟩ = some d ∧
    w.frozen? ⟨g, 0, none⟩ = false ∧ w.frozen? ⟨g, 1, none⟩ = false ∧ w.frozen? ⟨g, 2, none⟩ = false ∧ w.frozen? ⟨g, 3, none⟩ = false :=
  ⟨h.cell 0, h.cell 1, h.cell 2, h.cell 3, h.frozen 0, h.frozen 1, h.frozen 2, h.frozen 3⟩
end Go.Proofs.Tg
end
section
/- Words for memory, more: a slice that lies outside a block. -/
namespace Go.Proofs.Tg
open Go.RowKit
/-- The slice does not lie in block g. -/
def Off (A : Option Addr) (n g : Nat) : Prop := 0 < n → ∀ ad, A = some ad → ad.block ≠ g
theorem Sl.off {w : World} {A : Option Addr} {n sz g : Nat} {t : TypeId} {xs : List Value} {cs : Array Value} (h : Sl w A n sz xs) (hsz : 0 < sz) (B : Blk w g t cs) (hd : ∀ v ∈ cs.toList, v ∉ xs) : Off A n g := by
  intro hn ad he hg
  obtain ⟨ad', e, _, ha⟩ := h.lies hn
  rw [he] at e
  injection e with e
  subst e
  have hl : 0 < xs.length := by rw [h.len]; exact Nat.mul_pos hn hsz
  have hc := ha 0 xs[0] (List.getElem?_eq_getElem hl)
  have hb : (ad.add 0).block = g := by rw [add_block]; exact hg
  unfold Blk at B
  unfold World.cell? at hc
  rw [hb, B] at hc
  simp only at hc
  split at hc
  · cases hc
  · have := Array.mem_of_getElem? hc
    exact hd _ (by simpa using this) (List.getElem_mem hl)
theorem Sl.off_new {w : World} {A : Option Addr} {n sz g : Nat} {xs : List Value} (h : Sl w A n sz xs) (hg : w.heap.size ≤ g) : Off A n g := by
  intro hn ad he
  obtain ⟨ad', e, hl, _⟩ := h.lies hn
  rw [he] at e
  injection e with e
  subst e
  omega
theorem Sl.far {w : World} {A : Option Addr} {n sz g : Nat} {xs : List Value} (h : Sl w A n sz xs) (ho : Off A n g) (i : Nat) (u : Value) : Sl (w.setCell ⟨g, i, none⟩ u) A n sz xs :=
  ⟨h.len, fun hn => by
    obtain ⟨ad, e, hl, ha⟩ := h.lies hn
    refine ⟨ad, e, by simpa [World.setCell] using hl, fun j x hx => ?_⟩
    rw [World.cell?_setCell_other _ _ _ _ (fun e' => ho hn ad e (by rw [← add_block ad j, ← e']))]
    exact ha j x hx⟩
theorem Sl.alloc {w : World} {A : Option Addr} {n sz : Nat} {xs : List Value} (h : Sl w A n sz xs) (o : Obj) : Sl (w.alloc o) A n sz xs := h.keep ((Below.refl _ _).alloc (Nat.le_refl _) _)
theorem below_far {w w' : World} {B g : Nat} (h : Below B w w') (hg : B ≤ g) (i : Nat) (u : Value) : Below B w (w'.setCell ⟨g, i, none⟩ u) := h.setCell hg u
end Go.Proofs.Tg
end
section
/- Lists of numbers in memory; comparisons of numbers and of lists; small lists. -/
namespace Go.Gr
def cmpI (a b : Int) : Int := if a < b then -1 else if b < a then 1 else 0
end Go.Gr
namespace Go.Proofs.Tg
open Go.RowKit Go.Gr
set_option maxHeartbeats 1000000
set_option maxRecDepth 100000
/-- A slice of slices of numbers. -/
def Lists (w : World) (V : Option Addr) (ls : List (List Int)) : Prop :=
  ∃ f : Nat → Option Addr × Nat, Sl w V ls.length 1 ((List.range ls.length).map fun i => .slice (f i).1 (ls.getD i []).length (f i).2) ∧ ∀ i, i < ls.length → Ints w (f i).1 (ls.getD i [])
theorem Lists.keep {w w' : World} {V : Option Addr} {ls : List (List Int)} (h : Lists w V ls) (hb : Below w.heap.size w w') : Lists w' V ls := by
  obtain ⟨f, hs, hr⟩ := h
  exact ⟨f, hs.keep hb, fun i hi => (hr i hi).keep hb⟩
theorem Lists.at {w : World} {V : Option Addr} {ls : List (List Int)} (h : Lists w V ls) {k : Nat} (hk : k < ls.length) : ∃ ad A c, V = some ad ∧ w.cell? (ad.add k) = some (.slice A ls[k].length c) ∧ Ints w A ls[k] := by
  obtain ⟨f, hs, hr⟩ := h
  obtain ⟨ad, rfl, hc⟩ := Sl.at1 hs hk
  have e : ls.getD k [] = ls[k] := by simp [hk]
  have hi := hr k hk
  rw [e] at hi
  refine ⟨ad, (f k).1, (f k).2, rfl, ?_, hi⟩
  rw [hc]
  simp [hk]
def iarr (l : List Int) : Array Value := (l.map vi).toArray
theorem iarr_made (n : Nat) : madeCells #[.int .i64 0] n = iarr (List.replicate n 0) := by
  apply Array.ext
  · simp [iarr, size_madeCells]
  · intro i h1 h2
    simp [madeCells, iarr, vi, Nat.mod_one]
theorem iarr_set (l : List Int) (k : Nat) (s : Int) : (iarr l).setIfInBounds k (.int .i64 s) = iarr (l.set k s) := by
  simp [iarr, List.map_set, vi]
theorem iarr_at (l : List Int) {k : Nat} (hk : k < l.length) : (iarr l)[k]? = some (.int .i64 l[k]) := by simp [iarr, hk, vi]
theorem nan_any (a : Int) (w : World) : Calls Tryz.prog 186 #[.int .i64 a] w fun e w' => e = .returned (.bool false) ∧ w = w' := by
  go_enter Tryz.func186, Tryz.ntmps186
  go_wp2
  go_ret
  exact ⟨by simp, rfl⟩
theorem cmp_any (a b : Int) (w : World) : Calls Tryz.prog 165 #[.int .i64 a, .int .i64 b] w fun e w' => e = .returned (.int .i64 (cmpI a b)) ∧ w = w' := by
  by_cases h1 : a < b
  · have e : cmpI a b = -1 := by unfold cmpI; rw [if_pos h1]
    rw [e]; clear e
    go_enter Tryz.func165, Tryz.ntmps165
    go_wp2_with (go_at_call 186; refine (nan_any _ _).mono ?_; rintro e w' ⟨rfl, rfl⟩)
    go_ret
    exact ⟨rfl, rfl⟩
  · by_cases h2 : b < a
    · have e : cmpI a b = 1 := by unfold cmpI; rw [if_neg h1, if_pos h2]
      rw [e]; clear e
      go_enter Tryz.func165, Tryz.ntmps165
      go_wp2_with (go_at_call 186; refine (nan_any _ _).mono ?_; rintro e w' ⟨rfl, rfl⟩)
      go_ret
      exact ⟨rfl, rfl⟩
    · have e : cmpI a b = 0 := by unfold cmpI; rw [if_neg h1, if_neg h2]
      rw [e]; clear e
      go_enter Tryz.func165, Tryz.ntmps165
      go_wp2_with (go_at_call 186; refine (nan_any _ _).mono ?_; rintro e w' ⟨rfl, rfl⟩)
      go_ret
      exact ⟨rfl, rfl⟩
/-- The world has turned in draws alone. -/
def Dr (w w' : World) : Prop := ∃ n, w' = w.drewN n
theorem Dr.refl (w : World) : Dr w w := ⟨0, rfl⟩
theorem Dr.below {w w' : World} (h : Dr w w') : Below w.heap.size w w' := by
  obtain ⟨n, rfl⟩ := h
  exact below_drewN (Below.refl _ _) n
theorem Dr.drewN {w w' : World} (h : Dr w w') (k : Nat) : Dr w (w'.drewN k) := by
  obtain ⟨n, rfl⟩ := h
  exact ⟨n + k, by rw [World.drewN_drewN]⟩
end Go.Proofs.Tg
end
section
/- Plain mathematics of sets of numbers below 64 as bits of a number: how many there are (by the sums of neighbouring lanes), and the least one. -/
namespace Go.Gr

/-- How many of the first k bits are set. -/
def popc : Nat → Nat → Nat
  | 0, _ => 0
  | k + 1, x => x % 2 + popc k (x / 2)
theorem popc_le : ∀ k x, popc k x ≤ k
  | 0, _ => by simp [popc]
  | k + 1, x => by have := popc_le k (x / 2); simp only [popc]; omega
/-- The set's elements. -/
def verts (s : Nat) : List Nat := (List.range 64).filter s.testBit
def size (s : Nat) : Nat := (verts s).length
theorem testBit_succ' (x i : Nat) : x.testBit (i + 1) = (x / 2).testBit i := by rw [Nat.testBit_succ]
theorem filter_popc : ∀ k x, ((List.range k).filter x.testBit).length = popc k x
  | 0, _ => rfl
  | k + 1, x => by
    rw [List.range_succ_eq_map, List.filter_cons, popc, ← filter_popc k (x / 2)]
    have e : ((List.map Nat.succ (List.range k)).filter x.testBit).length = ((List.range k).filter (x / 2).testBit).length := by
      rw [List.filter_map, List.length_map]
      congr 1
      apply List.filter_congr
      intro i _
      exact testBit_succ' x i
    have h0 : x.testBit 0 = decide (x % 2 = 1) := by rw [Nat.testBit_zero]
    rcases Nat.mod_two_eq_zero_or_one x with h | h
    · simp [h, e, h0]
    · simp [h, e, h0]; omega
theorem size_popc (s : Nat) : size s = popc 64 s := filter_popc 64 s
theorem size_le (s : Nat) : size s ≤ 64 := by rw [size_popc]; exact popc_le _ _

theorem verts_zero : verts 0 = [] := by decide
end Go.Gr
end
section
/- What the small functions of package graph and of math/bits compute: sets of numbers below 64 as bits. -/
namespace Go.Gr
def bset (s i : Nat) : Nat := s ||| (1 <<< i)
def andn (a b : Nat) : Nat := a &&& (18446744073709551615 - b)
def bclr (s i : Nat) : Nat := andn s (1 <<< i)
def firstN (n : Nat) : Nat := (1 <<< n) - 1
theorem shl_lt (i : Nat) (hi : i < 64) : 1 <<< i < 18446744073709551616 := by
  have h : (2 : Nat) ^ i < 2 ^ 64 := Nat.pow_lt_pow_right (by omega) hi
  rw [Nat.one_shiftLeft]; omega
theorem bset_lt {s i : Nat} (hs : s < 18446744073709551616) (hi : i < 64) : bset s i < 18446744073709551616 :=
  Nat.or_lt_two_pow (n := 64) (by omega) (shl_lt i hi)
theorem and_lt {a : Nat} (b : Nat) (ha : a < 18446744073709551616) : a &&& b < 18446744073709551616 :=
  Nat.lt_of_le_of_lt Nat.and_le_left ha
theorem andn_lt {a : Nat} (b : Nat) (ha : a < 18446744073709551616) : andn a b < 18446744073709551616 := and_lt _ ha
theorem bclr_lt {s : Nat} (i : Nat) (hs : s < 18446744073709551616) : bclr s i < 18446744073709551616 := andn_lt _ hs
theorem or_lt {a b : Nat} (ha : a < 18446744073709551616) (hb : b < 18446744073709551616) : a ||| b < 18446744073709551616 := Nat.or_lt_two_pow (n := 64) (by omega) (by omega)
end Go.Gr
namespace Go.Proofs.Tg
open Go.RowKit Go.Gr
/-- The library's table of the places of single bits. -/
def Tab (w : World) : Prop := 1 < w.heap.size ∧ ∀ j, j < 64 → w.cell? ⟨1, j, none⟩ = some (.int .u8 (Lib.deBruijn64tab.getD j 0))
theorem Tab.below {B : Nat} {w w' : World} (h : Tab w) (hb : Below B w w') (hB : 1 < B) : Tab w' :=
  ⟨Nat.lt_of_lt_of_le h.1 hb.size, fun j hj => (hb.cell (p := ⟨1, j, none⟩) hB).trans (h.2 j hj)⟩
theorem Tab.drewN {w : World} (h : Tab w) (n : Nat) : Tab (w.drewN n) := h
set_option maxHeartbeats 400000
theorem wrap_nat (n : Nat) (h : n < 18446744073709551616) : IntKind.u64.wrap (n : Int) = (n : Int) := by rw [IntKind.wrap_u64]; omega
theorem tz_core (x k idx : Nat) (w : World) (hx0 : ((x : Int) == 0) = false)
    (key : IntKind.u64.wrap (bits BinOp.and IntKind.u64 (x : Int) (IntKind.u64.wrap (-(x : Int))) * 285870213051353865) / 288230376151711744 = (idx : Int))
    (hi : idx < 64) (hk : k < 64) (hcell : w.cell? ⟨1, idx, none⟩ = some (.int .u8 k)) :
    Calls Tryz.prog 175 #[.int .u64 x] w fun e w' => e = .returned (.int .i64 k) ∧ w = w' := by
  go_enter Tryz.func175, Tryz.ntmps175
  go_wp2_with (simp only [key])
  go_ret
  exact ⟨rfl, rfl⟩
theorem tz_key (x a : Nat) (hx : x < 18446744073709551616) (hx0 : x ≠ 0) (hlow : x &&& (18446744073709551616 - x) = a) :
    IntKind.u64.wrap (bits BinOp.and IntKind.u64 (x : Int) (IntKind.u64.wrap (-(x : Int))) * 285870213051353865) / 288230376151711744 = ((a * 285870213051353865 % 18446744073709551616 / 288230376151711744 : Nat) : Int) := by
  have e1 : IntKind.u64.wrap (-(x : Int)) = ((18446744073709551616 - x : Nat) : Int) := by rw [IntKind.wrap_u64]; omega
  rw [e1, u64_and_nat x _ hx (by omega), hlow, IntKind.wrap_u64]
  omega
/-- The least element of a set, if there is one. -/
theorem tz_any (x : Nat) (w : World) (hx : x < 18446744073709551616) (hx0 : x ≠ 0) (hT : Tab w) :
    Calls Tryz.prog 175 #[.int .u64 x] w fun e w' => e = .returned (.int .i64 (Lib.ctz 64 x : Nat)) ∧ w = w' := by
  obtain ⟨hlow, hk⟩ := Lib.lowest_bit 64 x hx0 hx
  obtain ⟨hi, htab⟩ := Lib.deBruijn64_at _ hk
  have hcell := hT.2 _ hi
  rw [htab] at hcell
  exact tz_core x _ _ w (by simp; omega) (tz_key x _ hx hx0 hlow) hi hk hcell
end Go.Proofs.Tg
end
section
/- Vectors of bits: the reduced row echelon form of a space is the list of its reduced vectors. Plain numbers. -/
namespace Go.Ev
/-- Sums of elements of a list. -/
inductive Span (vs : List Nat) : Nat → Prop
  | zero : Span vs 0
  | add {x v : Nat} : Span vs x → v ∈ vs → Span vs (x ^^^ v)
theorem Span.mem {vs : List Nat} {v : Nat} (h : v ∈ vs) : Span vs v := by
  have := Span.add (Span.zero (vs := vs)) h
  rwa [Nat.zero_xor] at this
theorem Span.xor {vs : List Nat} {x y : Nat} (hx : Span vs x) (hy : Span vs y) : Span vs (x ^^^ y) := by
  induction hy with
  | zero => rwa [Nat.xor_zero]
  | add _ hv ih => rw [← Nat.xor_assoc]; exact ih.add hv
theorem Span.sub {vs us : List Nat} (h : ∀ v ∈ vs, Span us v) {x : Nat} (hx : Span vs x) : Span us x := by
  induction hx with
  | zero => exact .zero
  | add _ hv ih => exact ih.xor (h _ hv)
structure Space (V : Nat → Prop) (n : Nat) : Prop where
  lt : ∀ x, V x → x < 2 ^ n
  xor : ∀ x y, V x → V y → V (x ^^^ y)
/-- The state of the elimination before column i: r rows are done, row j has its first bit at p j. -/
structure EInv (V : Nat → Prop) (i : Nat) (vs : List Nat) (r : Nat) (p : Nat → Nat) : Prop where
  hr : r ≤ vs.length
  hV : ∀ v ∈ vs, V v
  span : ∀ x, V x → Span vs x
  lt : ∀ j, j < r → p j < i
  mono : ∀ j k, j < k → k < r → p j < p k
  bit : ∀ j k, j < r → k < vs.length → (vs.getD k 0).testBit (p j) = decide (k = j)
  low : ∀ j, j < r → ∀ b, b < p j → (vs.getD j 0).testBit b = false
  zero : ∀ k, r ≤ k → k < vs.length → ∀ b, b < i → (vs.getD k 0).testBit b = false
theorem EInv.skip {V : Nat → Prop} {i r : Nat} {vs : List Nat} {p : Nat → Nat} (h : EInv V i vs r p) (hz : ∀ k, r ≤ k → k < vs.length → (vs.getD k 0).testBit i = false) : EInv V (i + 1) vs r p := by
  refine ⟨h.hr, h.hV, h.span, fun j hj => by have := h.lt j hj; omega, h.mono, h.bit, h.low, fun k hk hl b hb => ?_⟩
  by_cases e : b = i
  · subst e; exact hz k hk hl
  · exact h.zero k hk hl b (by omega)
/-- Two rows are exchanged. -/
def swp (vs : List Nat) (r q : Nat) : List Nat := (vs.set r (vs.getD q 0)).set q (vs.getD r 0)
theorem getD_set (vs : List Nat) (i k : Nat) (x : Nat) (hi : i < vs.length) : (vs.set i x).getD k 0 = if k = i then x else vs.getD k 0 := by
  simp only [List.getD_eq_getElem?_getD, List.getElem?_set]
  by_cases h : i = k
  · subst h; simp [hi]
  · simp [h, Ne.symm h]
theorem swp_get (vs : List Nat) {r q : Nat} (hr : r < vs.length) (hq : q < vs.length) (k : Nat) : (swp vs r q).getD k 0 = vs.getD (if k = q then r else if k = r then q else k) 0 := by
  unfold swp
  rw [getD_set _ _ _ _ (by simpa using hq), getD_set _ _ _ _ hr]
  by_cases h1 : k = q
  · simp [h1]
  · rw [if_neg h1, if_neg h1]
    by_cases h2 : k = r
    · rw [if_pos h2, if_pos h2]
    · rw [if_neg h2, if_neg h2]
theorem swp_len (vs : List Nat) (r q : Nat) : (swp vs r q).length = vs.length := by simp [swp]
theorem mem_getD {vs : List Nat} {v : Nat} : v ∈ vs ↔ ∃ k, k < vs.length ∧ vs.getD k 0 = v := by
  rw [List.mem_iff_getElem]
  constructor
  · rintro ⟨k, hk, e⟩
    exact ⟨k, hk, by rw [List.getD_eq_getElem?_getD, List.getElem?_eq_getElem hk, Option.getD_some]; exact e⟩
  · rintro ⟨k, hk, e⟩
    exact ⟨k, hk, by rw [List.getD_eq_getElem?_getD, List.getElem?_eq_getElem hk, Option.getD_some] at e; exact e⟩
theorem EInv.swap {V : Nat → Prop} {i r q : Nat} {vs : List Nat} {p : Nat → Nat} (h : EInv V i vs r p) (hrq : r ≤ q) (hq : q < vs.length) : EInv V i (swp vs r q) r p := by
  have hrl : r < vs.length := by omega
  have hg := swp_get vs hrl hq
  have hsw : ∀ k, k < vs.length → (if k = q then r else if k = r then q else k) < vs.length := by intro k hk; split; exact hrl; split; exact hq; exact hk
  refine ⟨by rw [swp_len]; exact h.hr, ?_, ?_, h.lt, h.mono, ?_, ?_, ?_⟩
  · intro v hv
    obtain ⟨k, hk, rfl⟩ := mem_getD.1 hv
    rw [swp_len] at hk
    rw [hg]
    exact h.hV _ (mem_getD.2 ⟨_, hsw k hk, rfl⟩)
  · intro x hx
    refine Span.sub (fun v hv => ?_) (h.span x hx)
    obtain ⟨k, hk, rfl⟩ := mem_getD.1 hv
    refine Span.mem (mem_getD.2 ⟨_, by rw [swp_len]; exact hsw k hk, ?_⟩)
    rw [hg]
    congr 1
    by_cases h1 : k = q
    · subst h1; by_cases h2 : r = k <;> simp [h2]
    · by_cases h2 : k = r <;> simp [h1, h2]
  · intro j k hj hk
    rw [swp_len] at hk
    rw [hg, h.bit j _ hj (hsw k hk)]
    by_cases h1 : k = q
    · subst h1; simp; omega
    · by_cases h2 : k = r
      · subst h2; simp [h1]; omega
      · simp [h1, h2]
  · intro j hj b hb
    rw [hg, if_neg (by omega), if_neg (by omega)]
    exact h.low j hj b hb
  · intro k hk hl b hb
    rw [swp_len] at hl
    rw [hg]
    refine h.zero _ ?_ (hsw k hl) b hb
    split
    · exact Nat.le_refl _
    · split <;> omega
/-- The rows before k but r have lost the bit i. -/
def elim (vs : List Nat) (i r k : Nat) : List Nat := (List.range vs.length).map fun j => if j < k ∧ j ≠ r ∧ (vs.getD j 0).testBit i = true then vs.getD j 0 ^^^ vs.getD r 0 else vs.getD j 0
theorem elim_len (vs : List Nat) (i r k : Nat) : (elim vs i r k).length = vs.length := by simp [elim]
theorem elim_get (vs : List Nat) (i r k j : Nat) (hj : j < vs.length) : (elim vs i r k).getD j 0 = if j < k ∧ j ≠ r ∧ (vs.getD j 0).testBit i = true then vs.getD j 0 ^^^ vs.getD r 0 else vs.getD j 0 := by
  unfold elim
  rw [List.getD_eq_getElem?_getD, List.getElem?_map, List.getElem?_range hj]; rfl
theorem elim_self (vs : List Nat) (i r k : Nat) (hr : r < vs.length) : (elim vs i r k).getD r 0 = vs.getD r 0 := by
  rw [elim_get _ _ _ _ _ hr, if_neg (fun h => h.2.1 rfl)]
theorem EInv.elim {V : Nat → Prop} {n i r : Nat} {vs : List Nat} {p : Nat → Nat} (hS : Space V n) (h : EInv V i vs r p) (hr : r < vs.length) (hb : (vs.getD r 0).testBit i = true) :
    EInv V (i + 1) (Ev.elim vs i r vs.length) (r + 1) (fun j => if j = r then i else p j) := by
  have hg : ∀ k, k < vs.length → (Ev.elim vs i r vs.length).getD k 0 = if k ≠ r ∧ (vs.getD k 0).testBit i = true then vs.getD k 0 ^^^ vs.getD r 0 else vs.getD k 0 := by
    intro k hk
    rw [elim_get _ _ _ _ _ hk]
    simp [hk]
  have hbi : ∀ k, k < vs.length → ((Ev.elim vs i r vs.length).getD k 0).testBit i = decide (k = r) := by
    intro k hk
    rw [hg k hk]
    by_cases e : k = r
    · subst e; simpa using hb
    · by_cases e2 : (vs.getD k 0).testBit i = true
      · rw [if_pos ⟨e, e2⟩, Nat.testBit_xor, e2, hb]; simp [e]
      · rw [if_neg (fun h => e2 h.2)]; simp [e]; simpa using e2
  have hlow : ∀ k, k < vs.length → ∀ b, b < i → ((Ev.elim vs i r vs.length).getD k 0).testBit b = (vs.getD k 0).testBit b := by
    intro k hk b hbi'
    rw [hg k hk]
    split
    · rw [Nat.testBit_xor, h.zero r (Nat.le_refl _) hr b hbi']; simp
    · rfl
  refine ⟨by rw [elim_len]; omega, ?_, ?_, ?_, ?_, ?_, ?_, ?_⟩
  · intro v hv
    obtain ⟨k, hk, rfl⟩ := mem_getD.1 hv
    rw [elim_len] at hk
    rw [hg k hk]
    split
    · exact hS.xor _ _ (h.hV _ (mem_getD.2 ⟨k, hk, rfl⟩)) (h.hV _ (mem_getD.2 ⟨r, hr, rfl⟩))
    · exact h.hV _ (mem_getD.2 ⟨k, hk, rfl⟩)
  · intro x hx
    refine Span.sub (fun v hv => ?_) (h.span x hx)
    obtain ⟨k, hk, rfl⟩ := mem_getD.1 hv
    have hm : ∀ k, k < vs.length → Span (Ev.elim vs i r vs.length) ((Ev.elim vs i r vs.length).getD k 0) := fun k hk => Span.mem (mem_getD.2 ⟨k, by rw [elim_len]; exact hk, rfl⟩)
    have h1 := hm k hk
    have h2 := hm r hr
    rw [elim_self _ _ _ _ hr] at h2
    rw [hg k hk] at h1
    split at h1
    · have := h1.xor h2
      rwa [Nat.xor_assoc, Nat.xor_self, Nat.xor_zero] at this
    · exact h1
  · intro j hj
    show (if j = r then i else p j) < i + 1
    split
    · omega
    · have := h.lt j (by omega); omega
  · intro j k hjk hk
    show (if j = r then i else p j) < (if k = r then i else p k)
    rw [if_neg (by omega)]
    split
    · exact h.lt j (by omega)
    · exact h.mono j k hjk (by omega)
  · intro j k hj hk
    rw [elim_len] at hk
    show ((Ev.elim vs i r vs.length).getD k 0).testBit (if j = r then i else p j) = decide (k = j)
    split
    · rename_i e; rw [hbi k hk, e]
    · rw [hlow k hk _ (h.lt j (by omega)), h.bit j k (by omega) hk]
  · intro j hj b hbj
    have hbj : b < (if j = r then i else p j) := hbj
    by_cases e : j = r
    · subst e
      rw [if_pos rfl] at hbj
      rw [hlow j hr b hbj]
      exact h.zero j (Nat.le_refl _) hr b hbj
    · rw [if_neg e] at hbj
      have := h.lt j (by omega)
      rw [hlow j (by omega) b (by omega)]
      exact h.low j (by omega) b hbj
  · intro k hk hl b hbk
    rw [elim_len] at hl
    by_cases e : b = i
    · subst e; rw [hbi k hl]; simp; omega
    · rw [hlow k hl b (by omega)]
      exact h.zero k (by omega) hl b (by omega)
/-! What the last state says. -/
def Lead (x k : Nat) : Prop := x.testBit k = true ∧ ∀ b, b < k → x.testBit b = false
theorem Lead.inj {x a b : Nat} (ha : Lead x a) (hb : Lead x b) : a = b := by
  rcases Nat.lt_trichotomy a b with h | h | h
  · have := hb.2 a h; rw [ha.1] at this; cases this
  · exact h
  · have := ha.2 b h; rw [hb.1] at this; cases this
theorem xor_zero {x y : Nat} (h : x ^^^ y = 0) : x = y := by
  have : x ^^^ y ^^^ y = y := by rw [h, Nat.zero_xor]
  rwa [Nat.xor_assoc, Nat.xor_self, Nat.xor_zero] at this
/-! The reference goes through all vectors, the greatest first when the first position counts most. -/
end Go.Ev
end
