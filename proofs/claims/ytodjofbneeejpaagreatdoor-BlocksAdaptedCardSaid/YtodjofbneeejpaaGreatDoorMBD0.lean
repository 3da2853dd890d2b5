/- Parts of the proof: Mem, Mem2, WL1, Bits. -/
import Derived.WalkKit
import Derived.WalkSpells
import Derived.Lib.Hide
import Derived.Deep.Draws
import Derived.Deep.QuietTactic
import Derived.Test.YtodjofbneeejpaaGreatDoorProg
import Derived.WalkLawsBesides
import Derived.BigQuiet
import Derived.Laws.MakeOwn
import Derived.IntWalk
import Derived.Outline
section
/- Words for memory: cells that lie from an address on, slices that hold cells, what a call that only makes memory leaves. -/
namespace Go.Proofs.Tg
open Go.RowKit

theorem add_block (a : Addr) (n : Nat) : (a.add n).block = a.block := by unfold Addr.add; split <;> rfl
theorem add_add (a : Addr) (i j : Nat) : (a.add i).add j = a.add (i + j) := by
 unfold Addr.add
 by_cases hi : i = 0 <;> by_cases hj : j = 0 <;> simp [hi, hj, Nat.add_assoc]
theorem add_lit (b o j : Nat) : (⟨b, o, none⟩ : Addr).add j = ⟨b, o + j, none⟩ := by
 unfold Addr.add
 by_cases hj : j = 0 <;> simp [hj]

/-- The cells xs lie from the address on. -/
def At (w : World) (ad : Addr) (xs : List Value) : Prop := ∀ j u, xs[j]? = some u → w.cell? (ad.add j) = some u
/-- A slice of n elements of sz cells each, at A: the cells that it holds. -/
structure Sl (w : World) (A : Option Addr) (n sz : Nat) (xs : List Value) : Prop where
  len : xs.length = n * sz
  lies : 0 < n → ∃ ad, A = some ad ∧ ad.block < w.heap.size ∧ At w ad xs

theorem At.keep {w w' : World} {ad : Addr} {xs : List Value} {B : Nat} (h : At w ad xs) (hb : Below B w w') (hB : ad.block < B) : At w' ad xs :=
  fun j u hu => (hb.cell (p := ad.add j) (by rw [add_block]; exact hB)).trans (h j u hu)
theorem Sl.keep {w w' : World} {A : Option Addr} {n sz : Nat} {xs : List Value} (h : Sl w A n sz xs) (hb : Below w.heap.size w w') : Sl w' A n sz xs :=
  ⟨h.len, fun hn => by
   obtain ⟨ad, e, hl, ha⟩ := h.lies hn
   exact ⟨ad, e, Nat.lt_of_lt_of_le hl hb.size, ha.keep hb hl⟩⟩
theorem Sl.nil (w : World) (A : Option Addr) (sz : Nat) : Sl w A 0 sz [] := ⟨by simp, fun h => absurd h (by omega)⟩
theorem Sl.at1 {w : World} {A : Option Addr} {n : Nat} {xs : List Value} (h : Sl w A n 1 xs) {k : Nat} (hk : k < n) : ∃ ad, A = some ad ∧ w.cell? (ad.add k) = some (xs[k]'(by have := h.len; omega)) := by
 obtain ⟨ad, rfl, _, hc⟩ := h.lies (by omega)
 exact ⟨ad, rfl, hc k _ (List.getElem?_eq_getElem _)⟩
/-- What a row of the call's own holds can be read. -/
theorem Sl.of_own {w : World} {base : Nat} {e : TypeId} {sz n : Nat} {v : Value} {xs : List Value} (h : w.ownsRow base e sz v n xs) : ∃ A c, v = .slice A n c ∧ n ≤ c ∧ Sl w A n sz xs := by
 rcases h.2 with ⟨rfl, rfl⟩ | ⟨g, cap, cur, rfl, hb, hg, hn, _, _, _⟩
 ·have hx : xs = [] := List.eq_nil_of_length_eq_zero (by simpa using h.1)
  subst hx
  exact ⟨none, 0, rfl, Nat.le_refl _, Sl.nil _ _ _⟩
 ·refine ⟨_, _, rfl, hn, h.1, fun _ => ⟨_, rfl, ?_, h.cells (g := g) rfl⟩⟩
  exact (Array.getElem?_eq_some_iff.1 hg).1
theorem Sl.own {w : World} {base : Nat} {t : TypeId} {sz n c : Nat} {A : Option Addr} {xs : List Value} (h : w.ownsRow base t sz (.slice A n c) n xs) : Sl w A n sz xs := by
 obtain ⟨A', c', hv, _, hS⟩ := Sl.of_own h
 injection hv with h1 h2 h3
 subst h1
 exact hS
/-- Two rows of the call's own whose element types differ lie in different blocks. -/
theorem own_ne {w : World} {b b' : Nat} {t t' : TypeId} {sz sz' n n' : Nat} {v v' : Value} {xs xs' : List Value} (h : w.ownsRow b t sz v n xs) (h' : w.ownsRow b' t' sz' v' n' xs') (hne : t ≠ t') :
    v.ownBlock = none ∨ v.ownBlock ≠ v'.ownBlock := by
  rcases h.2 with ⟨rfl, _⟩ | ⟨g, cap, cur, rfl, _, hg, _⟩
  ·exact .inl rfl
  ·refine .inr ?_
   rcases h'.2 with ⟨rfl, _⟩ | ⟨g', cap', cur', rfl, _, hg', _⟩
   ·simp [Value.ownBlock]
   ·intro e
    have : g = g' := by simpa [Value.ownBlock] using e
    subst this
    rw [hg] at hg'
    injection hg' with hg'
    injection hg' with _ ht
    exact hne ht
def vi (x : Int) : Value := .int .i64 x
abbrev Ints (w : World) (A : Option Addr) (xs : List Int) : Prop := Sl w A xs.length 1 (xs.map vi)
theorem Ints.at {w : World} {A : Option Addr} {xs : List Int} (h : Ints w A xs) {k : Nat} (hk : k < xs.length) : ∃ ad, A = some ad ∧ w.cell? (ad.add k) = some (.int .i64 xs[k]) := by
 obtain ⟨ad, rfl, hc⟩ := Sl.at1 h hk
 exact ⟨ad, rfl, by simpa [vi] using hc⟩
/-- Block g is just the cells cs, none frozen. -/
def Blk (w : World) (g : Nat) (t : TypeId) (cs : Array Value) : Prop := w.heap[g]? = some (.cells cs t (0, 0))
theorem Blk.lt {w : World} {g : Nat} {t : TypeId} {cs : Array Value} (h : Blk w g t cs) : g < w.heap.size := (Array.getElem?_eq_some_iff.1 h).1
theorem Blk.cell {w : World} {g : Nat} {t : TypeId} {cs : Array Value} (h : Blk w g t cs) (i : Nat) : w.cell? ⟨g, i, none⟩ = cs[i]? := cell_of_row w g i cs t (0, 0) h
theorem Blk.frozen {w : World} {g : Nat} {t : TypeId} {cs : Array Value} (h : Blk w g t cs) (i : Nat) : w.frozen? ⟨g, i, none⟩ = false := by
 unfold Blk at h
 simp [World.frozen?, h]
theorem own_blk_ne {w : World} {b g : Nat} {t t' : TypeId} {sz n : Nat} {v : Value} {xs : List Value} {cs : Array Value} (h : w.ownsRow b t sz v n xs) (hg : Blk w g t' cs) (hne : t ≠ t') : some g ≠ v.ownBlock := by
 rcases h.2 with ⟨rfl, _⟩ | ⟨g', cap, cur, rfl, _, hh, _⟩
 ·simp [Value.ownBlock]
 ·intro e
  have : g = g' := by simpa [Value.ownBlock] using e
  subst this
  unfold Blk at hg
  rw [hh] at hg
  injection hg with hg
  injection hg with _ ht
  exact hne ht
theorem Blk.keep {w w' : World} {g : Nat} {t : TypeId} {cs : Array Value} {B : Nat} (h : Blk w g t cs) (hb : Below B w w') (hg : g < B) : Blk w' g t cs := (hb.block g hg).trans h
theorem Blk.grown {w w' : World} {g : Nat} {t : TypeId} {cs : Array Value} {row : Option Nat} (h : Blk w g t cs) (hb : w.grownBy w' row) (hg : some g ≠ row) : Blk w' g t cs := (hb.block g h.lt hg).trans h
theorem Blk.alloc {w : World} {g : Nat} {t : TypeId} {cs : Array Value} (h : Blk w g t cs) (o : Obj) : Blk (w.alloc o) g t cs := (Below.heap_alloc w o g h.lt).trans h
theorem Blk.drew {w : World} {g : Nat} {t : TypeId} {cs : Array Value} (h : Blk w g t cs) : Blk w.drew g t cs := h
theorem Blk.new (w : World) (t : TypeId) (cs : Array Value) : Blk (w.alloc (.cells cs t)) w.heap.size t cs := heap_alloc_new w _
theorem Blk.set {w : World} {g : Nat} {t : TypeId} {cs : Array Value} (h : Blk w g t cs) (i : Nat) (u : Value) : Blk (w.setCell ⟨g, i, none⟩ u) g t (cs.setIfInBounds i u) := by
 unfold Blk at h ⊢
 simp [World.setCell, Array.getElem?_modify, h]
theorem Blk.far {w : World} {g : Nat} {t : TypeId} {cs : Array Value} (h : Blk w g t cs) {p : Addr} (hp : g ≠ p.block) (u : Value) : Blk (w.setCell p u) g t cs := (Below.heap_setCell w p u g hp).trans h
theorem own_below {w w' : World} {b B : Nat} {t : TypeId} {sz n : Nat} {v : Value} {xs : List Value} (h : w.ownsRow b t sz v n xs) (hb : Below B w w') (hB : w.heap.size ≤ B) : w'.ownsRow b t sz v n xs :=
  h.kept (row := none) ⟨hb.os, hb.tape, hb.output, hb.size, fun k hk _ => hb.block k (by omega)⟩ (by cases hv : v.ownBlock <;> simp)
theorem own_far {w : World} {b : Nat} {t : TypeId} {sz n : Nat} {v : Value} {xs : List Value} (h : w.ownsRow b t sz v n xs) {p : Addr} (hp : some p.block ≠ v.ownBlock) (u : Value) : (w.setCell p u).ownsRow b t sz v n xs :=
  h.kept (row := some p.block) ⟨rfl, rfl, rfl, by simp [World.setCell], fun k _ hk => Below.heap_setCell w p u k (fun e => hk (by rw [e]))⟩ (by cases hv : v.ownBlock <;> simp_all; exact fun e => hp e.symm)
theorem own_base {w : World} {b b' : Nat} {t : TypeId} {sz n : Nat} {v : Value} {xs : List Value} (h : w.ownsRow b t sz v n xs) (hb : b' ≤ b) : w.ownsRow b' t sz v n xs := by
 refine ⟨h.1, ?_⟩
 rcases h.2 with h2 | ⟨g, cap, cur, hv, hg, r⟩
 ·exact .inl h2
 ·exact .inr ⟨g, cap, cur, hv, Nat.le_trans hb hg, r⟩
theorem below_drewN {B : Nat} {a w : World} (h : Below B a w) (n : Nat) : Below B a (w.drewN n) := ⟨h.os, h.tape, h.output, h.size, h.block⟩
theorem keep_cell {W w' : World} (hb : Below W.heap.size W w') {p : Addr} {v : Value} (h : W.cell? p = some v) : w'.cell? p = some v := (hb.cell (World.block_lt_of_cell? W p h)).trans h
theorem cell_alloc {W : World} {p : Addr} {v : Value} (h : W.cell? p = some v) (o : Obj) : (W.alloc o).cell? p = some v := (World.cell?_alloc_lt W o p (World.block_lt_of_cell? W p h)).trans h
theorem below_all {a w w' : World} (h : Below a.heap.size a w) (k : Below w.heap.size w w') : Below a.heap.size a w' := h.trans (k.mono h.size)
/-- A store into a cell that holds what the slice does not hold. -/
theorem Sl.put {w : World} {A : Option Addr} {n sz : Nat} {xs : List Value} (h : Sl w A n sz xs) {p : Addr} {v : Value} (hp : w.cell? p = some v) (hv : v ∉ xs) (u : Value) : Sl (w.setCell p u) A n sz xs :=
  ⟨h.len, fun hn => by
   obtain ⟨ad, e, hl, ha⟩ := h.lies hn
   refine ⟨ad, e, by simpa [World.setCell] using hl, fun j x hx => ?_⟩
   have hj := ha j x hx
   have hne : p ≠ ad.add j := by
    rintro rfl
    rw [hp] at hj
    injection hj with hj
    subst hj
    exact hv (List.mem_of_getElem? hx)
   rw [World.cell?_setCell_other _ _ _ _ hne]
   exact hj⟩
theorem Blk.two {w : World} {g : Nat} {t : TypeId} {a b : Value} (h : Blk w g t #[a, b]) : w.cell? ⟨g, 0, none⟩ = some a ∧ w.cell? ⟨g, 1, none⟩ = some b ∧ w.frozen? ⟨g, 0, none⟩ = false ∧ w.frozen? ⟨g, 1, none⟩ = false :=
  ⟨h.cell 0, h.cell 1, h.frozen 0, h.frozen 1⟩
theorem Blk.three {w : World} {g : Nat} {t : TypeId} {a b c : Value} (h : Blk w g t #[a, b, c]) : w.cell? ⟨g, 0, none⟩ = some a ∧ w.cell? ⟨g, 1, none⟩ = some b ∧ w.cell? ⟨g, 2, none⟩ = some c ∧ w.frozen? ⟨g, 0, none⟩ = false ∧ w.frozen? ⟨g, 1, none⟩ = false ∧ w.frozen? ⟨g, 2, none⟩ = false :=
  ⟨h.cell 0, h.cell 1, h.cell 2, h.frozen 0, h.frozen 1, h.frozen 2⟩
theorem Blk.four {w : World} {g : Nat} {t : TypeId} {a b c d : Value} (h : Blk w g t #[a, b, c, d]) : w.cell? ⟨g, 0, none⟩ = some a ∧ w.cell? ⟨g, 1, none⟩ = some b ∧ w.cell? ⟨g, 2, none⟩ = some c ∧ w.cell? ⟨g, 3, none⟩ = some d ∧
    w.frozen? ⟨g, 0, none⟩ = false ∧ w.frozen? ⟨g, 1, none⟩ = false ∧ w.frozen? ⟨g, 2, none⟩ = false ∧ w.frozen? ⟨g, 3, none⟩ = false :=
  ⟨h.cell 0, h.cell 1, h.cell 2, h.cell 3, h.frozen 0, h.frozen 1, h.frozen 2, h.frozen 3⟩
end Go.Proofs.Tg
end
section
/- Words for memory, more: a slice that lies outside a block. -/
namespace Go.Proofs.Tg
open Go.RowKit
/-- The slice does not lie in block g. -/
def Off (A : Option Addr) (n g : Nat) : Prop := 0 < n → ∀ ad, A = some ad → ad.block ≠ g
theorem Sl.far {w : World} {A : Option Addr} {n sz g : Nat} {xs : List Value} (h : Sl w A n sz xs) (ho : Off A n g) (i : Nat) (u : Value) : Sl (w.setCell ⟨g, i, none⟩ u) A n sz xs :=
  ⟨h.len, fun hn => by
   obtain ⟨ad, e, hl, ha⟩ := h.lies hn
   refine ⟨ad, e, by simpa [World.setCell] using hl, fun j x hx => ?_⟩
   rw [World.cell?_setCell_other _ _ _ _ (fun e' => ho hn ad e (by rw [← add_block ad j, ← e']))]
   exact ha j x hx⟩
theorem below_far {w w' : World} {B g : Nat} (h : Below B w w') (hg : B ≤ g) (i : Nat) (u : Value) : Below B w (w'.setCell ⟨g, i, none⟩ u) := h.setCell hg u
end Go.Proofs.Tg
end
section
/- Lists of numbers in memory; comparisons of numbers and of lists; small lists. -/
namespace Go.Gr
def cmpI (a b : Int) : Int := if a < b then -1 else if b < a then 1 else 0
end Go.Gr
namespace Go.Proofs.Tg
open Go.RowKit Go.Gr
set_option maxHeartbeats 1000000
set_option maxRecDepth 100000
/-- A slice of slices of numbers. -/
def Lists (w : World) (V : Option Addr) (ls : List (List Int)) : Prop :=
  ∃ f : Nat → Option Addr × Nat, Sl w V ls.length 1 ((List.range ls.length).map fun i => .slice (f i).1 (ls.getD i []).length (f i).2) ∧ ∀ i, i < ls.length → Ints w (f i).1 (ls.getD i [])
theorem Lists.keep {w w' : World} {V : Option Addr} {ls : List (List Int)} (h : Lists w V ls) (hb : Below w.heap.size w w') : Lists w' V ls := by
 obtain ⟨f, hs, hr⟩ := h
 exact ⟨f, hs.keep hb, fun i hi => (hr i hi).keep hb⟩
theorem Lists.at {w : World} {V : Option Addr} {ls : List (List Int)} (h : Lists w V ls) {k : Nat} (hk : k < ls.length) : ∃ ad A c, V = some ad ∧ w.cell? (ad.add k) = some (.slice A ls[k].length c) ∧ Ints w A ls[k] := by
 obtain ⟨f, hs, hr⟩ := h
 obtain ⟨ad, rfl, hc⟩ := Sl.at1 hs hk
 have e : ls.getD k [] = ls[k] := by simp [hk]
 have hi := hr k hk
 rw [e] at hi
 refine ⟨ad, (f k).1, (f k).2, rfl, ?_, hi⟩
 rw [hc]
 simp [hk]
def iarr (l : List Int) : Array Value := (l.map vi).toArray
theorem iarr_made (n : Nat) : madeCells #[.int .i64 0] n = iarr (List.replicate n 0) := by
 apply Array.ext
 ·simp [iarr, size_madeCells]
 ·intro i h1 h2
  simp [madeCells, iarr, vi, Nat.mod_one]
theorem iarr_set (l : List Int) (k : Nat) (s : Int) : (iarr l).setIfInBounds k (.int .i64 s) = iarr (l.set k s) := by
 simp [iarr, List.map_set, vi]
theorem iarr_at (l : List Int) {k : Nat} (hk : k < l.length) : (iarr l)[k]? = some (.int .i64 l[k]) := by simp [iarr, hk, vi]
theorem own_iarr {w : World} {b g n : Nat} {l : List Int} (h : Blk w g 3 (iarr l)) (hb : b ≤ g) (hn : l.length = n) (hm : n ≤ 1000000) : w.ownsRow b 3 1 (.slice (some ⟨g, 0, none⟩) n n) n (l.map vi) :=
  ⟨by simp [hn], .inr ⟨g, n, _, rfl, hb, h, Nat.le_refl _, by simp only [maxLen]; omega, by simp [iarr, hn], by rw [← hn]; simp only [iarr, Nat.mul_one]; exact List.take_of_length_le (by simp)⟩⟩
/-- The world has turned in draws alone. -/
def Dr (w w' : World) : Prop := ∃ n, w' = w.drewN n
theorem Dr.refl (w : World) : Dr w w := ⟨0, rfl⟩
theorem Dr.below {w w' : World} (h : Dr w w') : Below w.heap.size w w' := by
 obtain ⟨n, rfl⟩ := h
 exact below_drewN (Below.refl _ _) n
theorem Dr.drewN {w w' : World} (h : Dr w w') (k : Nat) : Dr w (w'.drewN k) := by
 obtain ⟨n, rfl⟩ := h
 exact ⟨n + k, by rw [World.drewN_drewN]⟩
theorem ints_any (A B : Option Addr) (xs ys : List Int) (c d : Nat) (w : World) (hx : Ints w A xs) (hy : Ints w B ys) (hn : xs.length ≤ 1000000) :
    Calls Tryz.prog 45 #[.slice A xs.length c, .slice B ys.length d] w fun e w' => e = .returned (.bool (decide (xs = ys))) ∧ Dr w w' := by
  by_cases hl : xs.length = ys.length
  ·have hb : ((xs.length : Int) != (ys.length : Int)) = false := by simp [hl]
   have HL := Lib.hid hl; clear hl
   go_enter Tryz.func45, Tryz.ntmps45
   go_wp2
   go_loopw [5] (fun i wr => ∃ k : Nat, k ≤ xs.length ∧ i = .int .i64 k ∧ Hid (xs.take k = ys.take k) ∧ Dr w wr) (fun i _ => xs.length - (intOf i).toNat)
   case atStart => exact ⟨0, Nat.zero_le _, rfl, Lib.hid (by simp), Dr.refl _⟩
   case round =>
    obtain ⟨k, hk, rfl, HT, hbw⟩ := hrel
    by_cases hlt : k < xs.length
    ·have hky : k < ys.length := by have := HL.out; omega
     obtain ⟨ad, rfl, hc⟩ := Ints.at (hx.keep hbw.below) hlt
     obtain ⟨bd, rfl, hd⟩ := Ints.at (hy.keep hbw.below) hky
     have HX : Hid (xs.take (k + 1) = xs.take k ++ [xs[k]]) := Lib.hid (List.take_succ_eq_append_getElem hlt)
     have HY : Hid (ys.take (k + 1) = ys.take k ++ [ys[k]]) := Lib.hid (List.take_succ_eq_append_getElem hky)
     have HNE : Hid (xs = ys → xs[k] = ys[k]) := Lib.hid (fun e => by subst e; rfl)
     clear hx hy
     generalize xs[k] = x at hc HX HNE
     generalize ys[k] = y at hd HY HNE
     by_cases heq : x = y
     ·have hbb : (x != y) = false := by simp [heq]
      have HE := Lib.hid heq; clear heq
      go_wp2
      go_quiet (fail)
      go_wp2
      go_roundw
      case rel => exact ⟨k + 1, by omega, by go_num, Lib.hid (by rw [HX.out, HY.out, HT.out, HE.out]), hbw.drewN _⟩
      case measure => simp [intOf]; omega
     ·have hbb : (x != y) = true := by simp [heq]
      have HF : Hid (decide (xs = ys) = false) := Lib.hid (decide_eq_false (fun e => heq (HNE.out e)))
      clear heq
      go_wp2
      go_quiet (fail)
      go_wp2
      go_ret
      exact ⟨by rw [HF.out]; rfl, hbw.drewN _⟩
    ·have HF : Hid (decide (xs = ys) = true) := Lib.hid (decide_eq_true (by
      have := HT.out
      rwa [List.take_of_length_le (by omega), List.take_of_length_le (by have := HL.out; omega)] at this))
     go_wp2
     go_ret
     exact ⟨by rw [HF.out]; rfl, hbw⟩
  ·have hb : ((xs.length : Int) != (ys.length : Int)) = true := by simp; omega
   have HF : Hid (decide (xs = ys) = false) := Lib.hid (decide_eq_false (fun e => hl (by rw [e])))
   clear hl
   go_enter Tryz.func45, Tryz.ntmps45
   go_wp2
   go_ret
   exact ⟨by rw [HF.out]; rfl, Dr.refl _⟩
theorem lists_any (A B : Option Addr) (xs ys : List (List Int)) (c d : Nat) (w : World) (hx : Lists w A xs) (hy : Lists w B ys) (hn : xs.length ≤ 1000000) (hi : ∀ l ∈ xs, l.length ≤ 1000000) :
    Calls Tryz.prog 15 #[.slice A xs.length c, .slice B ys.length d] w fun e w' => e = .returned (.bool (decide (xs = ys))) ∧ Dr w w' := by
  have HI := Lib.hid hi
  clear hi
  by_cases hl : xs.length = ys.length
  ·have hb : ((xs.length : Int) != (ys.length : Int)) = false := by simp [hl]
   have HL := Lib.hid hl; clear hl
   go_enter Tryz.func15, Tryz.ntmps15
   go_wp2
   go_loopw [5] (fun i wr => ∃ k : Nat, k ≤ xs.length ∧ i = .int .i64 k ∧ Hid (xs.take k = ys.take k) ∧ Dr w wr) (fun i _ => xs.length - (intOf i).toNat)
   case atStart => exact ⟨0, Nat.zero_le _, rfl, Lib.hid (by simp), Dr.refl _⟩
   case round =>
    obtain ⟨k, hk, rfl, HT, hbw⟩ := hrel
    by_cases hlt : k < xs.length
    ·have hky : k < ys.length := by have := HL.out; omega
     obtain ⟨ad, A1, c1, rfl, hc, hA1⟩ := Lists.at (hx.keep hbw.below) hlt
     obtain ⟨bd, B1, d1, rfl, hd, hB1⟩ := Lists.at (hy.keep hbw.below) hky
     have HX : Hid (xs.take (k + 1) = xs.take k ++ [xs[k]]) := Lib.hid (List.take_succ_eq_append_getElem hlt)
     have HY : Hid (ys.take (k + 1) = ys.take k ++ [ys[k]]) := Lib.hid (List.take_succ_eq_append_getElem hky)
     have HNE : Hid (xs = ys → xs[k] = ys[k]) := Lib.hid (fun e => by subst e; rfl)
     have hlen := HI.out xs[k] (List.getElem_mem _)
     clear hx hy
     generalize xs[k] = x at hc HX HNE hA1 hlen
     generalize ys[k] = y at hd HY HNE hB1
     have hq := fun W (h : Dr wr W) => ints_any A1 B1 x y c1 d1 W (hA1.keep h.below) (hB1.keep h.below) hlen
     by_cases heq : x = y
     ·have HQ : Hid (∀ W, Dr wr W → Calls Tryz.prog 45 #[.slice A1 x.length c1, .slice B1 y.length d1] W fun e w' => e = .returned (.bool true) ∧ ∃ m, w' = W.drewN m) := Lib.hid (fun W h => (hq W h).mono fun e w' h2 => ⟨by rw [h2.1, decide_eq_true heq], h2.2⟩)
      have HE := Lib.hid heq; clear heq hq
      go_wp2
      go_quiet ((go_at_call 45; exact Calls.quiet_of (HQ.out _ ⟨_, rfl⟩)))
      go_wp2
      go_roundw
      case rel => exact ⟨k + 1, by omega, by go_num, Lib.hid (by rw [HX.out, HY.out, HT.out, HE.out]), hbw.drewN _⟩
      case measure => simp [intOf]; omega
     ·have HF : Hid (decide (xs = ys) = false) := Lib.hid (decide_eq_false (fun e => heq (HNE.out e)))
      have HQ : Hid (∀ W, Dr wr W → Calls Tryz.prog 45 #[.slice A1 x.length c1, .slice B1 y.length d1] W fun e w' => e = .returned (.bool false) ∧ ∃ m, w' = W.drewN m) := Lib.hid (fun W h => (hq W h).mono fun e w' h2 => ⟨by rw [h2.1, decide_eq_false heq], h2.2⟩)
      clear heq hq
      go_wp2
      go_quiet ((go_at_call 45; exact Calls.quiet_of (HQ.out _ ⟨_, rfl⟩)))
      go_wp2
      go_ret
      exact ⟨by rw [HF.out]; rfl, hbw.drewN _⟩
    ·have HF : Hid (decide (xs = ys) = true) := Lib.hid (decide_eq_true (by
      have := HT.out
      rwa [List.take_of_length_le (by omega), List.take_of_length_le (by have := HL.out; omega)] at this))
     go_wp2
     go_ret
     exact ⟨by rw [HF.out]; rfl, hbw⟩
  ·have hb : ((xs.length : Int) != (ys.length : Int)) = true := by simp; omega
   have HF : Hid (decide (xs = ys) = false) := Lib.hid (decide_eq_false (fun e => hl (by rw [e])))
   clear hl
   go_enter Tryz.func15, Tryz.ntmps15
   go_wp2
   go_ret
   exact ⟨by rw [HF.out]; rfl, Dr.refl _⟩
theorem small_any (V : Option Addr) (c n m : Nat) (ls : List (List Int)) (b : Bool) (w : World) (hV : Lists w V ls) (hv : b = true ↔ ls.length ≤ n ∧ ∀ l ∈ ls, l.length ≤ m) (hn : n ≤ 1000) :
    Calls Tryz.prog 7 #[.slice V ls.length c, .int .i64 n, .int .i64 m] w fun e w' => e = .returned (.bool b) ∧ w = w' := by
  have HV := Lib.hid hv
  clear hv
  by_cases hl : ls.length ≤ n
  ·have hd : decide ((n : Int) < (ls.length : Int)) = false := by simp; omega
   have hd' : decide (n < ls.length) = false := by simp; omega
   go_enter Tryz.func7, Tryz.ntmps7
   go_wp2
   go_loop [7] (fun i => ∃ k : Nat, i = .int .i64 k ∧ k ≤ ls.length ∧ Hid (∀ l ∈ ls.take k, l.length ≤ m)) (fun i => ls.length - (intOf i).toNat)
   case atStart => exact ⟨0, rfl, Nat.zero_le _, Lib.hid (by simp)⟩
   case round =>
    obtain ⟨k, rfl, hk, HG⟩ := hrel
    by_cases hkl : k < ls.length
    ·obtain ⟨ad, A, cl, rfl, hc, hA⟩ := Lists.at hV hkl
     have HM : Hid (ls[k] ∈ ls) := Lib.hid (List.getElem_mem _)
     have HT0 : Hid (ls.take (k + 1) = ls.take k ++ [ls[k]]) := Lib.hid (List.take_succ_eq_append_getElem hkl)
     generalize ls[k] = l at hc hA HM HT0
     by_cases hm : l.length ≤ m
     ·have hb1 : decide ((m : Int) < (l.length : Int)) = false := by simp; omega
      have hb1' : decide (m < l.length) = false := by simp; omega
      have HG2 : Hid (∀ l ∈ ls.take (k + 1), l.length ≤ m) := Lib.hid (by
       rw [HT0.out]
       intro l' hl'
       rcases List.mem_append.1 hl' with h | h
       ·exact HG.out l' h
       ·simp at h; subst h; exact hm)
      go_wp2
      go_round
      case rel => exact ⟨k + 1, by go_num, by omega, HG2⟩
      case measure => simp [intOf]; omega
     ·have hb1 : decide ((m : Int) < (l.length : Int)) = true := by simp; omega
      have hb1' : decide (m < l.length) = true := by simp; omega
      obtain rfl : b = false := by
       cases b
       ·rfl
       ·exact absurd ((HV.out.1 rfl).2 l HM.out) hm
      go_wp2
      go_ret
      exact ⟨rfl, rfl⟩
    ·obtain rfl : k = ls.length := by omega
     obtain rfl : b = true := HV.out.2 ⟨hl, by have := HG.out; rwa [List.take_length] at this⟩
     go_wp2
     go_ret
     exact ⟨rfl, rfl⟩
  ·have hd : decide ((n : Int) < (ls.length : Int)) = true := by simp; omega
   have hd' : decide (n < ls.length) = true := by simp; omega
   obtain rfl : b = false := by
    cases b
    ·rfl
    ·exact absurd (HV.out.1 rfl).1 hl
   go_enter Tryz.func7, Tryz.ntmps7
   go_wp2
   go_ret
   exact ⟨rfl, rfl⟩
end Go.Proofs.Tg
end
section
/- Plain mathematics of sets of numbers below 64 as bits of a number: how many there are (by the sums of neighbouring lanes), and the least one. -/
namespace Go.Gr

theorem and_split (k a b : Nat) : a &&& b = (a % 2 ^ k &&& b % 2 ^ k) + 2 ^ k * (a / 2 ^ k &&& b / 2 ^ k) := by
 rw [← Nat.and_mod_two_pow, ← Nat.and_div_two_pow]
 exact (Nat.mod_add_div _ _).symm
theorem and_split8 (a b : Nat) : a &&& b = (a % 256 &&& b % 256) + 256 * (a / 256 &&& b / 256) := and_split 8 a b

def lane1 (b : Nat) : Nat := (b / 2 &&& 85) + (b &&& 85)
def lane2 (b : Nat) : Nat := (b / 4 &&& 51) + (b &&& 51)
def lane3 (b : Nat) : Nat := (b / 16 + b) &&& 15
def pop8 (b : Nat) : Nat := b % 2 + b / 2 % 2 + b / 4 % 2 + b / 8 % 2 + b / 16 % 2 + b / 32 % 2 + b / 64 % 2 + b / 128 % 2
theorem lanes : ∀ b : Fin 256, lane3 (lane2 (lane1 b.val)) = pop8 b.val ∧ lane1 b.val ≤ 170 ∧ lane2 (lane1 b.val) ≤ 68 ∧ lane2 (lane1 b.val) / 16 ≤ 4 ∧ lane2 (lane1 b.val) % 16 ≤ 4 ∧ pop8 b.val ≤ 8 := by decide +kernel
theorem mask1 : ∀ b : Fin 128, ∀ c : Fin 2, (b.val + 128 * c.val) &&& 85 = b.val &&& 85 := by decide +kernel
theorem mask2 : ∀ b : Fin 64, ∀ c : Fin 4, (b.val + 64 * c.val) &&& 51 = b.val &&& 51 := by decide +kernel

def spread (m : Nat) : Nat → Nat
  | 0 => 0
  | k + 1 => m + 256 * spread m k
def lanesum (f : Nat → Nat) : Nat → Nat → Nat
  | 0, _ => 0
  | k + 1, x => f (x % 256) + 256 * lanesum f k (x / 256)
def every (p : Nat → Prop) : Nat → Nat → Prop
  | 0, _ => True
  | k + 1, x => p (x % 256) ∧ every p k (x / 256)

theorem spread_mod (m k : Nat) (h : m < 256) : spread m (k + 1) % 256 = m ∧ spread m (k + 1) / 256 = spread m k := by
 simp only [spread]; omega

theorem step1 : ∀ k x, (x / 2 &&& spread 85 k) + (x &&& spread 85 k) = lanesum lane1 k x
  | 0, x => by simp [spread, lanesum]
  | k + 1, x => by
    obtain ⟨h1, h2⟩ := spread_mod 85 k (by omega)
    rw [and_split8 (x / 2), and_split8 x, h1, h2]
    have e1 : x / 2 / 256 = x / 256 / 2 := by omega
    have e2 : x / 2 % 256 = x % 256 / 2 + 128 * (x / 256 % 2) := by omega
    have := mask1 ⟨x % 256 / 2, by omega⟩ ⟨x / 256 % 2, by omega⟩
    simp only at this
    rw [e1, e2, this]
    have ih := step1 k (x / 256)
    simp only [lanesum, ← ih, lane1]
    omega
theorem step2 : ∀ k x, (x / 4 &&& spread 51 k) + (x &&& spread 51 k) = lanesum lane2 k x
  | 0, x => by simp [spread, lanesum]
  | k + 1, x => by
    obtain ⟨h1, h2⟩ := spread_mod 51 k (by omega)
    rw [and_split8 (x / 4), and_split8 x, h1, h2]
    have e1 : x / 4 / 256 = x / 256 / 4 := by omega
    have e2 : x / 4 % 256 = x % 256 / 4 + 64 * (x / 256 % 4) := by omega
    have := mask2 ⟨x % 256 / 4, by omega⟩ ⟨x / 256 % 4, by omega⟩
    simp only at this
    rw [e1, e2, this]
    have ih := step2 k (x / 256)
    simp only [lanesum, ← ih, lane2]
    omega
def nib (b : Nat) : Prop := b ≤ 68 ∧ b / 16 ≤ 4 ∧ b % 16 ≤ 4
theorem mask3 (a : Nat) : a &&& 15 = a % 16 := Nat.and_two_pow_sub_one_eq_mod a 4
theorem step3 : ∀ k x, every nib k x → x < 256 ^ k → ((x / 16 + x) &&& spread 15 k) = lanesum lane3 k x
  | 0, x, _, hx => by simp [spread, lanesum]
  | k + 1, x, ⟨hn, hr⟩, hx => by
    obtain ⟨h1, h2⟩ := spread_mod 15 k (by omega)
    unfold nib at hn
    have hlt : x / 256 < 256 ^ k := by rw [Nat.pow_succ] at hx; omega
    have hc : x / 256 % 16 ≤ 4 := by
     cases k with
     | zero => simp at hlt; omega
     | succ k => have := hr.1; unfold nib at this; omega
    rw [and_split8, h1, h2]
    have e1 : (x / 16 + x) / 256 = x / 256 / 16 + x / 256 := by omega
    have e2 : (x / 16 + x) % 256 % 16 = (x % 256 / 16 + x % 256) % 16 := by omega
    rw [e1, step3 k (x / 256) hr hlt, mask3, e2, lanesum, lane3, mask3]

theorem lanesum_at (f : Nat → Nat) (k x : Nat) (h : f (x % 256) < 256) : lanesum f (k + 1) x % 256 = f (x % 256) ∧ lanesum f (k + 1) x / 256 = lanesum f k (x / 256) := by
 simp only [lanesum]; omega
theorem lanesum_comp (f g : Nat → Nat) (hg : ∀ b, b < 256 → g b < 256) : ∀ k x, lanesum f k (lanesum g k x) = lanesum (fun b => f (g b)) k x
  | 0, _ => rfl
  | k + 1, x => by
    obtain ⟨h1, h2⟩ := lanesum_at g k x (hg _ (by omega))
    rw [lanesum, h1, h2, lanesum_comp f g hg k]
    rfl
theorem lanesum_congr (f g : Nat → Nat) (h : ∀ b, b < 256 → f b = g b) : ∀ k x, lanesum f k x = lanesum g k x
  | 0, _ => rfl
  | k + 1, x => by simp only [lanesum, h (x % 256) (by omega), lanesum_congr f g h k]
theorem lanesum_lt (f : Nat → Nat) (h : ∀ b, b < 256 → f b < 256) : ∀ k x, lanesum f k x < 256 ^ k
  | 0, _ => by simp [lanesum]
  | k + 1, x => by
    have h1 := h (x % 256) (by omega)
    have h2 := lanesum_lt f h k (x / 256)
    simp only [lanesum, Nat.pow_succ]; omega
theorem every_lanesum (f : Nat → Nat) (p : Nat → Prop) (h : ∀ b, b < 256 → f b < 256 ∧ p (f b)) : ∀ k x, every p k (lanesum f k x)
  | 0, _ => trivial
  | k + 1, x => by
    obtain ⟨h1, h2⟩ := lanesum_at f k x (h _ (by omega)).1
    refine ⟨?_, ?_⟩
    ·rw [h1]; exact (h _ (by omega)).2
    ·rw [h2]; exact every_lanesum f p h k _

/-- How many of the first k bits are set. -/
def popc : Nat → Nat → Nat
  | 0, _ => 0
  | k + 1, x => x % 2 + popc k (x / 2)
theorem popc_le : ∀ k x, popc k x ≤ k
  | 0, _ => by simp [popc]
  | k + 1, x => by have := popc_le k (x / 2); simp only [popc]; omega
theorem popc_8 (k x : Nat) : popc (k + 8) x = pop8 (x % 256) + popc k (x / 256) := by
 have e : x / 2 / 2 / 2 / 2 / 2 / 2 / 2 / 2 = x / 256 := by omega
 have e7 : x / 2 / 2 / 2 / 2 / 2 / 2 / 2 % 2 = x % 256 / 128 % 2 := by omega
 have e6 : x / 2 / 2 / 2 / 2 / 2 / 2 % 2 = x % 256 / 64 % 2 := by omega
 have e5 : x / 2 / 2 / 2 / 2 / 2 % 2 = x % 256 / 32 % 2 := by omega
 have e4 : x / 2 / 2 / 2 / 2 % 2 = x % 256 / 16 % 2 := by omega
 have e3 : x / 2 / 2 / 2 % 2 = x % 256 / 8 % 2 := by omega
 have e2 : x / 2 / 2 % 2 = x % 256 / 4 % 2 := by omega
 have e1 : x / 2 % 2 = x % 256 / 2 % 2 := by omega
 have e0 : x % 2 = x % 256 % 2 := by omega
 simp only [popc, pop8]
 rw [e, e7, e6, e5, e4, e3, e2, e1, e0]
 simp only [Nat.add_assoc]
/-- The sums of the lanes of eight bits. -/
def swar (x : Nat) : Nat :=
  let a := (x / 2 &&& 6148914691236517205) + (x &&& 6148914691236517205)
  let b := (a / 4 &&& 3689348814741910323) + (a &&& 3689348814741910323)
  (b / 16 + b) &&& 1085102592571150095
theorem swar_lanes (x : Nat) : swar x = lanesum pop8 8 x := by
 have l1 : ∀ b, b < 256 → lane1 b < 256 := fun b hb => by have := (lanes ⟨b, hb⟩).2.1; simp only at this; omega
 have l2 : ∀ b, b < 256 → lane2 (lane1 b) < 256 ∧ nib (lane2 (lane1 b)) := fun b hb => by
  have := lanes ⟨b, hb⟩; simp only at this
  exact ⟨by omega, by unfold nib; omega⟩
 have e1 : (6148914691236517205 : Nat) = spread 85 8 := by decide +kernel
 have e2 : (3689348814741910323 : Nat) = spread 51 8 := by decide +kernel
 have e3 : (1085102592571150095 : Nat) = spread 15 8 := by decide +kernel
 unfold swar
 rw [e1, e2, e3]
 dsimp only
 rw [step1, step2, lanesum_comp lane2 lane1 l1, step3 8 _ (every_lanesum _ _ l2 8 x) (lanesum_lt _ (fun b hb => (l2 b hb).1) 8 x), lanesum_comp lane3 _ (fun b hb => (l2 b hb).1)]
 exact lanesum_congr _ _ (fun b hb => (lanes ⟨b, hb⟩).1) 8 x
theorem swar_bits (x : Nat) : ∃ c0 c1 c2 c3 c4 c5 c6 c7 : Nat, c0 ≤ 8 ∧ c1 ≤ 8 ∧ c2 ≤ 8 ∧ c3 ≤ 8 ∧ c4 ≤ 8 ∧ c5 ≤ 8 ∧ c6 ≤ 8 ∧ c7 ≤ 8 ∧ popc 64 x = c0 + c1 + c2 + c3 + c4 + c5 + c6 + c7 ∧
    swar x = c0 + 256 * c1 + 65536 * c2 + 16777216 * c3 + 4294967296 * c4 + 1099511627776 * c5 + 281474976710656 * c6 + 72057594037927936 * c7 := by
  have h8 : ∀ y : Nat, pop8 (y % 256) ≤ 8 := fun y => (lanes ⟨y % 256, by omega⟩).2.2.2.2.2
  refine ⟨_, _, _, _, _, _, _, _, h8 x, h8 (x / 256), h8 (x / 256 / 256), h8 (x / 256 / 256 / 256), h8 (x / 256 / 256 / 256 / 256), h8 (x / 256 / 256 / 256 / 256 / 256), h8 (x / 256 / 256 / 256 / 256 / 256 / 256), h8 (x / 256 / 256 / 256 / 256 / 256 / 256 / 256), ?_, ?_⟩
  ·have h : popc 64 x = pop8 (x % 256) + (pop8 (x / 256 % 256) + (pop8 (x / 256 / 256 % 256) + (pop8 (x / 256 / 256 / 256 % 256) + (pop8 (x / 256 / 256 / 256 / 256 % 256) + (pop8 (x / 256 / 256 / 256 / 256 / 256 % 256) +
       (pop8 (x / 256 / 256 / 256 / 256 / 256 / 256 % 256) + (pop8 (x / 256 / 256 / 256 / 256 / 256 / 256 / 256 % 256) + 0))))))) := by
     exact (popc_8 56 x).trans (congrArg _ ((popc_8 48 _).trans (congrArg _ ((popc_8 40 _).trans (congrArg _ ((popc_8 32 _).trans (congrArg _ ((popc_8 24 _).trans (congrArg _ ((popc_8 16 _).trans (congrArg _ ((popc_8 8 _).trans (congrArg _ (popc_8 0 _))))))))))))))
   rw [h]
   simp only [Nat.add_zero, Nat.add_assoc]
  ·rw [swar_lanes]
   simp only [lanesum]
   omega

/-- The set's elements. -/
def verts (s : Nat) : List Nat := (List.range 64).filter s.testBit
def size (s : Nat) : Nat := (verts s).length
theorem testBit_succ' (x i : Nat) : x.testBit (i + 1) = (x / 2).testBit i := by rw [Nat.testBit_succ]
theorem filter_popc : ∀ k x, ((List.range k).filter x.testBit).length = popc k x
  | 0, _ => rfl
  | k + 1, x => by
    rw [List.range_succ_eq_map, List.filter_cons, popc, ← filter_popc k (x / 2)]
    have e : ((List.map Nat.succ (List.range k)).filter x.testBit).length = ((List.range k).filter (x / 2).testBit).length := by
     rw [List.filter_map, List.length_map]
     congr 1
     apply List.filter_congr
     intro i _
     exact testBit_succ' x i
    have h0 : x.testBit 0 = decide (x % 2 = 1) := by rw [Nat.testBit_zero]
    rcases Nat.mod_two_eq_zero_or_one x with h | h
    ·simp [h, e, h0]
    ·simp [h, e, h0]; omega
theorem size_popc (s : Nat) : size s = popc 64 s := filter_popc 64 s
theorem size_le (s : Nat) : size s ≤ 64 := by rw [size_popc]; exact popc_le _ _

end Go.Gr
end
