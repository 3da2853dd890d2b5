/- Parts of the proof: A0, Mem, Mem2, WL1, WA, E1, NU1, NU3, N1. -/
import Derived.ProofKit
import Derived.Lib.Hide
import Derived.WalkKit
import Derived.WalkSpells
import Derived.Deep.Draws
import Derived.Deep.QuietTactic
import Derived.Test.YtbgaiceakmmfdaaGreatDoorProg
import Derived.WalkLawsBesides
import Derived.BigQuiet
import Derived.Laws.MakeOwn
import Derived.IntWalk
import Derived.Outline
import Derived.Laws.BitsAllLaws
import Derived.Lib.TrailingZeros
import Derived.Laws.Bits64b
import Derived.Laws.ShiftsVarLaws
import Derived.Lib.ItoaNum
set_option maxHeartbeats 64000000
set_option maxRecDepth 100000
namespace Go
section
open RowKit
theorem eqx {α : Sort _} (a : α) : ∃ x, a = x := ⟨a, rfl⟩
theorem put4 : (∀ (a : Act) (t : Tmp) (v : Value), a.put (some t) v = { a with tmps := a.tmps.setIfInBounds t v }) ∧ (∀ (l : List Value) (i : Nat) (v : Value), l.toArray.setIfInBounds i v = (l.set i v).toArray) ∧ (∀ (x v : Value) (l : List Value), (x :: l).set 0 v = v :: l) ∧ (∀ (x v : Value) (l : List Value) (i : Nat), (x :: l).set (i + 1) v = x :: l.set i v) :=
  ⟨fun _ _ _ => rfl, fun _ _ _ => by simp, fun _ _ _ => rfl, fun _ _ _ _ => rfl⟩
theorem zh {p : Prop} (h : p) : Hid p := Lib.hid h
theorem dT {p : Prop} [Decidable p] (h : p) : decide p = true := decide_eq_true h
theorem dF {p : Prop} [Decidable p] (h : ¬ p) : decide p = false := decide_eq_false h
theorem brf {n : Nat} {w : World} : Below n w w := Below.refl _ _
theorem bal {w : World} {o : Obj} : Below w.heap.size w (w.alloc o) := (Below.refl _ _).alloc (Nat.le_refl _) _
end
end Go
namespace Go.Proofs.Tg
section
open Go.RowKit

theorem add_block (a : Addr) (n : Nat) : (a.add n).block = a.block := by unfold Addr.add; split <;> rfl
theorem add_lit (b o j : Nat) : (⟨b, o, none⟩ : Addr).add j = ⟨b, o + j, none⟩ := by
 unfold Addr.add
 by_cases hj : j = 0 <;> simp [hj]

def At (w : World) (ad : Addr) (xs : List Value) : Prop := ∀ j u, xs[j]? = some u → w.cell? (ad.add j) = some u
structure Sl (w : World) (A : Option Addr) (n sz : Nat) (xs : List Value) : Prop where
  len : xs.length = n * sz
  lies : 0 < n → ∃ ad, A = some ad ∧ ad.block < w.heap.size ∧ At w ad xs

theorem At.keep {w w' : World} {ad : Addr} {xs : List Value} {B : Nat} (h : At w ad xs) (hb : Below B w w') (hB : ad.block < B) : At w' ad xs :=
  fun j u hu => (hb.cell (p := ad.add j) (by rw [add_block]; exact hB)).trans (h j u hu)
theorem Sl.keep {w w' : World} {A : Option Addr} {n sz : Nat} {xs : List Value} (h : Sl w A n sz xs) (hb : Below w.heap.size w w') : Sl w' A n sz xs :=
  ⟨h.len, fun hn => by
   obtain ⟨ad, e, hl, ha⟩ := h.lies hn
   exact ⟨ad, e, Nat.lt_of_lt_of_le hl hb.size, ha.keep hb hl⟩⟩
theorem Sl.nil (w : World) (A : Option Addr) (sz : Nat) : Sl w A 0 sz [] := ⟨by simp, fun h => absurd h (by omega)⟩
theorem Sl.at1 {w : World} {A : Option Addr} {n : Nat} {xs : List Value} (h : Sl w A n 1 xs) {k : Nat} (hk : k < n) : ∃ ad, A = some ad ∧ w.cell? (ad.add k) = some (xs[k]'(by have := h.len; omega)) := by
 obtain ⟨ad, rfl, _, hc⟩ := h.lies (by omega)
 exact ⟨ad, rfl, hc k _ (List.getElem?_eq_getElem _)⟩
theorem Sl.of_own {w : World} {base : Nat} {e : TypeId} {sz n : Nat} {v : Value} {xs : List Value} (h : w.ownsRow base e sz v n xs) : ∃ A c, v = .slice A n c ∧ n ≤ c ∧ Sl w A n sz xs := by
 rcases h.2 with ⟨rfl, rfl⟩ | ⟨g, cap, cur, rfl, hb, hg, hn, _, _, _⟩
 ·have hx : xs = [] := List.eq_nil_of_length_eq_zero (by simpa using h.1)
  subst hx; exact ⟨none, 0, rfl, Nat.le_refl _, Sl.nil _ _ _⟩
 ·refine ⟨_, _, rfl, hn, h.1, fun _ => ⟨_, rfl, ?_, h.cells (g := g) rfl⟩⟩
  exact (Array.getElem?_eq_some_iff.1 hg).1
def RetSl (n sz : Nat) (xs : List Value) (w : World) (e : Ending) (w' : World) : Prop :=
  ∃ A c, e = .returned (.slice A n c) ∧ n ≤ c ∧ Sl w' A n sz xs ∧ Below w.heap.size w w'
theorem Sl.own {w : World} {base : Nat} {t : TypeId} {sz n c : Nat} {A : Option Addr} {xs : List Value} (h : w.ownsRow base t sz (.slice A n c) n xs) : Sl w A n sz xs := by
 obtain ⟨A', c', hv, _, hS⟩ := Sl.of_own h
 injection hv with h1 h2 h3
 subst h1
 exact hS
theorem own_ne {w : World} {b b' : Nat} {t t' : TypeId} {sz sz' n n' : Nat} {v v' : Value} {xs xs' : List Value} (h : w.ownsRow b t sz v n xs) (h' : w.ownsRow b' t' sz' v' n' xs') (hne : t ≠ t') :
    v.ownBlock = none ∨ v.ownBlock ≠ v'.ownBlock := by
  rcases h.2 with ⟨rfl, _⟩ | ⟨g, cap, cur, rfl, _, hg, _⟩
  ·exact .inl rfl
  ·refine .inr ?_
   rcases h'.2 with ⟨rfl, _⟩ | ⟨g', cap', cur', rfl, _, hg', _⟩
   ·simp [Value.ownBlock]
   ·intro e
    have : g = g' := by simpa [Value.ownBlock] using e
    subst this; rw [hg] at hg'
    injection hg' with hg'
    injection hg' with _ ht
    exact hne ht
def vi (x : Int) : Value := .int .i64 x
def vs (x : Nat) : Value := .int .u64 x
abbrev Ints (w : World) (A : Option Addr) (xs : List Int) : Prop := Sl w A xs.length 1 (xs.map vi)
abbrev Sets (w : World) (A : Option Addr) (xs : List Nat) : Prop := Sl w A xs.length 1 (xs.map vs)
theorem Ints.at {w : World} {A : Option Addr} {xs : List Int} (h : Ints w A xs) {k : Nat} (hk : k < xs.length) : ∃ ad, A = some ad ∧ w.cell? (ad.add k) = some (.int .i64 xs[k]) := by
 obtain ⟨ad, rfl, hc⟩ := Sl.at1 h hk
 exact ⟨ad, rfl, by simpa [vi] using hc⟩
theorem Sets.at {w : World} {A : Option Addr} {xs : List Nat} (h : Sets w A xs) {k : Nat} (hk : k < xs.length) : ∃ ad, A = some ad ∧ w.cell? (ad.add k) = some (.int .u64 (xs[k] : Nat)) := by
 obtain ⟨ad, rfl, hc⟩ := Sl.at1 h hk
 exact ⟨ad, rfl, by simpa [vs] using hc⟩

def Blk (w : World) (g : Nat) (t : TypeId) (cs : Array Value) : Prop := w.heap[g]? = some (.cells cs t (0, 0))
theorem Blk.lt {w : World} {g : Nat} {t : TypeId} {cs : Array Value} (h : Blk w g t cs) : g < w.heap.size := (Array.getElem?_eq_some_iff.1 h).1
theorem Blk.cell {w : World} {g : Nat} {t : TypeId} {cs : Array Value} (h : Blk w g t cs) (i : Nat) : w.cell? ⟨g, i, none⟩ = cs[i]? := cell_of_row w g i cs t (0, 0) h
theorem Blk.frozen {w : World} {g : Nat} {t : TypeId} {cs : Array Value} (h : Blk w g t cs) (i : Nat) : w.frozen? ⟨g, i, none⟩ = false := by
 unfold Blk at h
 simp [World.frozen?, h]
theorem own_blk_ne {w : World} {b g : Nat} {t t' : TypeId} {sz n : Nat} {v : Value} {xs : List Value} {cs : Array Value} (h : w.ownsRow b t sz v n xs) (hg : Blk w g t' cs) (hne : t ≠ t') : some g ≠ v.ownBlock := by
 rcases h.2 with ⟨rfl, _⟩ | ⟨g', cap, cur, rfl, _, hh, _⟩
 ·simp [Value.ownBlock]
 ·intro e
  have : g = g' := by simpa [Value.ownBlock] using e
  subst this; unfold Blk at hg; rw [hh] at hg
  injection hg with hg
  injection hg with _ ht
  exact hne ht
theorem Blk.keep {w w' : World} {g : Nat} {t : TypeId} {cs : Array Value} {B : Nat} (h : Blk w g t cs) (hb : Below B w w') (hg : g < B) : Blk w' g t cs := (hb.block g hg).trans h
theorem Blk.grown {w w' : World} {g : Nat} {t : TypeId} {cs : Array Value} {row : Option Nat} (h : Blk w g t cs) (hb : w.grownBy w' row) (hg : some g ≠ row) : Blk w' g t cs := (hb.block g h.lt hg).trans h
theorem Blk.alloc {w : World} {g : Nat} {t : TypeId} {cs : Array Value} (h : Blk w g t cs) (o : Obj) : Blk (w.alloc o) g t cs := (Below.heap_alloc w o g h.lt).trans h
theorem Blk.drew {w : World} {g : Nat} {t : TypeId} {cs : Array Value} (h : Blk w g t cs) : Blk w.drew g t cs := h
theorem Blk.new (w : World) (t : TypeId) (cs : Array Value) : Blk (w.alloc (.cells cs t)) w.heap.size t cs := heap_alloc_new w _
theorem Blk.set {w : World} {g : Nat} {t : TypeId} {cs : Array Value} (h : Blk w g t cs) (i : Nat) (u : Value) : Blk (w.setCell ⟨g, i, none⟩ u) g t (cs.setIfInBounds i u) := by
 unfold Blk at h ⊢
 simp [World.setCell, Array.getElem?_modify, h]
theorem Blk.far {w : World} {g : Nat} {t : TypeId} {cs : Array Value} (h : Blk w g t cs) {p : Addr} (hp : g ≠ p.block) (u : Value) : Blk (w.setCell p u) g t cs := (Below.heap_setCell w p u g hp).trans h
theorem own_below {w w' : World} {b B : Nat} {t : TypeId} {sz n : Nat} {v : Value} {xs : List Value} (h : w.ownsRow b t sz v n xs) (hb : Below B w w') (hB : w.heap.size ≤ B) : w'.ownsRow b t sz v n xs :=
  h.kept (row := none) ⟨hb.os, hb.tape, hb.output, hb.size, fun k hk _ => hb.block k (by omega)⟩ (by cases hv : v.ownBlock <;> simp)
theorem own_far {w : World} {b : Nat} {t : TypeId} {sz n : Nat} {v : Value} {xs : List Value} (h : w.ownsRow b t sz v n xs) {p : Addr} (hp : some p.block ≠ v.ownBlock) (u : Value) : (w.setCell p u).ownsRow b t sz v n xs :=
  h.kept (row := some p.block) ⟨rfl, rfl, rfl, by simp [World.setCell], fun k _ hk => Below.heap_setCell w p u k (fun e => hk (by rw [e]))⟩ (by cases hv : v.ownBlock <;> simp_all; exact fun e => hp e.symm)
theorem own_base {w : World} {b b' : Nat} {t : TypeId} {sz n : Nat} {v : Value} {xs : List Value} (h : w.ownsRow b t sz v n xs) (hb : b' ≤ b) : w.ownsRow b' t sz v n xs := by
 refine ⟨h.1, ?_⟩
 rcases h.2 with h2 | ⟨g, cap, cur, hv, hg, r⟩
 ·exact .inl h2
 ·exact .inr ⟨g, cap, cur, hv, Nat.le_trans hb hg, r⟩
theorem below_drewN {B : Nat} {a w : World} (h : Below B a w) (n : Nat) : Below B a (w.drewN n) := ⟨h.os, h.tape, h.output, h.size, h.block⟩
theorem keep_cell {W w' : World} (hb : Below W.heap.size W w') {p : Addr} {v : Value} (h : W.cell? p = some v) : w'.cell? p = some v := (hb.cell (World.block_lt_of_cell? W p h)).trans h
theorem cell_alloc {W : World} {p : Addr} {v : Value} (h : W.cell? p = some v) (o : Obj) : (W.alloc o).cell? p = some v := (World.cell?_alloc_lt W o p (World.block_lt_of_cell? W p h)).trans h
theorem below_of_drewN {B n : Nat} {w w' : World} (h : Below B (w.drewN n) w') : Below B w w' := ⟨h.os, h.tape, h.output, h.size, h.block⟩
theorem below_all {a w w' : World} (h : Below a.heap.size a w) (k : Below w.heap.size w w') : Below a.heap.size a w' := h.trans (k.mono h.size)
theorem Sl.put {w : World} {A : Option Addr} {n sz : Nat} {xs : List Value} (h : Sl w A n sz xs) {p : Addr} {v : Value} (hp : w.cell? p = some v) (hv : v ∉ xs) (u : Value) : Sl (w.setCell p u) A n sz xs :=
  ⟨h.len, fun hn => by
   obtain ⟨ad, e, hl, ha⟩ := h.lies hn; refine ⟨ad, e, by simpa [World.setCell] using hl, fun j x hx => ?_⟩; have hj := ha j x hx
   have hne : p ≠ ad.add j := by
    rintro rfl; rw [hp] at hj
    injection hj with hj
    subst hj; exact hv (List.mem_of_getElem? hx)
   rw [World.cell?_setCell_other _ _ _ _ hne]
   exact hj⟩
theorem quiet_sm {P : Program} {f : FuncId} {args : Array Value} {w : World} {n : Nat} {v : Value} (h : Calls P f args (w.drewN n) fun e w' => e = .returned v ∧ w.drewN n = w') :
    Calls P f args (w.drewN n) fun e w'' => e = .returned v ∧ ∃ m, w'' = w.drewN m := h.mono fun _ _ ⟨he, hm⟩ => ⟨he, n, hm.symm⟩
theorem Blk.two {w : World} {g : Nat} {t : TypeId} {a b : Value} (h : Blk w g t #[a, b]) : w.cell? ⟨g, 0, none⟩ = some a ∧ w.cell? ⟨g, 1, none⟩ = some b ∧ w.frozen? ⟨g, 0, none⟩ = false ∧ w.frozen? ⟨g, 1, none⟩ = false :=
  ⟨h.cell 0, h.cell 1, h.frozen 0, h.frozen 1⟩
theorem Blk.three {w : World} {g : Nat} {t : TypeId} {a b c : Value} (h : Blk w g t #[a, b, c]) : w.cell? ⟨g, 0, none⟩ = some a ∧ w.cell? ⟨g, 1, none⟩ = some b ∧ w.cell? ⟨g, 2, none⟩ = some c ∧ w.frozen? ⟨g, 0, none⟩ = false ∧ w.frozen? ⟨g, 1, none⟩ = false ∧ w.frozen? ⟨g, 2, none⟩ = false :=
  ⟨h.cell 0, h.cell 1, h.cell 2, h.frozen 0, h.frozen 1, h.frozen 2⟩
theorem Blk.four {w : World} {g : Nat} {t : TypeId} {a b c d : Value} (h : Blk w g t #[a, b, c, d]) : w.cell? ⟨g, 0, none⟩ = some a ∧ w.cell? ⟨g, 1, none⟩ = some b ∧ w.cell? ⟨g, 2, none⟩ = some c ∧ w.cell? ⟨g, 3, none⟩ = some d ∧
    w.frozen? ⟨g, 0, none⟩ = false ∧ w.frozen? ⟨g, 1, none⟩ = false ∧ w.frozen? ⟨g, 2, none⟩ = false ∧ w.frozen? ⟨g, 3, none⟩ = false :=
  ⟨h.cell 0, h.cell 1, h.cell 2, h.cell 3, h.frozen 0, h.frozen 1, h.frozen 2, h.frozen 3⟩
def Off (A : Option Addr) (n g : Nat) : Prop := 0 < n → ∀ ad, A = some ad → ad.block ≠ g
theorem Sl.off {w : World} {A : Option Addr} {n sz g : Nat} {t : TypeId} {xs : List Value} {cs : Array Value} (h : Sl w A n sz xs) (hsz : 0 < sz) (B : Blk w g t cs) (hd : ∀ v ∈ cs.toList, v ∉ xs) : Off A n g := by
 intro hn ad he hg
 obtain ⟨ad', e, _, ha⟩ := h.lies hn
 rw [he] at e
 injection e with e
 subst e
 have hl : 0 < xs.length := by rw [h.len]; exact Nat.mul_pos hn hsz
 have hc := ha 0 xs[0] (List.getElem?_eq_getElem hl)
 have hb : (ad.add 0).block = g := by rw [add_block]; exact hg
 unfold Blk at B
 unfold World.cell? at hc
 rw [hb, B] at hc
 simp only at hc
 split at hc
 ·cases hc
 ·have := Array.mem_of_getElem? hc
  exact hd _ (by simpa using this) (List.getElem_mem hl)
theorem Sl.far {w : World} {A : Option Addr} {n sz g : Nat} {xs : List Value} (h : Sl w A n sz xs) (ho : Off A n g) (i : Nat) (u : Value) : Sl (w.setCell ⟨g, i, none⟩ u) A n sz xs :=
  ⟨h.len, fun hn => by
   obtain ⟨ad, e, hl, ha⟩ := h.lies hn; refine ⟨ad, e, by simpa [World.setCell] using hl, fun j x hx => ?_⟩; rw [World.cell?_setCell_other _ _ _ _ (fun e' => ho hn ad e (by rw [← add_block ad j, ← e']))]
   exact ha j x hx⟩
theorem Sl.alloc {w : World} {A : Option Addr} {n sz : Nat} {xs : List Value} (h : Sl w A n sz xs) (o : Obj) : Sl (w.alloc o) A n sz xs := h.keep (bal)
theorem below_far {w w' : World} {B g : Nat} (h : Below B w w') (hg : B ≤ g) (i : Nat) (u : Value) : Below B w (w'.setCell ⟨g, i, none⟩ u) := h.setCell hg u
end
end Go.Proofs.Tg
section
namespace Go.Gr
def cmpI (a b : Int) : Int := if a < b then -1 else if b < a then 1 else 0
end Go.Gr
namespace Go.Proofs.Tg
open Go.RowKit Go.Gr
theorem nan_any (a : Int) (w : World) : Calls Tryz.prog 124 #[.int .i64 a] w fun e w' => e = .returned (.bool false) ∧ w = w' := by
 go_enter Tryz.func124, Tryz.ntmps124
 go_wp2
 go_ret
 exact ⟨by simp, rfl⟩
theorem cmp_any (a b : Int) (w : World) : Calls Tryz.prog 102 #[.int .i64 a, .int .i64 b] w fun e w' => e = .returned (.int .i64 (cmpI a b)) ∧ w = w' := by
 by_cases h1 : a < b
 ·have e : cmpI a b = -1 := by unfold cmpI; rw [if_pos h1]
  rw [e]; clear e; go_enter Tryz.func102, Tryz.ntmps102
  go_wp2_with (go_at_call 124; refine (nan_any _ _).mono ?_; rintro e w' ⟨rfl, rfl⟩)
  go_ret; exact ⟨rfl, rfl⟩
 ·by_cases h2 : b < a
  ·have e : cmpI a b = 1 := by unfold cmpI; rw [if_neg h1, if_pos h2]
   rw [e]; clear e; go_enter Tryz.func102, Tryz.ntmps102
   go_wp2_with (go_at_call 124; refine (nan_any _ _).mono ?_; rintro e w' ⟨rfl, rfl⟩)
   go_ret; exact ⟨rfl, rfl⟩
  ·have e : cmpI a b = 0 := by unfold cmpI; rw [if_neg h1, if_neg h2]
   rw [e]; clear e; go_enter Tryz.func102, Tryz.ntmps102
   go_wp2_with (go_at_call 124; refine (nan_any _ _).mono ?_; rintro e w' ⟨rfl, rfl⟩)
   go_ret; exact ⟨rfl, rfl⟩
def Dr (w w' : World) : Prop := ∃ n, w' = w.drewN n
theorem Dr.refl (w : World) : Dr w w := ⟨0, rfl⟩
theorem Dr.below {w w' : World} (h : Dr w w') : Below w.heap.size w w' := by
 obtain ⟨n, rfl⟩ := h
 exact below_drewN brf n
theorem Dr.drewN {w w' : World} (h : Dr w w') (k : Nat) : Dr w (w'.drewN k) := by
 obtain ⟨n, rfl⟩ := h
 exact ⟨n + k, by rw [World.drewN_drewN]⟩
end Go.Proofs.Tg
end
section
namespace Go.Gr
end Go.Gr
namespace Go.Proofs.Tg
open Go.RowKit Go.Gr
def Tab (w : World) : Prop := 1 < w.heap.size ∧ ∀ j, j < 64 → w.cell? ⟨1, j, none⟩ = some (.int .u8 (Lib.deBruijn64tab.getD j 0))
theorem Tab.below {B : Nat} {w w' : World} (h : Tab w) (hb : Below B w w') (hB : 1 < B) : Tab w' :=
  ⟨Nat.lt_of_lt_of_le h.1 hb.size, fun j hj => (hb.cell (p := ⟨1, j, none⟩) hB).trans (h.2 j hj)⟩
theorem wrap_nat (n : Nat) (h : n < 18446744073709551616) : IntKind.u64.wrap (n : Int) = (n : Int) := by rw [IntKind.wrap_u64]; omega
theorem tz_core (x k idx : Nat) (w : World) (hx0 : ((x : Int) == 0) = false)
    (key : IntKind.u64.wrap (bits BinOp.and IntKind.u64 (x : Int) (IntKind.u64.wrap (-(x : Int))) * 285870213051353865) / 288230376151711744 = (idx : Int))
    (hi : idx < 64) (hk : k < 64) (hcell : w.cell? ⟨1, idx, none⟩ = some (.int .u8 k)) :
    Calls Tryz.prog 114 #[.int .u64 x] w fun e w' => e = .returned (.int .i64 k) ∧ w = w' := by
  go_enter Tryz.func114, Tryz.ntmps114
  go_wp2_with (simp only [key])
  go_ret; exact ⟨rfl, rfl⟩
theorem tz_key (x a : Nat) (hx : x < 18446744073709551616) (hx0 : x ≠ 0) (hlow : x &&& (18446744073709551616 - x) = a) :
    IntKind.u64.wrap (bits BinOp.and IntKind.u64 (x : Int) (IntKind.u64.wrap (-(x : Int))) * 285870213051353865) / 288230376151711744 = ((a * 285870213051353865 % 18446744073709551616 / 288230376151711744 : Nat) : Int) := by
  have e1 : IntKind.u64.wrap (-(x : Int)) = ((18446744073709551616 - x : Nat) : Int) := by rw [IntKind.wrap_u64]; omega
  rw [e1, u64_and_nat x _ hx (by omega), hlow, IntKind.wrap_u64]; omega
theorem tz_any (x : Nat) (w : World) (hx : x < 18446744073709551616) (hx0 : x ≠ 0) (hT : Tab w) :
    Calls Tryz.prog 114 #[.int .u64 x] w fun e w' => e = .returned (.int .i64 (Lib.ctz 64 x : Nat)) ∧ w = w' := by
  obtain ⟨hlow, hk⟩ := Lib.lowest_bit 64 x hx0 hx; obtain ⟨hi, htab⟩ := Lib.deBruijn64_at _ hk; have hcell := hT.2 _ hi; rw [htab] at hcell; exact tz_core x _ _ w (by simp; omega) (tz_key x _ hx hx0 hlow) hi hk hcell
end Go.Proofs.Tg
end
namespace Go.Ev
section
/-! What the last state says. -/
def Lead (x k : Nat) : Prop := x.testBit k = true ∧ ∀ b, b < k → x.testBit b = false
theorem Lead.inj {x a b : Nat} (ha : Lead x a) (hb : Lead x b) : a = b := by
 rcases Nat.lt_trichotomy a b with h | h | h
 ·have := hb.2 a h; rw [ha.1] at this; cases this
 ·exact h
 ·have := ha.2 b h; rw [hb.1] at this; cases this
/-! The reference goes through all vectors, the greatest first when the first position counts most. -/
end
end Go.Ev
namespace Go.Proofs.Tg
section
open Go.RowKit Go.Gr
def vd (x : Nat) : Value := .int .u32 (x : Nat)
structure Digs (w : World) (A : Option Addr) (xs : List Nat) : Prop where
  sl : Sl w A xs.length 1 (xs.map vd)
  u32 : 0 < xs.length → ∀ ad, A = some ad → ∃ cs fz, w.heap[ad.block]? = some (.cells cs 103 fz)
theorem Digs.nil (w : World) (A : Option Addr) : Digs w A [] := ⟨Sl.nil _ _ _, fun h => absurd h (by simp)⟩
theorem Digs.keep {w w' : World} {A : Option Addr} {xs : List Nat} (h : Digs w A xs) (hb : Below w.heap.size w w') : Digs w' A xs :=
  ⟨h.sl.keep hb, fun hp ad e => by
   obtain ⟨cs, fz, hc⟩ := h.u32 hp ad e
   exact ⟨cs, fz, (hb.block _ (Array.getElem?_eq_some_iff.1 hc).1).trans hc⟩⟩
theorem Digs.at {w : World} {A : Option Addr} {xs : List Nat} (h : Digs w A xs) {k : Nat} (hk : k < xs.length) : ∃ ad, A = some ad ∧ w.cell? (ad.add k) = some (.int .u32 (xs[k] : Nat)) := by
 obtain ⟨ad, rfl, hc⟩ := Sl.at1 h.sl hk
 exact ⟨ad, rfl, by simpa [vd] using hc⟩
theorem Digs.take {w : World} {A : Option Addr} {xs : List Nat} (h : Digs w A xs) (k : Nat) (hk : k ≤ xs.length) : Digs w A (xs.take k) := by
 have hl : (xs.take k).length = k := by rw [List.length_take]; omega
 refine ⟨⟨by simp, fun hp => ?_⟩, fun hp => h.u32 (by omega)⟩
 rw [hl] at hp
 obtain ⟨ad, rfl, hlt, ha⟩ := h.sl.lies (by omega)
 refine ⟨ad, rfl, hlt, fun j u hu => ha j u ?_⟩
 have hj := (List.getElem?_eq_some_iff.1 hu).1
 rw [List.length_map, hl] at hj
 rw [List.getElem?_map] at hu ⊢
 rwa [List.getElem?_take_of_lt hj] at hu
theorem digs_pre {w : World} {g : Nat} {cs : Array Value} {xs : List Nat} (h : Blk w g 103 cs) (hx : ∀ (j : Nat) u, (xs.map vd)[j]? = some u → cs[j]? = some u) : Digs w (some ⟨g, 0, none⟩) xs :=
  ⟨⟨by simp, fun _ => ⟨_, rfl, h.lt, fun j u hu => by rw [add_lit, Nat.zero_add, h.cell j]; exact hx j u hu⟩⟩, fun _ ad e => by
   injection e with e
   subst e
   exact ⟨cs, (0, 0), h⟩⟩
theorem digs_of {w : World} {g : Nat} {xs : List Nat} (h : Blk w g 103 (xs.map vd).toArray) : Digs w (some ⟨g, 0, none⟩) xs := digs_pre h (fun j u hu => by simpa using hu)
theorem digs_own {w : World} {b n c : Nat} {A : Option Addr} {xs : List Nat} (h : w.ownsRow b 103 1 (.slice A n c) n (xs.map vd)) (hn : n = xs.length) : Digs w A xs := by
 subst hn
 refine ⟨Sl.own h, fun hp ad e => ?_⟩
 rcases h.2 with ⟨h1, h2⟩ | ⟨g, cap, cur, h1, _, hg, _⟩
 ·injection h1 with h1
  rw [e] at h1; cases h1
 ·injection h1 with h1
  rw [e] at h1
  injection h1 with h1
  subst h1; exact ⟨cur, (0, 0), hg⟩
theorem Digs.far {w : World} {A : Option Addr} {g : Nat} {xs : List Nat} (h : Digs w A xs) (ho : Off A xs.length g) (i : Nat) (u : Value) : Digs (w.setCell ⟨g, i, none⟩ u) A xs :=
  ⟨Sl.far h.sl ho i u, fun hp ad e => by
   obtain ⟨cs, fz, hc⟩ := h.u32 hp ad e; refine ⟨cs, fz, ?_⟩; rw [Below.heap_setCell _ _ _ _ (ho hp ad e)]
   exact hc⟩
theorem Digs.put {w : World} {A : Option Addr} {xs : List Nat} (h : Digs w A xs) {p : Addr} {v : Value} (hp : w.cell? p = some v) (hv : v ∉ xs.map vd) (u : Value) : Digs (w.setCell p u) A xs :=
  ⟨Sl.put h.sl hp hv u, fun hl ad e => by
   obtain ⟨cs, fz, hc⟩ := h.u32 hl ad e
   by_cases hg : ad.block = p.block
   ·refine ⟨if p.spot.isSome then cs else cs.setIfInBounds p.off u, fz, ?_⟩; simp [World.setCell, Array.getElem?_modify, ← hg, hc]
   ·exact ⟨cs, fz, by rw [Below.heap_setCell _ _ _ _ hg]; exact hc⟩⟩
theorem Digs.off_ty {w : World} {A : Option Addr} {g : Nat} {t : TypeId} {xs : List Nat} {cs : Array Value} (h : Digs w A xs) (B : Blk w g t cs) (hne : t ≠ 103) : Off A xs.length g := by
 intro hp ad e hg
 obtain ⟨cs', fz, hc⟩ := h.u32 hp ad e
 rw [hg] at hc
 unfold Blk at B
 rw [B] at hc
 injection hc with hc
 injection hc with _ ht
 exact hne ht
def tzl (xs : List Nat) : Nat → Nat
  | 0 => 0
  | k + 1 => if xs.getD k 0 = 0 then tzl xs k else k + 1
theorem tzl_le (xs : List Nat) : ∀ k, tzl xs k ≤ k
  | 0 => Nat.le_refl _
  | k + 1 => by
    unfold tzl; have := tzl_le xs k
    split <;> omega
theorem trim_any (A : Option Addr) (c : Nat) (xs : List Nat) (w : World) (hA : Digs w A xs) (hn : xs.length ≤ 1000000) (hc : xs.length ≤ c) :
    Calls Tryz.prog 58 #[.slice A xs.length c] w fun e w' => e = .returned (.slice A (tzl xs xs.length) c) ∧ w = w' := by
  obtain ⟨r, hr⟩ := eqx (tzl xs xs.length); rw [hr]; have HR : Hid (tzl xs xs.length = r) := zh hr; clear hr; go_enter Tryz.func58, Tryz.ntmps58; go_wp2
  go_loop [0] (fun s0 => ∃ k : Nat, s0 = .slice A k c ∧ k ≤ xs.length ∧ Hid (tzl xs k = r)) (fun s0 => match s0 with | .slice _ k _ => k | _ => 0)
  case atStart => exact ⟨xs.length, rfl, Nat.le_refl _, HR⟩
  case round =>
   obtain ⟨k, rfl, hk, HK⟩ := hrel
   cases k with
   | zero =>
     obtain rfl : r = 0 := HK.out.symm; go_wp2; go_ret; exact ⟨rfl, rfl⟩
   | succ k =>
     obtain ⟨ad, rfl, hck⟩ := Digs.at hA (k := k) (by omega); have HX : Hid (xs.getD k 0 = xs[k]) := zh (by simp [show k < xs.length by omega]); generalize xs[k] = x at hck HX
     by_cases hx : x = 0
     ·subst hx; have HK2 : Hid (tzl xs k = r) := zh (by have := HK.out; unfold tzl at this; rwa [if_pos HX.out] at this); go_wp2; go_round
      case rel => exact ⟨k, rfl, by omega, HK2⟩
      case measure => simp
     ·have hb : ((x : Int) == 0) = false := by simp [hx]
      have hb' : (x == 0) = false := by simp [hx]
      obtain rfl : r = k + 1 := by have := HK.out; unfold tzl at this; rw [if_neg (by rw [HX.out]; exact hx)] at this; exact this.symm
      go_wp2; go_ret; exact ⟨rfl, rfl⟩
theorem make1_any (b : Bool) (A : Option Addr) (n c : Nat) (w : World) (v : Bool) (hv : (b && decide (0 < n)) = v) (hn : n ≤ 1000000) :
    Calls Tryz.prog 32 #[.bool b, .slice A n c] w fun e w' => e = .returned (.agg #[.bool v, .slice A n c]) ∧ Below w.heap.size w w' := by
  have hbA : Below w.heap.size w (w.alloc (.cells #[.bool v, .slice A n c] 52)) := bal; have hB := Blk.new w 52 #[.bool v, .slice A n c]
  cases b with
  | false =>
    obtain rfl : v = false := by rw [← hv]; rfl
    obtain ⟨a0, a1, _, _⟩ := hB.two; go_enter Tryz.func32, Tryz.ntmps32; go_wp2; exact bodyPost_ret (v := .agg #[.bool false, .slice A n c]) (by simp [results, Tryz.results32, go_sem, a0, a1]) rfl ⟨rfl, hbA⟩
  | true =>
    obtain rfl : decide (0 < n) = v := by rw [← hv]; rfl
    obtain ⟨a0, a1, _, _⟩ := hB.two
    by_cases h0 : 0 < n
    ·have hd : decide ((0 : Int) < (n : Int)) = true := by simp; omega
     have hd' : decide (0 < n) = true := by simp; omega
     rw [hd'] at a0 a1 hbA ⊢; clear hv hB; go_enter Tryz.func32, Tryz.ntmps32; go_wp2; exact bodyPost_ret (v := .agg #[.bool true, .slice A n c]) (by simp [results, Tryz.results32, go_sem, a0, a1]) rfl ⟨rfl, hbA⟩
    ·have hd : decide ((0 : Int) < (n : Int)) = false := by simp; omega
     have hd' : decide (0 < n) = false := by simp; omega
     rw [hd'] at a0 a1 hbA ⊢; clear hv hB; go_enter Tryz.func32, Tryz.ntmps32; go_wp2; exact bodyPost_ret (v := .agg #[.bool false, .slice A n c]) (by simp [results, Tryz.results32, go_sem, a0, a1]) rfl ⟨rfl, hbA⟩
theorem sign_any (b : Bool) (A : Option Addr) (n c : Nat) (w : World) (hn : n ≤ 1000000) (s : Int) (hs : (if b = true then -1 else if n = 0 then 0 else 1) = s) :
    Calls Tryz.prog 33 #[.agg #[.bool b, .slice A n c]] w fun e w' => e = .returned (.int .i64 s) ∧ Below w.heap.size w w' := by
  have hbA : Below w.heap.size w (w.alloc (.cells #[.bool b, .slice A n c] 52)) := bal
  cases b with
  | true =>
    obtain rfl : s = -1 := by rw [← hs]; rfl
    clear hs; go_enter Tryz.func33, Tryz.ntmps33; go_wp2; go_ret; exact ⟨rfl, hbA⟩
  | false =>
    by_cases h0 : n = 0
    ·subst h0
     obtain rfl : s = 0 := by rw [← hs]; rfl
     clear hs; go_enter Tryz.func33, Tryz.ntmps33; go_wp2; go_ret; exact ⟨rfl, hbA⟩
    ·obtain rfl : s = 1 := by rw [← hs, if_neg (by simp), if_neg h0]
     have hz : ((n : Int) == 0) = false := beq_eq_false_iff_ne.2 (by omega); have hz' : (n == 0) = false := beq_eq_false_iff_ne.2 h0; clear h0 hs; go_enter Tryz.func33, Tryz.ntmps33; go_wp2; go_ret; exact ⟨rfl, hbA⟩
theorem dig_info : (Tryz.prog.info? 103).map (fun i => (i.zero, i.size, i.bytes)) = some (some (.int .u32 0), 1, 4) := by kernel_rfl
theorem make_digs (n : Nat) (hn : n ≤ 1000000) (w : World) : (Instr.makeSlice 50 (.int .i64 (n : Int)) (.int .i64 (n : Int))).run Tryz.prog w = .ok (.slice (some ⟨w.heap.size, 0, none⟩) n n) (w.alloc (.cells (madeCells #[.int .u32 0] n) 103)) := by
 obtain ⟨i0, hi, hz0, hz1, hz2⟩ := info_parts dig_info
 have hr := run_make (P := Tryz.prog) w 50 103 i0 (.int .u32 0) Tryz.underlying50 hi hz0 .i64 .i64 n n (by omega) (by omega) (by rw [hz2]; omega) (by omega)
 rw [hz1, Nat.mul_one, Int.toNat_natCast] at hr
 exact hr
end
end Go.Proofs.Tg
section
namespace Go.Qn
open Go.Lib
def isD (c : UInt8) : Bool := decide (48 ≤ c.toNat) && decide (c.toNat ≤ 57)
def val (l : List UInt8) : Nat := l.foldl (fun n c => 10 * n + (c.toNat - 48)) 0
theorem val_snoc (l : List UInt8) (c : UInt8) : val (l ++ [c]) = 10 * val l + (c.toNat - 48) := by unfold val; rw [List.foldl_append]; rfl
theorem isD_iff {c : UInt8} : isD c = true ↔ 48 ≤ c.toNat ∧ c.toNat ≤ 57 := by unfold isD; simp
theorem snoc_ind {P : List UInt8 → Prop} (h0 : P []) (h1 : ∀ l c, P l → P (l ++ [c])) (l : List UInt8) : P l := by
 have : ∀ l : List UInt8, P l.reverse := by
  intro l
  induction l with
  | nil => exact h0
  | cons c l ih => rw [List.reverse_cons]; exact h1 _ _ ih
 have h := this l.reverse
 rwa [List.reverse_reverse] at h
theorem val_lt (l : List UInt8) (h : ∀ c ∈ l, isD c = true) : val l < 10 ^ l.length := by
 revert h
 refine snoc_ind (P := fun l => (∀ c ∈ l, isD c = true) → val l < 10 ^ l.length) ?_ ?_ l
 ·intro _; decide
 ·intro l c ih h
  have h1 := ih fun x hx => h x (by simp [hx])
  have h2 := isD_iff.1 (h c (by simp)); rw [val_snoc, List.length_append, List.length_singleton, Nat.pow_succ]; omega
theorem toNat_ofNat (n : Nat) (h : n < 256) : (UInt8.ofNat n).toNat = n := by simp; omega
theorem val_dec (n : Nat) : val (decDigits n) = n := by
 induction n using Nat.strongRecOn with
 | _ n ih =>
   by_cases h : n < 10
   ·rw [decDigits, dif_pos h]
    show 10 * 0 + ((UInt8.ofNat (48 + n)).toNat - 48) = n
    rw [toNat_ofNat _ (by omega)]; omega
   ·rw [decDigits, dif_neg h, val_snoc, ih (n / 10) (by omega), toNat_ofNat _ (by omega)]; omega
theorem dec_allD (n : Nat) : ∀ c ∈ decDigits n, isD c = true := by
 induction n using Nat.strongRecOn with
 | _ n ih =>
   intro c hc
   by_cases h : n < 10
   ·rw [decDigits, dif_pos h] at hc; simp only [List.mem_cons, List.not_mem_nil, or_false] at hc; subst hc; rw [isD_iff, toNat_ofNat _ (by omega)]; omega
   ·rw [decDigits, dif_neg h] at hc
    rcases List.mem_append.1 hc with hc | hc
    ·exact ih (n / 10) (by omega) c hc
    ·simp only [List.mem_cons, List.not_mem_nil, or_false] at hc; subst hc; rw [isD_iff, toNat_ofNat _ (by omega)]; omega
theorem dec_ne (n : Nat) : decDigits n ≠ [] := by
 rw [decDigits]; split <;> simp
theorem dec_head (n : Nat) (h0 : n ≠ 0) : (decDigits n).head? ≠ some 48 := by
 induction n using Nat.strongRecOn with
 | _ n ih =>
   by_cases h : n < 10
   ·rw [decDigits, dif_pos h]; simp only [List.head?_cons, ne_eq, Option.some.injEq]; intro e; have := congrArg UInt8.toNat e; rw [toNat_ofNat _ (by omega)] at this; have e2 : (48 : UInt8).toNat = 48 := rfl; omega
   ·rw [decDigits, dif_neg h]; have := ih (n / 10) (by omega) (by omega); rw [List.head?_append]
    cases hh : (decDigits (n / 10)).head? with
    | none => exact absurd (List.head?_eq_none_iff.1 hh) (dec_ne _)
    | some x => rw [hh] at this; simpa using this
theorem dec_zero : decDigits 0 = [48] := by rw [decDigits, dif_pos (by omega)]; rfl
theorem dec_one : decDigits 1 = [49] := by rw [decDigits, dif_pos (by omega)]; rfl
theorem dec_inj {m n : Nat} (h : decDigits m = decDigits n) : m = n := by rw [← val_dec m, h, val_dec]
theorem dec_val (l : List UInt8) (h : ∀ c ∈ l, isD c = true) (hn : l ≠ []) (hz : l.head? ≠ some 48) : decDigits (val l) = l ∧ val l ≠ 0 := by
 revert h hn hz
 refine snoc_ind (P := fun l => (∀ c ∈ l, isD c = true) → l ≠ [] → l.head? ≠ some 48 → decDigits (val l) = l ∧ val l ≠ 0) ?_ ?_ l
 ·intro _ h; exact absurd rfl h
 ·intro l c ih h _ hz
  have h2 := isD_iff.1 (h c (by simp)); rw [val_snoc]
  by_cases hl : l = []
  ·subst hl
   have hc : c.toNat ≠ 48 := fun e => hz (by
    have : c = 48 := UInt8.toNat_inj.1 (by rw [e]; rfl)
    simp [this])
   refine ⟨?_, by omega⟩
   show decDigits (10 * 0 + (c.toNat - 48)) = [c]
   rw [decDigits, dif_pos (by omega)]; simp only [List.cons.injEq, and_true]; apply UInt8.toNat_inj.1; rw [toNat_ofNat _ (by omega)]; omega
  ·have hz' : l.head? ≠ some 48 := by
    rw [List.head?_append] at hz
    cases hh : l.head? with
    | none => simp
    | some x => rw [hh] at hz; simpa using hz
   obtain ⟨h3, h4⟩ := ih (fun x hx => h x (by simp [hx])) hl hz'; refine ⟨?_, by omega⟩; rw [decDigits, dif_neg (by omega), show (10 * val l + (c.toNat - 48)) / 10 = val l by omega, h3]
   congr 1
   simp only [List.cons.injEq, and_true]; apply UInt8.toNat_inj.1; rw [toNat_ofNat _ (by omega)]; omega
def text (neg : Bool) (n d : Nat) : List UInt8 := (if neg = true then [45] else []) ++ (decDigits n ++ if d = 1 then [] else 47 :: decDigits d)
def Canon (neg : Bool) (n d : Nat) : Prop := 0 < d ∧ Nat.gcd n d = 1 ∧ (n = 0 → neg = false)
def cut (l : List UInt8) : Bool × List UInt8 := if l.head? = some 45 then (true, l.tail) else (false, l)
def rdTail (neg : Bool) (num rest : List UInt8) : Option (Bool × Nat × Nat) :=
  match rest with
  | [] => some (neg, val num, 1)
  | c :: t => if c = 47 ∧ t.dropWhile isD = [] ∧ t.takeWhile isD ≠ [] ∧ (t.takeWhile isD).head? ≠ some 48 ∧ t.takeWhile isD ≠ [49] ∧ Nat.gcd (val num) (val (t.takeWhile isD)) = 1 then some (neg, val num, val (t.takeWhile isD)) else none
def rdBody (neg : Bool) (r : List UInt8) : Option (Bool × Nat × Nat) :=
  if r.takeWhile isD = [48] then (if neg = false ∧ r.dropWhile isD = [] then some (false, 0, 1) else none)
  else if r.takeWhile isD = [] ∨ (r.takeWhile isD).head? = some 48 then none
  else rdTail neg (r.takeWhile isD) (r.dropWhile isD)
def rd (l : List UInt8) : Option (Bool × Nat × Nat) := rdBody (cut l).1 (cut l).2
theorem tw_app {p : UInt8 → Bool} (a b : List UInt8) (ha : ∀ c ∈ a, p c = true) (hb : b = [] ∨ ∃ c t, b = c :: t ∧ p c = false) : (a ++ b).takeWhile p = a ∧ (a ++ b).dropWhile p = b := by
 induction a with
 | nil =>
   rcases hb with rfl | ⟨c, t, rfl, hc⟩
   ·simp
   ·simp [hc]
 | cons x a ih =>
   have := ih fun c hc => ha c (by simp [hc])
   simp [ha x (by simp), this]
theorem tw_all {p : UInt8 → Bool} (l : List UInt8) : ∀ c ∈ l.takeWhile p, p c = true := by
 exact List.all_eq_true.1 List.all_takeWhile
theorem cut_eq (l : List UInt8) : l = (if (cut l).1 = true then [45] else []) ++ (cut l).2 := by
 unfold cut
 cases l with
 | nil => simp
 | cons c t => by_cases h : c = 45 <;> simp [h]
theorem not_isD_47 : isD 47 = false := by decide
theorem not_isD_45 : isD 45 = false := by decide
theorem cut_text (neg : Bool) (n d : Nat) : cut (text neg n d) = (neg, decDigits n ++ if d = 1 then [] else 47 :: decDigits d) := by
 unfold cut text
 cases neg with
 | true => simp
 | false =>
   have h : ((if false = true then ([45] : List UInt8) else []) ++ (decDigits n ++ if d = 1 then [] else 47 :: decDigits d)).head? ≠ some 45 := by
    simp only [Bool.false_eq_true, if_false, List.nil_append, List.head?_append]
    cases hh : (decDigits n).head? with
    | none => exact absurd (List.head?_eq_none_iff.1 hh) (dec_ne _)
    | some x =>
      have hx : x ∈ decDigits n := List.mem_of_mem_head? (by rw [hh]; rfl); have := dec_allD n x hx; simp only [Option.some_or, ne_eq, Option.some.injEq]; rintro rfl; rw [not_isD_45] at this; exact Bool.noConfusion this
   rw [if_neg h]; simp
theorem tail_form (d : Nat) : (if d = 1 then ([] : List UInt8) else 47 :: decDigits d) = [] ∨ ∃ c t, (if d = 1 then ([] : List UInt8) else 47 :: decDigits d) = c :: t ∧ isD c = false := by
 by_cases h : d = 1
 ·left; simp [h]
 ·right; exact ⟨47, decDigits d, by simp [h], not_isD_47⟩
theorem rd_text {neg : Bool} {n d : Nat} (h : Canon neg n d) : rd (text neg n d) = some (neg, n, d) := by
 obtain ⟨hd, hg, hn⟩ := h
 unfold rd
 rw [cut_text]
 obtain ⟨t1, t2⟩ := tw_app (decDigits n) _ (dec_allD n) (tail_form d)
 simp only [rdBody, t1, t2]
 by_cases h0 : n = 0
 ·subst h0
  rw [dec_zero, if_pos rfl, hn rfl]
  have : d = 1 := by simpa using hg
  simp [this]
 ·have hh := dec_head n h0
  rw [if_neg (fun e => hh (by rw [e]; rfl)), if_neg (fun e => by rcases e with e | e; exact dec_ne n e; exact hh e)]
  by_cases h1 : d = 1
  ·simp [rdTail, h1, val_dec]
  ·simp only [rdTail, if_neg h1]; obtain ⟨s1, s2⟩ := tw_app (p := isD) (decDigits d) [] (dec_allD d) (.inl rfl); rw [List.append_nil] at s1 s2; rw [s1, s2, if_pos ⟨by trivial, by trivial, dec_ne d, dec_head d (by omega), fun e => h1 (dec_inj (e.trans dec_one.symm)), by rw [val_dec, val_dec]; exact hg⟩, val_dec, val_dec]
theorem rd_some {l : List UInt8} {neg : Bool} {n d : Nat} (h : rd l = some (neg, n, d)) : Canon neg n d ∧ l = text neg n d := by
 unfold rd rdBody at h
 have hl := cut_eq l
 generalize (cut l).1 = b at h hl
 generalize (cut l).2 = r at h hl
 subst hl
 have hr := (List.takeWhile_append_dropWhile (p := isD) (l := r)).symm
 have hD := tw_all (p := isD) r
 generalize r.takeWhile isD = num at h hr hD
 generalize r.dropWhile isD = rest at h hr
 subst hr
 by_cases e0 : num = [48]
 ·rw [if_pos e0] at h
  by_cases e1 : b = false ∧ rest = []
  ·rw [if_pos e1] at h; obtain ⟨rfl, rfl⟩ := e1
   injection h with h
   injection h with h1 h2
   injection h2 with h2 h3
   subst h1 h2 h3 e0; exact ⟨⟨by omega, by simp, fun _ => rfl⟩, by unfold text; rw [dec_zero]; rfl⟩
  ·rw [if_neg e1] at h; cases h
 ·rw [if_neg e0] at h
  by_cases e1 : num = [] ∨ num.head? = some 48
  ·rw [if_pos e1] at h; cases h
  ·rw [if_neg e1] at h; have hv := dec_val num hD (fun e => e1 (.inl e)) (fun e => e1 (.inr e))
   cases rest with
   | nil =>
     simp only [rdTail, Option.some.injEq, Prod.mk.injEq] at h; obtain ⟨rfl, rfl, rfl⟩ := h; exact ⟨⟨by omega, by simp, fun e => absurd e hv.2⟩, by unfold text; rw [hv.1]; simp⟩
   | cons c t =>
     simp only [rdTail] at h
     split at h
     ·rename_i hc
      obtain ⟨rfl, c2, c3, c4, c5, c6⟩ := hc; simp only [Option.some.injEq, Prod.mk.injEq] at h; obtain ⟨rfl, rfl, rfl⟩ := h; have ht := (List.takeWhile_append_dropWhile (p := isD) (l := t)).symm; have hD2 := tw_all (p := isD) t; rw [c2, List.append_nil] at ht; rw [← ht] at c3 c4 c5 c6 hD2 ⊢; have hv2 := dec_val t hD2 c3 c4
      have h1 : val t ≠ 1 := fun e => c5 (by rw [← hv2.1, e, dec_one])
      refine ⟨⟨by have := hv2.2; omega, c6, fun e => absurd e hv.2⟩, ?_⟩; unfold text; rw [if_neg h1, hv.1, hv2.1]
     ·cases h
theorem rd_iff {l : List UInt8} {neg : Bool} {n d : Nat} : rd l = some (neg, n, d) ↔ Canon neg n d ∧ l = text neg n d :=
  ⟨rd_some, fun h => h.2 ▸ rd_text h.1⟩
/-! The reference: cut at the first '/', read both parts, divide by the greatest common divisor, write, compare. -/
def ne47 (c : UInt8) : Bool := c != 47
def numOk (l : List UInt8) : Bool := l.all isD && !l.isEmpty
theorem numOk_iff {l : List UInt8} : numOk l = true ↔ (∀ c ∈ l, isD c = true) ∧ l ≠ [] := by unfold numOk; simp
def refN (l : List UInt8) : Option (Bool × Nat × Nat) :=
  let a := (cut l).2.takeWhile ne47
  let r := (cut l).2.dropWhile ne47
  if numOk a = true then
    match r with
    | [] => some ((cut l).1 && decide (val a ≠ 0), val a, 1)
    | _ :: b => if numOk b = true ∧ val b ≠ 0 then some ((cut l).1 && decide (val a ≠ 0), val a / Nat.gcd (val a) (val b), val b / Nat.gcd (val a) (val b)) else none
  else none
theorem refN_canon {l : List UInt8} {neg : Bool} {n d : Nat} (h : refN l = some (neg, n, d)) : Canon neg n d := by
 unfold refN at h
 simp only at h
 split at h
 ·split at h
  ·simp only [Option.some.injEq, Prod.mk.injEq] at h; obtain ⟨rfl, rfl, rfl⟩ := h; exact ⟨by omega, by simp, fun e => by simp [e]⟩
  ·rename_i b _
   split at h
   ·rename_i hb
    simp only [Option.some.injEq, Prod.mk.injEq] at h; obtain ⟨rfl, rfl, rfl⟩ := h; generalize val ((cut l).2.takeWhile ne47) = x at *; have hy : 0 < val b := Nat.pos_of_ne_zero hb.2; generalize val b = y at *; have hg : 0 < Nat.gcd x y := Nat.gcd_pos_of_pos_right _ hy; refine ⟨Nat.div_pos (Nat.gcd_le_right _ hy) hg, ?_, fun e => ?_⟩
    ·rw [Nat.gcd_div (Nat.gcd_dvd_left _ _) (Nat.gcd_dvd_right _ _), Nat.div_self hg]
    ·have : x = 0 := by
      rcases Nat.eq_zero_or_pos x with h0 | h0
      ·exact h0
      ·have := Nat.div_pos (Nat.gcd_le_left y h0) hg; omega
     simp [this]
   ·cases h
 ·cases h
theorem ne47_of_isD {c : UInt8} (h : isD c = true) : ne47 c = true := by
 unfold ne47
 rw [isD_iff] at h
 simp only [bne_iff_ne, ne_eq]
 rintro rfl
 have : (47 : UInt8).toNat = 47 := rfl
 omega
theorem refN_text {neg : Bool} {n d : Nat} (h : Canon neg n d) : refN (text neg n d) = some (neg, n, d) := by
 obtain ⟨hd, hg, hn⟩ := h
 unfold refN
 rw [cut_text]
 have tf : (if d = 1 then ([] : List UInt8) else 47 :: decDigits d) = [] ∨ ∃ c t, (if d = 1 then ([] : List UInt8) else 47 :: decDigits d) = c :: t ∧ ne47 c = false := by
  by_cases h : d = 1
  ·left; simp [h]
  ·right; exact ⟨47, decDigits d, by simp [h], by decide⟩
 obtain ⟨t1, t2⟩ := tw_app (p := ne47) (decDigits n) _ (fun c hc => ne47_of_isD (dec_allD n c hc)) tf
 simp only [t1, t2]
 have ok : ∀ m, numOk (decDigits m) = true := fun m => numOk_iff.2 ⟨dec_allD m, dec_ne m⟩
 have hnn : (neg && decide (n ≠ 0)) = neg := by
  by_cases h0 : n = 0
  ·rw [hn h0]; rfl
  ·simp [h0]
 rw [if_pos (ok n), val_dec]
 by_cases h1 : d = 1
 ·simp only [h1, if_true, hnn]
 ·simp only [if_neg h1]
  rw [if_pos ⟨ok d, by rw [val_dec]; omega⟩, val_dec, hg, hnn]; simp
theorem ref_rd {l : List UInt8} {neg : Bool} {n d : Nat} : rd l = some (neg, n, d) ↔ refN l = some (neg, n, d) ∧ text neg n d = l := by
 rw [rd_iff]
 constructor
 ·rintro ⟨h1, h2⟩
  exact ⟨h2 ▸ refN_text h1, h2.symm⟩
 ·rintro ⟨h1, h2⟩
  exact ⟨refN_canon h1, h2.symm⟩
theorem rd_none_of {l : List UInt8} (h : refN l = none) : rd l = none := by
 cases hr : rd l with
 | none => rfl
 | some q =>
   obtain ⟨a, b, c⟩ := q; rw [(ref_rd.1 hr).1] at h; cases h
theorem rd_none_text {l : List UInt8} {neg : Bool} {n d : Nat} (h : refN l = some (neg, n, d)) (ht : text neg n d ≠ l) : rd l = none := by
 cases hr : rd l with
 | none => rfl
 | some q =>
   obtain ⟨a, b, c⟩ := q; have := ref_rd.1 hr; rw [h] at this; obtain ⟨h1, h2⟩ := this
   injection h1 with h1
   injection h1 with e1 e2
   injection e2 with e2 e3
   subst e1 e2 e3; exact absurd h2 ht
/-! The parts of a text. -/
def SplitIs (l : List UInt8) (b : Bool) (num den : List UInt8) (ok : Bool) : Prop :=
  num.length ≤ l.length ∧ den.length ≤ l.length ∧ (ok = false → rd l = none) ∧
  (ok = true → numOk num = true ∧ (den = [] → rd l = some (b, val num, 1)) ∧ (den ≠ [] → numOk den = true ∧ val num ≠ 0 ∧ val den ≠ 0 ∧ rd l = if Nat.gcd (val num) (val den) = 1 then some (b, val num, val den) else none))
theorem cut_len (l : List UInt8) : (cut l).2.length ≤ l.length := by
 unfold cut; split
 ·simp
 ·exact Nat.le_refl _
theorem tw_len (p : UInt8 → Bool) (l : List UInt8) : (l.takeWhile p).length ≤ l.length := by
 have h := congrArg List.length (List.takeWhile_append_dropWhile (p := p) (l := l))
 rw [List.length_append] at h; omega
theorem dw_len (p : UInt8 → Bool) (l : List UInt8) : (l.dropWhile p).length ≤ l.length := by
 have h := congrArg List.length (List.takeWhile_append_dropWhile (p := p) (l := l))
 rw [List.length_append] at h; omega
section
variable {l r : List UInt8} {b : Bool} (hc : cut l = (b, r))
include hc
theorem spl_len : (r.takeWhile isD).length ≤ l.length ∧ r.length ≤ l.length := by
 have h1 := cut_len l
 have h2 := tw_len isD r
 rw [hc] at h1
 exact ⟨Nat.le_trans h2 h1, h1⟩
theorem rd_of : rd l = rdBody b r := by unfold rd; rw [hc]
theorem spl_zero (h : r.takeWhile isD = [48]) : SplitIs l b (r.takeWhile isD) [] (!b && (r.dropWhile isD).isEmpty) := by
 refine ⟨(spl_len hc).1, by simp, fun e => ?_, fun e => ⟨by rw [h]; rfl, fun _ => ?_, fun e => absurd rfl e⟩⟩
 ·rw [rd_of hc, rdBody, if_pos h, if_neg]
  rintro ⟨h1, h2⟩; rw [h1, h2] at e; cases e
 ·rw [rd_of hc, rdBody, if_pos h, h]
  cases b with
  | true => cases e
  | false =>
    have : r.dropWhile isD = [] := by simpa using e
    rw [if_pos ⟨rfl, this⟩]; rfl
theorem spl_bad (h : r.takeWhile isD ≠ [48]) (h2 : r.takeWhile isD = [] ∨ (r.takeWhile isD).head? = some 48) : SplitIs l b (r.takeWhile isD) [] false :=
  ⟨(spl_len hc).1, by simp, fun _ => by rw [rd_of hc, rdBody, if_neg h, if_pos h2], fun e => by cases e⟩
theorem spl_whole (h : r.takeWhile isD ≠ [48]) (h2 : ¬ (r.takeWhile isD = [] ∨ (r.takeWhile isD).head? = some 48)) (h3 : r.dropWhile isD = []) : SplitIs l b (r.takeWhile isD) [] true :=
  ⟨(spl_len hc).1, by simp, fun e => (by cases e), fun _ => ⟨numOk_iff.2 ⟨tw_all _, fun e => h2 (.inl e)⟩, fun _ => by rw [rd_of hc, rdBody, if_neg h, if_neg h2, h3]; rfl, fun e => absurd rfl e⟩⟩
theorem spl_slash (h : r.takeWhile isD ≠ [48]) (h2 : ¬ (r.takeWhile isD = [] ∨ (r.takeWhile isD).head? = some 48)) {c : UInt8} {t : List UInt8} (h3 : r.dropWhile isD = c :: t) (h4 : c ≠ 47) : SplitIs l b (r.takeWhile isD) [] false :=
  ⟨(spl_len hc).1, by simp, fun _ => by rw [rd_of hc, rdBody, if_neg h, if_neg h2, h3, rdTail, if_neg (fun e => h4 e.1)], fun e => by cases e⟩
theorem spl_den (h : r.takeWhile isD ≠ [48]) (h2 : ¬ (r.takeWhile isD = [] ∨ (r.takeWhile isD).head? = some 48)) {t : List UInt8} (h3 : r.dropWhile isD = 47 :: t) {ok : Bool}
    (hok : ok = true ↔ t.dropWhile isD = [] ∧ t.takeWhile isD ≠ [] ∧ (t.takeWhile isD).head? ≠ some 48 ∧ t.takeWhile isD ≠ [49]) : SplitIs l b (r.takeWhile isD) (t.takeWhile isD) ok := by
  refine ⟨(spl_len hc).1, ?_, fun e => ?_, fun e => ⟨numOk_iff.2 ⟨tw_all _, fun e => h2 (.inl e)⟩, fun e2 => absurd e2 (hok.1 e).2.1, fun _ => ⟨numOk_iff.2 ⟨tw_all _, (hok.1 e).2.1⟩, (dec_val _ (tw_all _) (fun e => h2 (.inl e)) (fun e => h2 (.inr e))).2, (dec_val _ (tw_all _) (hok.1 e).2.1 (hok.1 e).2.2.1).2, ?_⟩⟩⟩
  ·have a1 := tw_len isD t; have a2 := dw_len isD r; have a3 := (spl_len hc).2; rw [h3, List.length_cons] at a2; omega
  ·rw [rd_of hc, rdBody, if_neg h, if_neg h2, h3, rdTail, if_neg]; rintro ⟨_, a, b, c, d, _⟩; rw [hok.2 ⟨a, b, c, d⟩] at e; cases e
  ·obtain ⟨a, b, c, d⟩ := hok.1 e; rw [rd_of hc, rdBody, if_neg h, if_neg h2, h3, rdTail]
   by_cases g : Nat.gcd (val (r.takeWhile isD)) (val (t.takeWhile isD)) = 1
   ·rw [if_pos ⟨rfl, a, b, c, d, g⟩, if_pos g]
   ·rw [if_neg (fun h => g h.2.2.2.2.2), if_neg g]
end
end Go.Qn
end
