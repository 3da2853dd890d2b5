/- Words for memory: cells that lie from an address on, slices that hold cells, what a call that only makes memory leaves. -/
import Derived.WalkKit
import Derived.WalkSpells
import Derived.Lib.Hide
import Derived.Deep.Draws
import Derived.Deep.QuietTactic
namespace Go.Proofs.Tg
open Go.RowKit

theorem add_block (a : Addr) (n : Nat) : (a.add n).block = a.block := by unfold Addr.add; split <;> rfl
theorem add_add (a : Addr) (i j : Nat) : (a.add i).add j = a.add (i + j) := by
  unfold Addr.add
  by_cases hi : i = 0 <;> by_cases hj : j = 0 <;> simp [hi, hj, Nat.add_assoc]
theorem add_lit (b o j : Nat) : (⟨b, o, none⟩ : Addr).add j = ⟨b, o + j, none⟩ := by
  unfold Addr.add
  by_cases hj : j = 0 <;> simp [hj]

/-- The cells xs lie from the address on. -/
def At (w : World) (ad : Addr) (xs : List Value) : Prop := ∀ j u, xs[j]? = some u → w.cell? (ad.add j) = some u
/-- A slice of n elements of sz cells each, at A: the cells that it holds. -/
structure Sl (w : World) (A : Option Addr) (n sz : Nat) (xs : List Value) : Prop where
  len : xs.length = n * sz
  lies : 0 < n → ∃ ad, A = some ad ∧ ad.block < w.heap.size ∧ At w ad xs

theorem At.keep {w w' : World} {ad : Addr} {xs : List Value} {B : Nat} (h : At w ad xs) (hb : Below B w w') (hB : ad.block < B) : At w' ad xs :=
  fun j u hu => (hb.cell (p := ad.add j) (by rw [add_block]; exact hB)).trans (h j u hu)
theorem Sl.keep {w w' : World} {A : Option Addr} {n sz : Nat} {xs : List Value} (h : Sl w A n sz xs) (hb : Below w.heap.size w w') : Sl w' A n sz xs :=
  ⟨h.len, fun hn => by
    obtain ⟨ad, e, hl, ha⟩ := h.lies hn
    exact ⟨ad, e, Nat.lt_of_lt_of_le hl hb.size, ha.keep hb hl⟩⟩
theorem Sl.drewN {w : World} {A : Option Addr} {n sz : Nat} {xs : List Value} (h : Sl w A n sz xs) (k : Nat) : Sl (w.drewN k) A n sz xs := ⟨h.len, h.lies⟩
theorem Sl.nil (w : World) (A : Option Addr) (sz : Nat) : Sl w A 0 sz [] := ⟨by simp, fun h => absurd h (by omega)⟩
theorem Sl.at1 {w : World} {A : Option Addr} {n : Nat} {xs : List Value} (h : Sl w A n 1 xs) {k : Nat} (hk : k < n) : ∃ ad, A = some ad ∧ w.cell? (ad.add k) = some (xs[k]'(by have := h.len; omega)) := by
  obtain ⟨ad, rfl, _, hc⟩ := h.lies (by omega)
  exact ⟨ad, rfl, hc k _ (List.getElem?_eq_getElem _)⟩
/-- What a row of the call's own holds can be read. -/
theorem Sl.of_own {w : World} {base : Nat} {e : TypeId} {sz n : Nat} {v : Value} {xs : List Value} (h : w.ownsRow base e sz v n xs) : ∃ A c, v = .slice A n c ∧ n ≤ c ∧ Sl w A n sz xs := by
  rcases h.2 with ⟨rfl, rfl⟩ | ⟨g, cap, cur, rfl, hb, hg, hn, _, _, _⟩
  · have hx : xs = [] := List.eq_nil_of_length_eq_zero (by simpa using h.1)
    subst hx
    exact ⟨none, 0, rfl, Nat.le_refl _, Sl.nil _ _ _⟩
  · refine ⟨_, _, rfl, hn, h.1, fun _ => ⟨_, rfl, ?_, h.cells (g := g) rfl⟩⟩
    exact (Array.getElem?_eq_some_iff.1 hg).1
/-- The value that a call returns is a slice that holds cells; nothing that was there has turned. -/
def RetSl (n sz : Nat) (xs : List Value) (w : World) (e : Ending) (w' : World) : Prop :=
  ∃ A c, e = .returned (.slice A n c) ∧ n ≤ c ∧ Sl w' A n sz xs ∧ Below w.heap.size w w'
/-- The value that a call returns is a slice of the call's own; nothing that was there has turned. -/
def RetOwn (t : TypeId) (n sz : Nat) (xs : List Value) (w : World) (e : Ending) (w' : World) : Prop :=
  ∃ A c, e = .returned (.slice A n c) ∧ n ≤ c ∧ w'.ownsRow w.heap.size t sz (.slice A n c) n xs ∧ Below w.heap.size w w'
theorem Sl.own {w : World} {base : Nat} {t : TypeId} {sz n c : Nat} {A : Option Addr} {xs : List Value} (h : w.ownsRow base t sz (.slice A n c) n xs) : Sl w A n sz xs := by
  obtain ⟨A', c', hv, _, hS⟩ := Sl.of_own h
  injection hv with h1 h2 h3
  subst h1
  exact hS
/-- Two rows of the call's own whose element types differ lie in different blocks. -/
theorem own_ne {w : World} {b b' : Nat} {t t' : TypeId} {sz sz' n n' : Nat} {v v' : Value} {xs xs' : List Value} (h : w.ownsRow b t sz v n xs) (h' : w.ownsRow b' t' sz' v' n' xs') (hne : t ≠ t') :
    v.ownBlock = none ∨ v.ownBlock ≠ v'.ownBlock := by
  rcases h.2 with ⟨rfl, _⟩ | ⟨g, cap, cur, rfl, _, hg, _⟩
  · exact .inl rfl
  · refine .inr ?_
    rcases h'.2 with ⟨rfl, _⟩ | ⟨g', cap', cur', rfl, _, hg', _⟩
    · simp [Value.ownBlock]
    · intro e
      have : g = g' := by simpa [Value.ownBlock] using e
      subst this
      rw [hg] at hg'
      injection hg' with hg'
      injection hg' with _ ht
      exact hne ht
def vi (x : Int) : Value := .int .i64 x
def vn (x : Nat) : Value := .int .i64 x
def vs (x : Nat) : Value := .int .u64 x
abbrev Ints (w : World) (A : Option Addr) (xs : List Int) : Prop := Sl w A xs.length 1 (xs.map vi)
abbrev Nats (w : World) (A : Option Addr) (xs : List Nat) : Prop := Sl w A xs.length 1 (xs.map vn)
abbrev Sets (w : World) (A : Option Addr) (xs : List Nat) : Prop := Sl w A xs.length 1 (xs.map vs)
theorem Ints.at {w : World} {A : Option Addr} {xs : List Int} (h : Ints w A xs) {k : Nat} (hk : k < xs.length) : ∃ ad, A = some ad ∧ w.cell? (ad.add k) = some (.int .i64 xs[k]) := by
  obtain ⟨ad, rfl, hc⟩ := Sl.at1 h hk
  exact ⟨ad, rfl, by simpa [vi] using hc⟩
theorem Nats.at {w : World} {A : Option Addr} {xs : List Nat} (h : Nats w A xs) {k : Nat} (hk : k < xs.length) : ∃ ad, A = some ad ∧ w.cell? (ad.add k) = some (.int .i64 (xs[k] : Nat)) := by
  obtain ⟨ad, rfl, hc⟩ := Sl.at1 h hk
  exact ⟨ad, rfl, by simpa [vn] using hc⟩
theorem Sets.at {w : World} {A : Option Addr} {xs : List Nat} (h : Sets w A xs) {k : Nat} (hk : k < xs.length) : ∃ ad, A = some ad ∧ w.cell? (ad.add k) = some (.int .u64 (xs[k] : Nat)) := by
  obtain ⟨ad, rfl, hc⟩ := Sl.at1 h hk
  exact ⟨ad, rfl, by simpa [vs] using hc⟩

/-- Block g is just the cells cs, none frozen. -/
def Blk (w : World) (g : Nat) (t : TypeId) (cs : Array Value) : Prop := w.heap[g]? = some (.cells cs t (0, 0))
theorem Blk.lt {w : World} {g : Nat} {t : TypeId} {cs : Array Value} (h : Blk w g t cs) : g < w.heap.size := (Array.getElem?_eq_some_iff.1 h).1
theorem Blk.cell {w : World} {g : Nat} {t : TypeId} {cs : Array Value} (h : Blk w g t cs) (i : Nat) : w.cell? ⟨g, i, none⟩ = cs[i]? := cell_of_row w g i cs t (0, 0) h
theorem Blk.frozen {w : World} {g : Nat} {t : TypeId} {cs : Array Value} (h : Blk w g t cs) (i : Nat) : w.frozen? ⟨g, i, none⟩ = false := by
  unfold Blk at h
  simp [World.frozen?, h]
theorem own_blk_ne {w : World} {b g : Nat} {t t' : TypeId} {sz n : Nat} {v : Value} {xs : List Value} {cs : Array Value} (h : w.ownsRow b t sz v n xs) (hg : Blk w g t' cs) (hne : t ≠ t') : some g ≠ v.ownBlock := by
  rcases h.2 with ⟨rfl, _⟩ | ⟨g', cap, cur, rfl, _, hh, _⟩
  · simp [Value.ownBlock]
  · intro e
    have : g = g' := by simpa [Value.ownBlock] using e
    subst this
    unfold Blk at hg
    rw [hh] at hg
    injection hg with hg
    injection hg with _ ht
    exact hne ht
theorem Blk.keep {w w' : World} {g : Nat} {t : TypeId} {cs : Array Value} {B : Nat} (h : Blk w g t cs) (hb : Below B w w') (hg : g < B) : Blk w' g t cs := (hb.block g hg).trans h
theorem Blk.grown {w w' : World} {g : Nat} {t : TypeId} {cs : Array Value} {row : Option Nat} (h : Blk w g t cs) (hb : w.grownBy w' row) (hg : some g ≠ row) : Blk w' g t cs := (hb.block g h.lt hg).trans h
theorem Blk.alloc {w : World} {g : Nat} {t : TypeId} {cs : Array Value} (h : Blk w g t cs) (o : Obj) : Blk (w.alloc o) g t cs := (Below.heap_alloc w o g h.lt).trans h
theorem Blk.drewN {w : World} {g : Nat} {t : TypeId} {cs : Array Value} (h : Blk w g t cs) (n : Nat) : Blk (w.drewN n) g t cs := h
theorem Blk.drew {w : World} {g : Nat} {t : TypeId} {cs : Array Value} (h : Blk w g t cs) : Blk w.drew g t cs := h
theorem Blk.new (w : World) (t : TypeId) (cs : Array Value) : Blk (w.alloc (.cells cs t)) w.heap.size t cs := heap_alloc_new w _
theorem Blk.set {w : World} {g : Nat} {t : TypeId} {cs : Array Value} (h : Blk w g t cs) (i : Nat) (u : Value) : Blk (w.setCell ⟨g, i, none⟩ u) g t (cs.setIfInBounds i u) := by
  unfold Blk at h ⊢
  simp [World.setCell, Array.getElem?_modify, h]
theorem Blk.far {w : World} {g : Nat} {t : TypeId} {cs : Array Value} (h : Blk w g t cs) {p : Addr} (hp : g ≠ p.block) (u : Value) : Blk (w.setCell p u) g t cs := (Below.heap_setCell w p u g hp).trans h
theorem own_below {w w' : World} {b B : Nat} {t : TypeId} {sz n : Nat} {v : Value} {xs : List Value} (h : w.ownsRow b t sz v n xs) (hb : Below B w w') (hB : w.heap.size ≤ B) : w'.ownsRow b t sz v n xs :=
  h.kept (row := none) ⟨hb.os, hb.tape, hb.output, hb.size, fun k hk _ => hb.block k (by omega)⟩ (by cases hv : v.ownBlock <;> simp)
theorem own_far {w : World} {b : Nat} {t : TypeId} {sz n : Nat} {v : Value} {xs : List Value} (h : w.ownsRow b t sz v n xs) {p : Addr} (hp : some p.block ≠ v.ownBlock) (u : Value) : (w.setCell p u).ownsRow b t sz v n xs :=
  h.kept (row := some p.block) ⟨rfl, rfl, rfl, by simp [World.setCell], fun k _ hk => Below.heap_setCell w p u k (fun e => hk (by rw [e]))⟩ (by cases hv : v.ownBlock <;> simp_all; exact fun e => hp e.symm)
theorem own_base {w : World} {b b' : Nat} {t : TypeId} {sz n : Nat} {v : Value} {xs : List Value} (h : w.ownsRow b t sz v n xs) (hb : b' ≤ b) : w.ownsRow b' t sz v n xs := by
  refine ⟨h.1, ?_⟩
  rcases h.2 with h2 | ⟨g, cap, cur, hv, hg, r⟩
  · exact .inl h2
  · exact .inr ⟨g, cap, cur, hv, Nat.le_trans hb hg, r⟩
theorem below_drewN {B : Nat} {a w : World} (h : Below B a w) (n : Nat) : Below B a (w.drewN n) := ⟨h.os, h.tape, h.output, h.size, h.block⟩
theorem keep_cell {W w' : World} (hb : Below W.heap.size W w') {p : Addr} {v : Value} (h : W.cell? p = some v) : w'.cell? p = some v := (hb.cell (World.block_lt_of_cell? W p h)).trans h
theorem cell_alloc {W : World} {p : Addr} {v : Value} (h : W.cell? p = some v) (o : Obj) : (W.alloc o).cell? p = some v := (World.cell?_alloc_lt W o p (World.block_lt_of_cell? W p h)).trans h
theorem below_of_drew {B : Nat} {w w' : World} (h : Below B w.drew w') : Below B w w' := ⟨h.os, h.tape, h.output, h.size, h.block⟩
theorem below_of_drewN {B n : Nat} {w w' : World} (h : Below B (w.drewN n) w') : Below B w w' := ⟨h.os, h.tape, h.output, h.size, h.block⟩
theorem below_all {a w w' : World} (h : Below a.heap.size a w) (k : Below w.heap.size w w') : Below a.heap.size a w' := h.trans (k.mono h.size)
/-- A store into a cell that holds what the slice does not hold. -/
theorem Sl.put {w : World} {A : Option Addr} {n sz : Nat} {xs : List Value} (h : Sl w A n sz xs) {p : Addr} {v : Value} (hp : w.cell? p = some v) (hv : v ∉ xs) (u : Value) : Sl (w.setCell p u) A n sz xs :=
  ⟨h.len, fun hn => by
    obtain ⟨ad, e, hl, ha⟩ := h.lies hn
    refine ⟨ad, e, by simpa [World.setCell] using hl, fun j x hx => ?_⟩
    have hj := ha j x hx
    have hne : p ≠ ad.add j := by
      rintro rfl
      rw [hp] at hj
      injection hj with hj
      subst hj
      exact hv (List.mem_of_getElem? hx)
    rw [World.cell?_setCell_other _ _ _ _ hne]
    exact hj⟩
/-- A callee that leaves the world alone, in a quiet region. -/
theorem quiet_sm {P : Program} {f : FuncId} {args : Array Value} {w : World} {n : Nat} {v : Value} (h : Calls P f args (w.drewN n) fun e w' => e = .returned v ∧ w.drewN n = w') :
    Calls P f args (w.drewN n) fun e w'' => e = .returned v ∧ ∃ m, w'' = w.drewN m := h.mono fun _ _ ⟨he, hm⟩ => ⟨he, n, hm.symm⟩
theorem Blk.two {w : World} {g : Nat} {t : TypeId} {a b : Value} (h : Blk w g t #[a, b]) : w.cell? ⟨g, 0, none⟩ = some a ∧ w.cell? ⟨g, 1, none⟩ = some b ∧ w.frozen? ⟨g, 0, none⟩ = false ∧ w.frozen? ⟨g, 1, none⟩ = false :=
  ⟨h.cell 0, h.cell 1, h.frozen 0, h.frozen 1⟩
theorem Blk.three {w : World} {g : Nat} {t : TypeId} {a b c : Value} (h : Blk w g t #[a, b, c]) : w.cell? ⟨g, 0, none⟩ = some a ∧ w.cell? ⟨g, 1, none⟩ = some b ∧ w.cell? ⟨g, 2, none⟩ = some c ∧ w.frozen? ⟨g, 0, none⟩ = false ∧ w.frozen? ⟨g, 1, none⟩ = false ∧ w.frozen? ⟨g, 2, none⟩ = false :=
  ⟨h.cell 0, h.cell 1, h.cell 2, h.frozen 0, h.frozen 1, h.frozen 2⟩
theorem Blk.four {w : World} {g : Nat} {t : TypeId} {a b c d : Value} (h : Blk w g t #[a, b, c, d]) : w.cell? ⟨g, 0, none⟩ = some a ∧ w.cell? ⟨g, 1, none⟩ = some b ∧ w.cell? ⟨g, 2, none⟩ = some c ∧ w.cell? ⟨g, 3, none⟩ = some d ∧
    w.frozen? ⟨g, 0, none⟩ = false ∧ w.frozen? ⟨g, 1, none⟩ = false ∧ w.frozen? ⟨g, 2, none⟩ = false ∧ w.frozen? ⟨g, 3, none⟩ = false :=
  ⟨h.cell 0, h.cell 1, h.cell 2, h.cell 3, h.frozen 0, h.frozen 1, h.frozen 2, h.frozen 3⟩
/-- What was there reads as before: cells and marks. -/
theorem bcell {W w1 : World} (hb : Below W.heap.size W w1) : (∀ b o, b < W.heap.size → w1.cell? ⟨b, o, none⟩ = W.cell? ⟨b, o, none⟩) ∧ (∀ b o, b < W.heap.size → w1.frozen? ⟨b, o, none⟩ = W.frozen? ⟨b, o, none⟩) :=
  ⟨fun b o h => hb.cell (p := ⟨b, o, none⟩) h, fun b o h => hb.frozen (p := ⟨b, o, none⟩) h⟩
end Go.Proofs.Tg
