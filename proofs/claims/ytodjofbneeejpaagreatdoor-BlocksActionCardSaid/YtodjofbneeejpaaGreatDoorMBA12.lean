/- Parts of the proof: WI5, XK1, WB2, WB3, XK5, NU1, NU7, NU10, XR2, XK6, WK6, RS4, WG8. -/
import Derived.Deep.DeepCutAuto
import Derived.Laws.OwnMore
import Derived.RegionTactic
import Derived.ChangeAlike
import Derived.StillTailTactics
import Derived.Deep.CutRange
import Derived.ChangeKeysEq
import Derived.Laws.Rows
import Derived.Laws.Tables
import Derived.Deep.Cut
import Derived.Deep.RegionHeld3
import Derived.Deep.CutBlock
import Derived.Deep.AppendLies
import Derived.Test.YtodjofbneeejpaaGreatDoorMBA0
import Derived.Test.YtodjofbneeejpaaGreatDoorMBA1
import Derived.Test.YtodjofbneeejpaaGreatDoorMBA2
import Derived.Test.YtodjofbneeejpaaGreatDoorMBA3
import Derived.Test.YtodjofbneeejpaaGreatDoorMBA4
import Derived.Test.YtodjofbneeejpaaGreatDoorMBA5
import Derived.Test.YtodjofbneeejpaaGreatDoorMBA7
import Derived.Test.YtodjofbneeejpaaGreatDoorMBA9
import Derived.Test.YtodjofbneeejpaaGreatDoorMBA11
section
/- Walks: a number read. -/
namespace Go.Proofs.Tg
open Go.RowKit Go.Qn Go.Gr
set_option maxHeartbeats 4000000
set_option maxRecDepth 100000
theorem splitis_cases {l num den : List UInt8} {b ok : Bool} (h : SplitIs l b num den ok) : (ok = false ∧ rd l = none) ∨ (ok = true ∧ numOk num = true ∧ num.length ≤ l.length ∧ den = [] ∧ rd l = some (b, val num, 1)) ∨
    (ok = true ∧ numOk num = true ∧ num.length ≤ l.length ∧ den.length ≤ l.length ∧ den ≠ [] ∧ numOk den = true ∧ val num ≠ 0 ∧ val den ≠ 0 ∧ rd l = if Nat.gcd (val num) (val den) = 1 then some (b, val num, val den) else none) := by
  obtain ⟨h1, h2, h3, h4⟩ := h
  cases ok with
  | false => exact .inl ⟨rfl, h3 rfl⟩
  | true =>
    obtain ⟨a, b, c⟩ := h4 rfl
    by_cases hd : den = []
    · exact .inr (.inl ⟨rfl, a, h1, hd, b hd⟩)
    · exact .inr (.inr ⟨rfl, a, h1, h2, hd, (c hd).1, (c hd).2.1, (c hd).2.2.1, (c hd).2.2.2⟩)
end Go.Proofs.Tg
end
section
/- The reference's leading and orthogonal; the harness's SmallPoly. -/
namespace Go.Ev
end Go.Ev
namespace Go.Proofs.Tg
open Go.RowKit Go.Gr Go.Ev Go.Mo
set_option maxHeartbeats 4000000
set_option maxRecDepth 100000
theorem Dr.trans {w w' w'' : World} (h : Dr w w') (k : Dr w' w'') : Dr w w'' := by
  obtain ⟨n, rfl⟩ := k
  exact h.drewN n
def PVal.few (n m : Nat) (p : PVal) : Prop := p.tv.length ≤ n ∧ ∀ t ∈ p.tv, t.coef.size ≤ m ∧ t.exps.length ≤ 12
end Go.Proofs.Tg
end
section
/- Walks: the echelon form. -/
namespace Go.Proofs.Tg
open Go.RowKit Go.Gr Go.Ev
set_option maxHeartbeats 2000000
set_option maxRecDepth 100000
/-- The vectors lie in block g; nothing below B has turned. -/
structure VecAt (W0 : World) (base g cap : Nat) (us : List Nat) (w : World) : Prop where
  own : w.ownsRow base 3 1 (.slice (some ⟨g, 0, none⟩) us.length cap) us.length (us.map vn)
  below : Below W0.heap.size W0 w
theorem VecAt.base_le {W0 w : World} {base g cap : Nat} {us : List Nat} (h : VecAt W0 base g cap us w) : base ≤ g := (h.own.lt g rfl).1
theorem VecAt.cell {W0 w : World} {base g cap : Nat} {us : List Nat} (h : VecAt W0 base g cap us w) {j : Nat} (hj : j < us.length) : w.cell? ⟨g, j, none⟩ = some (.int .i64 (us.getD j 0 : Nat)) := by
  rw [h.own.cellAt j (by omega)]
  simp [hj, vn]
theorem VecAt.drewN {W0 w : World} {base g cap : Nat} {us : List Nat} (h : VecAt W0 base g cap us w) (n : Nat) : VecAt W0 base g cap us (w.drewN n) := ⟨h.own, below_drewN h.below n⟩
theorem VecAt.drew {W0 w : World} {base g cap : Nat} {us : List Nat} (h : VecAt W0 base g cap us w) : VecAt W0 base g cap us w.drew := ⟨h.own, h.below.drew⟩
theorem VecAt.put {W0 w : World} {base g cap : Nat} {us : List Nat} (h : VecAt W0 base g cap us w) (hB : W0.heap.size ≤ base) (j x : Nat) : VecAt W0 base g cap (us.set j x) (w.setCell ⟨g, j, none⟩ (.int .i64 (x : Nat))) := by
  have h1 := (h.own.stored j (.int .i64 (x : Nat))).1
  have e : (us.map vn).set j (.int .i64 (x : Nat)) = (us.set j x).map vn := by rw [List.map_set]; rfl
  rw [e] at h1
  refine ⟨by rw [List.length_set]; exact h1, h.below.setCell (Nat.le_trans hB h.base_le) _⟩
end Go.Proofs.Tg
end
section
/- Walks: the sign symmetries of polynomials. -/
namespace Go.Proofs.Tg
open Go.RowKit Go.Gr Go.Ev Go.Mo Go.Qn
set_option maxHeartbeats 4000000
set_option maxRecDepth 100000
theorem VecAt.keep {W0 w w' : World} {base g cap : Nat} {us : List Nat} (h : VecAt W0 base g cap us w) (hb : Below w.heap.size w w') : VecAt W0 base g cap us w' :=
  ⟨own_below h.own hb (Nat.le_refl _), below_all h.below hb⟩
end Go.Proofs.Tg
end
section
/- The reference's polynomials in memory, and its Rows. -/
namespace Go.Proofs.Tg
open Go.RowKit Go.Gr Go.Ev Go.Mo
set_option maxHeartbeats 4000000
set_option maxRecDepth 100000
/-- A term of the reference: the coefficient's four cells, the exponents. -/
structure RT where
  c0 : Value
  c1 : Value
  c2 : Value
  c3 : Value
  adr : Option Addr
  cap : Nat
  exps : List Int
def RT.sl (t : RT) : Value := .slice t.adr t.exps.length t.cap
def RT.cells (t : RT) : List Value := [t.c0, t.c1, t.c2, t.c3, t.sl]
structure RTermsAt (w : World) (T : Option Addr) (ts : List RT) : Prop where
  sl : Sl w T ts.length 5 (ts.flatMap RT.cells)
  ints : ∀ t ∈ ts, Ints w t.adr t.exps
theorem RTermsAt.keep {w w' : World} {T : Option Addr} {ts : List RT} (h : RTermsAt w T ts) (hb : Below w.heap.size w w') : RTermsAt w' T ts :=
  ⟨h.sl.keep hb, fun t ht => (h.ints t ht).keep hb⟩
theorem off_four (a : Addr) (k : Nat) : (⟨(a.add k).block, (a.add k).off + 4, none⟩ : Addr) = a.add (k + 4) := by
  rw [← add_add]; simp [Addr.add]
theorem RTermsAt.at {w : World} {T : Option Addr} {ts : List RT} (h : RTermsAt w T ts) {k : Nat} (hk : k < ts.length) :
    ∃ ad, T = some ad ∧ w.cell? ⟨(ad.add (k * 5)).block, (ad.add (k * 5)).off + 4, none⟩ = some (.slice ts[k].adr ts[k].exps.length ts[k].cap) ∧ Ints w ts[k].adr ts[k].exps := by
  obtain ⟨ad, rfl, _, ha⟩ := h.sl.lies (by omega)
  refine ⟨ad, rfl, (congrArg w.cell? (off_four ad (k * 5))).trans (ha _ _ ?_), h.ints _ (List.getElem_mem _)⟩
  exact flat_get RT.cells 5 (fun _ => rfl) ts k 4 hk (by omega)
structure RP where
  vars : Int
  adr : Option Addr
  cap : Nat
  ts : List RT
def RP.cells (p : RP) : List Value := [.int .i64 p.vars, .slice p.adr p.ts.length p.cap]
structure RPolysAt (w : World) (L : Option Addr) (ps : List RP) : Prop where
  sl : Sl w L ps.length 2 (ps.flatMap RP.cells)
  tms : ∀ p ∈ ps, RTermsAt w p.adr p.ts
theorem RPolysAt.keep {w w' : World} {L : Option Addr} {ps : List RP} (h : RPolysAt w L ps) (hb : Below w.heap.size w w') : RPolysAt w' L ps :=
  ⟨h.sl.keep hb, fun p hp => (h.tms p hp).keep hb⟩
theorem RPolysAt.at {w : World} {L : Option Addr} {ps : List RP} (h : RPolysAt w L ps) {k : Nat} (hk : k < ps.length) :
    ∃ ad, L = some ad ∧ w.cell? (ad.add (k * 2)) = some (.int .i64 ps[k].vars) ∧ w.cell? ⟨(ad.add (k * 2)).block, (ad.add (k * 2)).off + 1, none⟩ = some (.slice ps[k].adr ps[k].ts.length ps[k].cap) ∧ RTermsAt w ps[k].adr ps[k].ts := by
  obtain ⟨ad, rfl, _, ha⟩ := h.sl.lies (by omega)
  refine ⟨ad, rfl, ha _ _ ?_, (congrArg w.cell? (off_one ad (k * 2))).trans (ha _ _ ?_), h.tms _ (List.getElem_mem _)⟩
  · have := flat_get RP.cells 2 (fun _ => rfl) ps k 0 hk (by omega)
    rw [Nat.add_zero] at this
    exact this
  · exact flat_get RP.cells 2 (fun _ => rfl) ps k 1 hk (by omega)
end Go.Proofs.Tg
end
section
/- The harness's numbers: trim. -/
namespace Go.Proofs.Tg
open Go.RowKit Go.Gr
set_option maxHeartbeats 4000000
set_option maxRecDepth 100000
def vd (x : Nat) : Value := .int .u32 (x : Nat)
/-- A slice of digits, which lies in a block of digits. -/
structure Digs (w : World) (A : Option Addr) (xs : List Nat) : Prop where
  sl : Sl w A xs.length 1 (xs.map vd)
  u32 : 0 < xs.length → ∀ ad, A = some ad → ∃ cs fz, w.heap[ad.block]? = some (.cells cs 123 fz)
theorem Digs.nil (w : World) (A : Option Addr) : Digs w A [] := ⟨Sl.nil _ _ _, fun h => absurd h (by simp)⟩
theorem Digs.keep {w w' : World} {A : Option Addr} {xs : List Nat} (h : Digs w A xs) (hb : Below w.heap.size w w') : Digs w' A xs :=
  ⟨h.sl.keep hb, fun hp ad e => by
    obtain ⟨cs, fz, hc⟩ := h.u32 hp ad e
    exact ⟨cs, fz, (hb.block _ (Array.getElem?_eq_some_iff.1 hc).1).trans hc⟩⟩
theorem Digs.at {w : World} {A : Option Addr} {xs : List Nat} (h : Digs w A xs) {k : Nat} (hk : k < xs.length) : ∃ ad, A = some ad ∧ w.cell? (ad.add k) = some (.int .u32 (xs[k] : Nat)) := by
  obtain ⟨ad, rfl, hc⟩ := Sl.at1 h.sl hk
  exact ⟨ad, rfl, by simpa [vd] using hc⟩
theorem Digs.take {w : World} {A : Option Addr} {xs : List Nat} (h : Digs w A xs) (k : Nat) (hk : k ≤ xs.length) : Digs w A (xs.take k) := by
  have hl : (xs.take k).length = k := by rw [List.length_take]; omega
  refine ⟨⟨by simp, fun hp => ?_⟩, fun hp => h.u32 (by omega)⟩
  rw [hl] at hp
  obtain ⟨ad, rfl, hlt, ha⟩ := h.sl.lies (by omega)
  refine ⟨ad, rfl, hlt, fun j u hu => ha j u ?_⟩
  have hj := (List.getElem?_eq_some_iff.1 hu).1
  rw [List.length_map, hl] at hj
  rw [List.getElem?_map] at hu ⊢
  rwa [List.getElem?_take_of_lt hj] at hu
theorem Digs.off {w : World} {A : Option Addr} {g : Nat} {t : TypeId} {xs : List Nat} {cs : Array Value} (h : Digs w A xs) (_ : 0 < 1) (B : Blk w g t cs) (hd : ∀ v ∈ cs.toList, v ∉ xs.map vd) : Off A xs.length g := Sl.off h.sl (by omega) B hd
theorem Digs.far {w : World} {A : Option Addr} {g : Nat} {xs : List Nat} (h : Digs w A xs) (ho : Off A xs.length g) (i : Nat) (u : Value) : Digs (w.setCell ⟨g, i, none⟩ u) A xs :=
  ⟨Sl.far h.sl ho i u, fun hp ad e => by
    obtain ⟨cs, fz, hc⟩ := h.u32 hp ad e
    refine ⟨cs, fz, ?_⟩
    rw [Below.heap_setCell _ _ _ _ (ho hp ad e)]
    exact hc⟩
theorem Digs.put {w : World} {A : Option Addr} {xs : List Nat} (h : Digs w A xs) {p : Addr} {v : Value} (hp : w.cell? p = some v) (hv : v ∉ xs.map vd) (u : Value) : Digs (w.setCell p u) A xs :=
  ⟨Sl.put h.sl hp hv u, fun hl ad e => by
    obtain ⟨cs, fz, hc⟩ := h.u32 hl ad e
    by_cases hg : ad.block = p.block
    · refine ⟨if p.spot.isSome then cs else cs.setIfInBounds p.off u, fz, ?_⟩
      simp [World.setCell, Array.getElem?_modify, ← hg, hc]
    · exact ⟨cs, fz, by rw [Below.heap_setCell _ _ _ _ hg]; exact hc⟩⟩
/-- A block whose elements are of another type. -/
theorem Digs.off_ty {w : World} {A : Option Addr} {g : Nat} {t : TypeId} {xs : List Nat} {cs : Array Value} (h : Digs w A xs) (B : Blk w g t cs) (hne : t ≠ 123) : Off A xs.length g := by
  intro hp ad e hg
  obtain ⟨cs', fz, hc⟩ := h.u32 hp ad e
  rw [hg] at hc
  unfold Blk at B
  rw [B] at hc
  injection hc with hc
  injection hc with _ ht
  exact hne ht
/-- A row of the call's own that grows, of another type. -/
theorem Digs.grown {w w' : World} {A : Option Addr} {ys : List Value} {zs : List Nat} {b sz n : Nat} {t : TypeId} {v : Value} (h : Digs w A zs) (ho : w.ownsRow b t sz v n ys) (hg : w.grownBy w' v.ownBlock) (hne : t ≠ 123) : Digs w' A zs := by
  have key : 0 < zs.length → ∀ ad, A = some ad → some ad.block ≠ v.ownBlock := by
    intro hp ad e he
    obtain ⟨cs', fz, hc⟩ := h.u32 hp ad e
    rcases ho.2 with ⟨rfl, _⟩ | ⟨g, cap, cur, rfl, _, hg', _⟩
    · simp [Value.ownBlock] at he
    · have : ad.block = g := by simpa [Value.ownBlock] using he
      rw [this, hg'] at hc
      injection hc with hc
      injection hc with _ ht
      exact hne ht
  refine ⟨⟨h.sl.len, fun hp => ?_⟩, fun hp ad e => ?_⟩
  · obtain ⟨ad, e, hlt, ha⟩ := h.sl.lies hp
    refine ⟨ad, e, Nat.lt_of_lt_of_le hlt hg.size, fun j u hu => hg.cell (ha j u hu) (by rw [add_block]; exact key hp ad e)⟩
  · obtain ⟨cs, fz, hc⟩ := h.u32 hp ad e
    exact ⟨cs, fz, (hg.block _ (Array.getElem?_eq_some_iff.1 hc).1 (key hp ad e)).trans hc⟩
end Go.Proofs.Tg
end
section
/- The harness's numbers: divMag of numbers of one digit. -/
namespace Go.Proofs.Tg
open Go.RowKit Go.Gr
set_option maxHeartbeats 1000000
set_option maxRecDepth 100000
/-- The digits of a number below 2^32. -/
def mg (v : Nat) : List Nat := if v = 0 then [] else [v]
end Go.Proofs.Tg
end
section
/- The harness's numbers: quotient and remainder with signs; fractions in lowest terms. -/
namespace Go.Proofs.Tg
open Go.RowKit Go.Gr
set_option maxHeartbeats 2000000
set_option maxRecDepth 100000
def dl (x : Nat) : List Nat := if x = 1 then [] else mg x
end Go.Proofs.Tg
end
section
/- The reference's reading of a polynomial: well-formed or not. -/
namespace Go.Proofs.Tg
open Go.RowKit Go.Gr Go.Mo Go.Qn
set_option maxHeartbeats 4000000
set_option maxRecDepth 100000
/-- The same, where a condition on the world is held. -/
theorem wpAnyH_get {P : Program} {md : Region.Mode} {ops : Array Oper} {Q : Exit → Act → World → Prop} {S : World → Prop} (i : Nat) (d : Option Tmp) (v : Value) {oi : Oper} {fuel : Nat} {listed : Array Bool} {a : Act} {w : World} (hi : ops[i]? = some oi) (hd : oi.dst = d)
    (hs : Region.noSelect ops = true) (hf : Region.free md ops listed i = true) (hr : (Region.ready md ops listed).contains i = true) (hQ : ∀ c a w, Q (.panic c) (a.put d v) w → Q (.panic c) a w)
    (hw : Region.wanted oi (yielded ops a.tmps) = true) (hS : S w) (hy : ∀ w, S w → (execOp a.eval oi).run P w = .ok (.value v) w) (h : wpAnyH P md ops Q S fuel (listed.setIfInBounds i true) (a.put d v) w) : wpAnyH P md ops Q S (fuel + 1) listed a w := by
  subst hd
  exact wpAnyH_take hi hs hf hr hQ (.inl ⟨hw, hy⟩) hS h
/-- The coefficient's cells hold the number that the text says. -/
def RCo (w : World) (t : RT) (s : ByteArray) : Prop := ∃ b n m N cn D cd, rd s.data.toList = some (b, n, m) ∧ n < 1000000000 ∧ m < 1000000000 ∧ m ≠ 0 ∧ t.c0 = .bool b ∧ t.c1 = .slice N (mg n).length cn ∧ t.c2 = .bool false ∧ t.c3 = .slice D (dl m).length cd ∧ Digs w N (mg n) ∧ Digs w D (dl m)
theorem RCo.keep {w w' : World} {t : RT} {s : ByteArray} (h : RCo w t s) (hb : Below w.heap.size w w') : RCo w' t s := by
  obtain ⟨b, n, m, N, cn, D, cd, h1, h2, h3, h4, h5, h6, h7, h8, h9, h10⟩ := h
  exact ⟨b, n, m, N, cn, D, cd, h1, h2, h3, h4, h5, h6, h7, h8, h9.keep hb, h10.keep hb⟩
theorem RCo.grown {w w' : World} {t : RT} {s : ByteArray} {ys : List Value} {b sz n : Nat} {ty : TypeId} {v : Value} (h : RCo w t s) (ho : w.ownsRow b ty sz v n ys) (hg : w.grownBy w' v.ownBlock) (hne : ty ≠ 123) : RCo w' t s := by
  obtain ⟨b, n, m, N, cn, D, cd, h1, h2, h3, h4, h5, h6, h7, h8, h9, h10⟩ := h
  exact ⟨b, n, m, N, cn, D, cd, h1, h2, h3, h4, h5, h6, h7, h8, h9.grown ho hg hne, h10.grown ho hg hne⟩
theorem RCo.far {w : World} {t : RT} {s : ByteArray} {g : Nat} {ty : TypeId} {cs : Array Value} (h : RCo w t s) (B : Blk w g ty cs) (hne : ty ≠ 123) (i : Nat) (u : Value) : RCo (w.setCell ⟨g, i, none⟩ u) t s := by
  obtain ⟨b, n, m, N, cn, D, cd, h1, h2, h3, h4, h5, h6, h7, h8, h9, h10⟩ := h
  exact ⟨b, n, m, N, cn, D, cd, h1, h2, h3, h4, h5, h6, h7, h8, h9.far (h9.off_ty B hne) i u, h10.far (h10.off_ty B hne) i u⟩
end Go.Proofs.Tg
end
section
/- The reference's Signs, over what its ReadAll gives. -/
namespace Go.Proofs.Tg
open Go.RowKit Go.Gr Go.Ev Go.Mo
set_option maxHeartbeats 4000000
set_option maxRecDepth 100000
def PVal.key (p : PVal) : Int × List (List Int) := (p.vars, p.tv.map TV.exps)
def RP.key (p : RP) : Int × List (List Int) := (p.vars, p.ts.map RT.exps)
end Go.Proofs.Tg
end
section
/- A round: the blocks; the products within them are known from then on. -/
namespace Go.Proofs.Tg
open Go.RowKit Go.Gr Go.Sp Go.Ev Go.Mo Go.Jt
set_option maxHeartbeats 4000000
set_option maxRecDepth 100000
theorem Tab.turn {w w' : World} {mb : Nat} (h : Tab w) (hm : MapB w mb) (hg : w.grownBy w' (some mb)) : Tab w' := ⟨Nat.lt_of_lt_of_le h.1 hg.size, fun j hj => cell_turn hm hg (h.2 j hj)⟩
end Go.Proofs.Tg
end
section
/- The reference's set of the round 0, in memory. -/
namespace Go.Proofs.Tg.Sx
open Go.RowKit Go.Gr Go.Sp Go.Ev Go.Mo Go.Qn
set_option maxHeartbeats 4000000
set_option maxRecDepth 100000
/-- A slice of numbers: where it lies, its capacity, the numbers. -/
abbrev Rw := Option Addr × Nat × List Int
def cellR (r : Rw) : Value := .slice r.1 r.2.2.length r.2.1
/-- Each of the slices lies in what was there from the first, or in a block of the call's own. -/
def RowsK (w0 w : World) (base : Nat) (rs : List Rw) : Prop := ∀ r ∈ rs, Ints w0 r.1 r.2.2 ∨ w.ownsRow base 3 1 (cellR r) r.2.2.length (r.2.2.map vi)
theorem RowsK.below {w0 w w' : World} {base : Nat} {rs : List Rw} (h : RowsK w0 w base rs) (hb : Below w.heap.size w w') : RowsK w0 w' base rs := fun r hr => (h r hr).imp id (fun h => own_below h hb (Nat.le_refl _))
theorem RowsK.kept {w0 w w' : World} {base base' n : Nat} {rs : List Rw} {V : Value} {xs : List Value} (h : RowsK w0 w base rs) (ho : w.ownsRow base' 22 1 V n xs) (hg : w.grownBy w' V.ownBlock) : RowsK w0 w' base rs :=
  fun r hr => (h r hr).imp id (fun h => h.kept hg (own_ne h ho (by decide)))
theorem RowsK.snoc {w0 w : World} {base : Nat} {rs : List Rw} {r : Rw} (h : RowsK w0 w base rs) (hr : Ints w0 r.1 r.2.2 ∨ w.ownsRow base 3 1 (cellR r) r.2.2.length (r.2.2.map vi)) : RowsK w0 w base (rs ++ [r]) := by
  intro x hx
  rcases List.mem_append.1 hx with hx | hx
  · exact h x hx
  · rw [List.mem_singleton.1 hx]; exact hr
theorem RowsK.base {w0 w : World} {base b' : Nat} {rs : List Rw} (h : RowsK w0 w base rs) (hb : b' ≤ base) : RowsK w0 w b' rs := fun r hr => (h r hr).imp id (fun h => own_base h hb)
theorem rows_lists {w0 w : World} {base c : Nat} {A : Option Addr} {rs : List Rw} (hS : Sl w A rs.length 1 (rs.map cellR)) (hK : RowsK w0 w base rs) (hb : Below w0.heap.size w0 w) : Lists w A (rs.map fun r => r.2.2) := by
  have _ := c
  refine ⟨fun i => ((rs.getD i (none, 0, [])).1, (rs.getD i (none, 0, [])).2.1), ?_, fun i hi => ?_⟩
  · have e : (List.range (rs.map fun r => r.2.2).length).map (fun i => Value.slice (rs.getD i (none, 0, [])).1 ((rs.map fun r => r.2.2).getD i []).length (rs.getD i (none, 0, [])).2.1) = rs.map cellR := by
      refine List.ext_getElem (by simp) fun i h1 h2 => ?_
      have hi : i < rs.length := by simpa using h2
      simp [hi, cellR]
    rw [e, List.length_map]
    exact hS
  · have hi' : i < rs.length := by simpa using hi
    have e1 : rs.getD i (none, 0, []) = rs[i] := by simp [hi']
    have e2 : (rs.map fun r => r.2.2).getD i [] = rs[i].2.2 := by simp [hi']
    simp only [e1, e2]
    rcases hK rs[i] (List.getElem_mem _) with h | h
    · exact h.keep hb
    · exact Sl.own h
end Go.Proofs.Tg.Sx
end
section
/- IsGroup of group. -/
namespace Go.Pm
/-- A list that is a group: permutations of the same few variables in ascending order, with the identity and all products. -/
def IsG (l : List (List Int)) : Prop := (l.headD []).length ≤ 6 ∧ l ≠ [] ∧ (∀ a ∈ l, Perm (l.headD []).length a) ∧ Asc l ∧ Grp (l.headD []).length l
end Go.Pm
namespace Go.Proofs.Tg.Gp
open Go.RowKit Go.Gr Go.Sp Go.Ev Go.Pm
open Go.Proofs.Tg.Sx (Rw cellR RowsK rows_lists)
set_option maxHeartbeats 1000000
set_option maxRecDepth 100000
/-- The first k elements are permutations, in order. -/
structure Pre (n : Nat) (l : List (List Int)) (k : Nat) : Prop where
  perm : ∀ i (h : i < l.length), i < k → l[i].length ≤ 6 ∧ Perm n l[i]
  asc : ∀ i (h : i + 1 < l.length), i + 1 < k → cmpL (l[i]'(by omega)) l[i + 1] < 0
theorem Pre.succ {n : Nat} {l : List (List Int)} {k : Nat} (h : Pre n l k) (hk : k < l.length) (h6 : l[k].length ≤ 6) (hp : Perm n l[k]) (ha : ∀ (_ : 0 < k), cmpL (l[k - 1]'(by omega)) l[k] < 0) : Pre n l (k + 1) := by
  refine ⟨fun i hi hik => ?_, fun i hi hik => ?_⟩
  · by_cases he : i = k
    · subst he; exact ⟨h6, hp⟩
    · exact h.perm i hi (by omega)
  · by_cases he : i + 1 = k
    · subst he
      have := ha (by omega)
      simpa using this
    · exact h.asc i hi (by omega)
theorem lists_nil (w : World) : Lists w none [] := ⟨fun _ => (none, 0), Sl.nil _ _ _, fun i hi => by simp at hi⟩
/-- What the second loop holds. -/
structure GrSt (w : World) (n : Nat) (l : List (List Int)) (wr : World) (k : Nat) (A : Option Addr) (c : Nat) (rs : List Rw) (mb : Nat) (S : List (List Int)) : Prop where
  below : Below w.heap.size w wr
  gen : IsGen n (rs.map fun r => r.2.2) S
  sub : ∀ g ∈ rs.map (fun r => r.2.2), g ∈ l
  all : ∀ i (h : i < l.length), i < k → Gen n (rs.map fun r => r.2.2) l[i]
  len : rs.length ≤ k
  own : wr.ownsRow w.heap.size 22 1 (.slice A rs.length c) rs.length (rs.map cellR)
  ints : ∀ r ∈ rs, Ints w r.1 r.2.2
  set : SetM wr mb S.length n S
  low : w.heap.size ≤ mb
theorem gp_isgroup (L : Option Addr) (cL : Nat) (l : List (List Int)) (v : Bool) (w : World) (hL : Lists w L l) (hl : l.length ≤ 100000) (hll : ∀ x ∈ l, x.length ≤ 1000) (hv : v = true ↔ IsG l) :
    Calls Tryz.prog 42 #[.slice L l.length cL] w fun e w' => e = .returned (.bool v) ∧ Below w.heap.size w w' := by
  have HV := Lib.hid hv
  have HL := Lib.hid hL
  have HLL := Lib.hid hll
  obtain ⟨j0, hj0, hjz0, hjz1, hjz2⟩ := info_parts prow_info
  clear hv hL hll
  cases l with
  | nil =>
    obtain rfl : v = false := eq_false_of_ne_true (fun h => (HV.out.1 h).2.1 rfl)
    go_enter Tryz.func42, Tryz.ntmps42
    go_wp2
    go_ret
    exact ⟨rfl, Below.refl _ _⟩
  | cons a0 l0 =>
    obtain ⟨l, hlE⟩ : ∃ l, a0 :: l0 = l := ⟨_, rfl⟩
    have hpos : 0 < l.length := by rw [← hlE]; simp
    have hn0 : (l.headD []).length = l[0].length := by subst hlE; rfl
    have hne : l ≠ [] := by rw [← hlE]; simp
    rw [hlE] at HV HL HLL hl ⊢
    clear hlE
    obtain ⟨n, hn⟩ : ∃ n, l[0].length = n := ⟨_, rfl⟩
    have HVN : Hid (v = true ↔ n ≤ 6 ∧ (∀ a ∈ l, Perm n a) ∧ Asc l ∧ Grp n l) := Lib.hid (by
      rw [HV.out]
      unfold IsG
      rw [hn0, hn]
      exact ⟨fun h => ⟨h.1, h.2.2⟩, fun h => ⟨h.1, hne, h.2⟩⟩)
    obtain ⟨ad, E0, ce0, rfl, hc0, hE0⟩ := HL.out.at hpos
    rw [hn] at hc0
    have hzl : ((l.length : Int) == 0) = false := beq_eq_false_iff_ne.2 (by omega)
    have p0 : (0 : Int) < (l.length : Int) := by omega
    have hc0' : w.cell? ad = some (.slice E0 n ce0) := by
      have e : ad.add 0 = ad := by unfold Addr.add; split <;> simp_all
      rwa [e] at hc0
    clear hn0 hne hE0 HV
    have HN := Lib.hid hn
    clear hn
    go_enter Tryz.func42, Tryz.ntmps42
    go_wp2
    clear hc0 hc0'
    go_loopw [19] (fun s19 wr => ∃ k : Nat, s19 = .int .i64 k ∧ k ≤ l.length ∧ Hid (Pre n l k) ∧ Below w.heap.size w wr) (fun s19 _ => l.length - (intOf s19).toNat)
    case atStart => exact ⟨0, rfl, Nat.zero_le _, Lib.hid ⟨fun i _ h => by omega, fun i _ h => by omega⟩, Below.refl _ _⟩
    case round =>
      obtain ⟨wo, rfl⟩ : ∃ wo : World, wo = wr := ⟨_, rfl⟩
      obtain ⟨k, rfl, hk, HPRE, hbo⟩ := hrel
      by_cases hkl : k < l.length
      · obtain ⟨ad', E, ce, had, hc, hE⟩ := (HL.out.keep hbo).at hkl
        injection had with had
        subst had
        have q0 : (0 : Int) ≤ (k : Int) := by omega
        have q1 : (k : Int) < (l.length : Int) := by omega
        have q3 : ((k : Int)).toNat = k := by omega
        have hxl := HLL.out l[k] (List.getElem_mem _)
        by_cases hval : l[k].length ≤ 6 ∧ Perm l[k].length l[k]
        · have HVL := Lib.hid (gvalid_any E ce l[k] true wo hE (by omega) ⟨fun _ => hval, fun _ => rfl⟩)
          by_cases hlen : l[k].length = n
          · have hlb : ((l[k].length : Int) != (n : Int)) = false := by simp [hlen]
            have hpn : Perm n l[k] := by rw [← hlen]; exact hval.2
            by_cases hk0 : k = 0
            · have hg0 : decide ((0 : Int) < (k : Int)) = false := decide_eq_false (by omega)
              have hg0' : decide (0 < k) = false := decide_eq_false (by omega)
              have HP2 := Lib.hid (HPRE.out.succ hkl hval.1 hpn (fun h => absurd h (by omega)))
              clear hval hpn hk0 hlen
              generalize l[k] = x at *
              go_wp2_with (go_at_call 74; refine HVL.out.mono ?_; rintro e w1 ⟨rfl, hb1⟩)
              go_roundw
              case rel => exact ⟨k + 1, by go_num, by omega, HP2, below_all hbo hb1⟩
              case measure => simp [intOf]; omega
            · obtain ⟨m, hkm⟩ : ∃ m, k = m + 1 := ⟨k - 1, by omega⟩
              have hk1 : m < l.length := by omega
              obtain ⟨ad', E1, ce1, had, hc1, hE1⟩ := (HL.out.keep hbo).at hk1
              injection had with had
              subst had
              have hg0 : decide ((0 : Int) < (k : Int)) = true := decide_eq_true (by omega)
              have hg0' : decide (0 < k) = true := decide_eq_true (by omega)
              have ww1 : IntKind.i64.wrap ((k : Int) - 1) = (m : Int) := by rw [IntWalk.i64_in _ (by omega)]; omega
              have r0 : (0 : Int) ≤ (m : Int) := by omega
              have r1 : (m : Int) < (l.length : Int) := by omega
              have r3 : ((m : Int)).toNat = m := by omega
              have hyl := HLL.out (l[m]'hk1) (List.getElem_mem _)
              have hcmp := fun V (h : Below wo.heap.size wo V) => Gx.compare_any E1 E ce1 ce (l[m]'hk1) l[k] V (hE1.keep h) (hE.keep h) (by omega)
              by_cases hlt : cmpL (l[m]'hk1) l[k] < 0
              · have hd : decide (0 ≤ cmpL (l[m]'hk1) l[k]) = false := decide_eq_false (by omega)
                have HP2 := Lib.hid (HPRE.out.succ hkl hval.1 hpn (fun _ => (by
                  have e : k - 1 = m := by omega
                  simp only [e]
                  exact hlt)))
                clear hval hpn hlt hkm hk0 hlen
                generalize cmpL (l[m]'hk1) l[k] = z at *
                generalize l[m]'hk1 = y at *
                generalize l[k] = x at *
                have HCM : Hid (∀ V, Below wo.heap.size wo V → Calls Tryz.prog 51 #[.slice E1 y.length ce1, .slice E x.length ce] V fun e w' => e = .returned (.int .i64 z) ∧ V = w') := Lib.hid hcmp
                clear hcmp hE hE1
                go_wp2_with (first
                  | (go_at_call 74; refine HVL.out.mono ?_; rintro e w1 ⟨rfl, hb1⟩
                     have hc1 := keep_cell hb1 hc1)
                  | (go_at_call 51; refine (HCM.out _ hb1).mono ?_; rintro e w2 ⟨rfl, rfl⟩))
                go_roundw
                case rel => exact ⟨k + 1, by go_num, by omega, HP2, below_all hbo hb1⟩
                case measure => simp [intOf]; omega
              · have hd : decide (0 ≤ cmpL (l[m]'hk1) l[k]) = true := decide_eq_true (by omega)
                obtain rfl : v = false := eq_false_of_ne_true (fun h => hlt ((HVN.out.1 h).2.2.1.lt hk1 hkl (by omega)))
                clear hval hpn hlt hkm hk0 hlen
                generalize cmpL (l[m]'hk1) l[k] = z at *
                generalize l[m]'hk1 = y at *
                generalize l[k] = x at *
                have HCM : Hid (∀ V, Below wo.heap.size wo V → Calls Tryz.prog 51 #[.slice E1 y.length ce1, .slice E x.length ce] V fun e w' => e = .returned (.int .i64 z) ∧ V = w') := Lib.hid hcmp
                clear hcmp hE hE1
                go_wp2_with (first
                  | (go_at_call 74; refine HVL.out.mono ?_; rintro e w1 ⟨rfl, hb1⟩
                     have hc1 := keep_cell hb1 hc1)
                  | (go_at_call 51; refine (HCM.out _ hb1).mono ?_; rintro e w2 ⟨rfl, rfl⟩))
                go_ret
                exact ⟨rfl, below_all hbo hb1⟩
          · have hlb : ((l[k].length : Int) != (n : Int)) = true := by simp; omega
            obtain rfl : v = false := eq_false_of_ne_true (fun h => hlen ((HVN.out.1 h).2.1 _ (List.getElem_mem _)).1)
            clear hval hlen
            generalize l[k] = x at *
            go_wp2_with (go_at_call 74; refine HVL.out.mono ?_; rintro e w1 ⟨rfl, hb1⟩)
            go_ret
            exact ⟨rfl, below_all hbo hb1⟩
        · have HVL := Lib.hid (gvalid_any E ce l[k] false wo hE (by omega) (Iff.intro (fun h => by cases h) (fun h => absurd h hval)))
          obtain rfl : v = false := eq_false_of_ne_true (fun h => hval (by
            have h1 := HVN.out.1 h
            have h2 := h1.2.1 l[k] (List.getElem_mem _)
            rw [h2.1]
            exact ⟨h1.1, h2⟩))
          clear hval
          generalize l[k] = x at *
          go_wp2_with (go_at_call 74; refine HVL.out.mono ?_; rintro e w1 ⟨rfl, hb1⟩)
          go_ret
          exact ⟨rfl, below_all hbo hb1⟩
      · obtain rfl : k = l.length := by omega
        have hpl : ∀ a ∈ l, Perm n a := fun a ha => by
          obtain ⟨i, hi, rfl⟩ := List.getElem_of_mem ha
          exact (HPRE.out.perm i hi hi).2
        have hn6 : n ≤ 6 := by
          have h1 := HPRE.out.perm 0 hpos hpos
          have := h1.2.1
          omega
        have hasc : Asc l := asc_of fun i hi => HPRE.out.asc i hi hi
        have HVG : Hid (v = true ↔ Grp n l) := Lib.hid (by
          rw [HVN.out]
          exact ⟨fun h => h.2.2.2, fun h => ⟨hn6, hpl, hasc, h⟩⟩)
        have HPL := Lib.hid hpl
        have HND := Lib.hid hasc.nodup
        have HC0 : Hid (∀ V, Calls Tryz.prog 75 #[.int .i64 n, .slice none 0 0] V fun e w' => ∃ mb S, e = .returned (.map (some mb)) ∧ IsGen n [] S ∧ SetM w' mb S.length n S ∧ V.heap.size ≤ mb ∧ Below V.heap.size V w') := Lib.hid (fun V => gp_closure none 0 n [] V (lists_nil V) (fun g h => absurd h (by simp)) hn6 (by simp))
        have HCL : Hid (∀ V A c gs, Lists V A gs → (∀ g ∈ gs, Perm n g) → gs.length ≤ 1000000 → Calls Tryz.prog 75 #[.int .i64 n, .slice A gs.length c] V fun e w' => ∃ mb S, e = .returned (.map (some mb)) ∧ IsGen n gs S ∧ SetM w' mb S.length n S ∧ V.heap.size ≤ mb ∧ Below V.heap.size V w') := Lib.hid (fun V A c gs h1 h2 h3 => gp_closure A c n gs V h1 h2 hn6 h3)
        have dk : decide ((l.length : Int) < (l.length : Int)) = false := by simp
        clear hpl hasc HPRE HVN
        go_wp2_with (go_at_call 75; refine (HC0.out _).mono ?_; rintro e w1 ⟨mb, S, rfl, hIG, hS, hlow, hb1⟩)
        have hbw := below_all hbo hb1
        have hlow' : w.heap.size ≤ mb := Nat.le_trans hbo.size hlow
        clear dk HC0 hlow
        go_loopw [52, 6, 7] (fun s52 s6 s7 wr => ∃ (k : Nat) (A : Option Addr) (c : Nat) (rs : List Rw) (mb : Nat) (S : List (List Int)), s52 = .int .i64 k ∧ k ≤ l.length ∧ s6 = .slice A rs.length c ∧ s7 = .map (some mb) ∧ Hid (GrSt w n l wr k A c rs mb S)) (fun s52 _ _ _ => l.length - (intOf s52).toNat)
        case atStart => exact ⟨0, none, 0, [], mb, S, rfl, Nat.zero_le _, rfl, rfl, Lib.hid ⟨hbw, hIG, (fun g h => absurd h (by simp)), (fun i _ h => absurd h (by omega)), Nat.le_refl _, World.ownsRow_nil _ _ _ _, (fun r h => absurd h (by simp)), hS, hlow'⟩⟩
        case round =>
          clear hbw hIG hS hlow'
          obtain ⟨wi, rfl⟩ : ∃ wi : World, wi = wr := ⟨_, rfl⟩
          obtain ⟨k, A, c, rs, mb, S, rfl, hk2, rfl, rfl, HST⟩ := hrel
          have hbi := HST.out.below
          by_cases hkl2 : k < l.length
          · obtain ⟨ad', E, ce, had, hc, hE⟩ := HL.out.at hkl2
            injection had with had
            subst had
            have hc := keep_cell hbi hc
            have q0 : (0 : Int) ≤ (k : Int) := by omega
            have q1 : (k : Int) < (l.length : Int) := by omega
            have q3 : ((k : Int)).toNat = k := by omega
            have hpk := HPL.out l[k] (List.getElem_mem _)
            have hlen := hpk.1
            have hdk := perm_dom hn6 hpk
            have hky := keyOf_any E ce l[k] wi (hE.keep hbi) (by omega)
            rw [hlen] at hc hky
            have HKY := Lib.hid hky
            clear hky
            by_cases hin : l[k] ∈ S
            · have hdec : decide (l[k] ∈ S) = true := decide_eq_true hin
              have HS2 : Hid (∀ V, Below wi.heap.size wi V → GrSt w n l V (k + 1) A c rs mb S) := Lib.hid (fun V h =>
                ⟨below_all hbi h, HST.out.gen, HST.out.sub, fun i hi hik => by
                  by_cases he : i = k
                  · subst he; exact (HST.out.gen.2 _).1 hin
                  · exact HST.out.all i hi (by omega), Nat.le_succ_of_le HST.out.len, own_below HST.out.own h (Nat.le_refl _), HST.out.ints, HST.out.set.below h HST.out.set.lt, HST.out.low⟩)
              have hset := HST.out.set
              clear hin hpk hlen hE
              generalize l[k] = x at *
              go_wp2_with (go_at_call 76; refine HKY.out.mono ?_; rintro e w4 ⟨rfl, hb4⟩
                           have hlook := (hset.below hb4 hset.lt).look hdk hdec)
              go_roundw
              case rel => exact ⟨k + 1, A, c, rs, mb, S, by go_num, by omega, rfl, rfl, Lib.hid (HS2.out _ hb4)⟩
              case measure => simp [intOf]; omega
            · have hdec : decide (l[k] ∈ S) = false := decide_eq_false hin
              have hrl := HST.out.len
              have HIK := Lib.hid hE
              have HSUB : Hid (∀ g ∈ (rs ++ [(E, ce, l[k])]).map (fun r => r.2.2), g ∈ l) := Lib.hid (fun g hg => by
                rw [List.map_append] at hg
                rcases List.mem_append.1 hg with h | h
                · exact HST.out.sub g h
                · rw [List.mem_singleton.1 h]; exact List.getElem_mem _)
              have HPG : Hid (∀ g ∈ (rs ++ [(E, ce, l[k])]).map (fun r => r.2.2), Perm n g) := Lib.hid (fun g hg => HPL.out g (HSUB.out g hg))
              have HALL : Hid (∀ i (h : i < l.length), i < k + 1 → Gen n ((rs ++ [(E, ce, l[k])]).map fun r => r.2.2) l[i]) := Lib.hid (fun i hi hik => by
                by_cases he : i = k
                · subst he
                  exact Gen.mem HPG.out (by simp)
                · refine Gen.mono (fun g hg => ?_) (HST.out.all i hi (by omega))
                  rw [List.map_append]
                  exact List.mem_append_left _ hg)
              have HRS : Hid (∀ r ∈ rs ++ [(E, ce, l[k])], Ints w r.1 r.2.2) := Lib.hid (fun r hr => by
                rcases List.mem_append.1 hr with h | h
                · exact HST.out.ints r h
                · rw [List.mem_singleton.1 h]; exact HIK.out)
              have hset := HST.out.set
              have hcr : cellR (E, ce, l[k]) = .slice E n ce := by simp [cellR, hlen]
              have HCR := Lib.hid hcr
              clear hin hpk hlen hE hcr
              generalize l[k] = x at *
              have hrl2 : rs.length ≤ 100000 := by omega
              go_upto_region 18 with (first
                | (go_at_call 76; refine HKY.out.mono ?_; rintro e w4 ⟨rfl, hb4⟩
                   have hlook := (hset.below hb4 hset.lt).look hdk hdec)
                | (at_builtin
                   have hown4 := own_below HST.out.own hb4 (Nat.le_refl _)
                   have hb4w := below_all hbi hb4
                   refine wpList_append_own _ rfl _ _ 23 rfl w.heap.size 22 j0 (.slice none 0 0) 1 24 Tryz.underlying23 hj0 hjz0 hjz1 hjz2 rfl (by decide) (.slice A rs.length c) rs.length (rs.map cellR) rfl (hown4.alloc _) ⟨w4.heap.size, 0, none⟩ 1 1 [.slice E n ce] rfl rfl (cell_one_new _ _ _) (by simp [Value.oneCell']) (by simp only [maxLen]; omega) (by omega) (by have := hb4w.size; simp; omega) ?_
                   intro v' w5 hown5 hg5 _
                   obtain ⟨A5, c5, hv5, _, _⟩ := Sl.of_own hown5
                   subst hv5
                   have hb5 := (hb4w.alloc hb4w.size (.cells #[.slice E n ce] 22)).grown hg5 (by have := hb4w.size; simp; omega) (fun j hj => (hown4.lt j hj).1)
                   have hown6 : w5.ownsRow w.heap.size 22 1 (.slice A5 (rs ++ [(E, ce, x)]).length c5) (rs ++ [(E, ce, x)]).length ((rs ++ [(E, ce, x)]).map cellR) := by
                     rw [List.length_append, List.map_append, List.map_singleton, HCR.out]; exact hown5
                   have hL5 := rows_lists (c := c5) (Sl.own hown6) (fun r hr => .inl (HRS.out r hr) : RowsK w w5 w.heap.size _) hb5
                   have hl5 : ((rs ++ [(E, ce, x)]).map fun r => r.2.2).length ≤ 1000000 := by simp; omega
                   have hcl := HCL.out w5 A5 c5 _ hL5 HPG.out hl5
                   rw [List.length_map] at hcl
                   have HCL5 := Lib.hid hcl
                   have hrl5 : (rs ++ [(E, ce, x)]).length = rs.length + 1 := by simp
                   clear hcl hL5 hl5)
                | (go_at_call 75
                   have hcl2 := HCL5.out
                   rw [hrl5] at hcl2
                   refine hcl2.mono ?_; rintro e w6 ⟨mb6, S6, rfl, hIG6, hS6, hlow6, hb6⟩
                   have hlenm := fun ty => SetM.len hS6 ty))
              have hb6w := below_all hb5 hb6
              have hlow6' : w.heap.size ≤ mb6 := Nat.le_trans hb5.size hlow6
              clear hlook HKY HCL5 hset
              by_cases hov : l.length < S6.length
              · have d1 : decide ((l.length : Int) < (S6.length : Int)) = true := decide_eq_true (by omega)
                have d2 : decide (l.length < S6.length) = true := decide_eq_true hov
                obtain rfl : v = false := eq_false_of_ne_true (fun h => hIG6.over HSUB.out hov (HVG.out.1 h))
                clear hov
                go_wp2
                go_ret
                exact ⟨rfl, hb6w⟩
              · have d1 : decide ((l.length : Int) < (S6.length : Int)) = false := decide_eq_false (by omega)
                have d2 : decide (l.length < S6.length) = false := decide_eq_false hov
                clear hov
                go_wp2
                go_roundw
                case rel => exact ⟨k + 1, A5, c5, rs ++ [(E, ce, x)], mb6, S6, by go_num, by omega, by simp, rfl, Lib.hid ⟨hb6w, hIG6, HSUB.out, HALL.out, by simp; omega, own_below hown6 hb6 (Nat.le_refl _), HRS.out, hS6, hlow6'⟩⟩
                case measure => simp [intOf]; omega
          · obtain rfl : k = l.length := by omega
            have dk : decide ((l.length : Int) < (l.length : Int)) = false := by simp
            have hlenm := fun ty => SetM.len HST.out.set ty
            have hiff := HST.out.gen.grp HND.out HPL.out HST.out.sub (fun a ha => by
              obtain ⟨i, hi, rfl⟩ := List.getElem_of_mem ha
              exact HST.out.all i hi hi)
            have hq : ((S.length : Int) == (l.length : Int)) = v := by
              cases v with
              | true => exact beq_iff_eq.2 (by have := hiff.2 (HVG.out.1 rfl); omega)
              | false => exact beq_eq_false_iff_ne.2 (fun e => by have := HVG.out.2 (hiff.1 (by omega)); cases this)
            have hq' : (S.length == l.length) = v := by
              cases v with
              | true => simpa using hiff.2 (HVG.out.1 rfl)
              | false => exact beq_eq_false_iff_ne.2 (fun e => by have := HVG.out.2 (hiff.1 e); cases this)
            clear hiff
            go_wp2
            go_ret
            exact ⟨rfl, HST.out.below⟩
end Go.Proofs.Tg.Gp
end
