/- Parts of the proof: NU12, NU14, XR2, BN27, SC1, GWC, GSpecE, GPA, GWQ, GXN, GChordal, GPD, GPH, GPO, IX1, CN3, BN31, BN32. -/
import Derived.Deep.CutBlock
import Derived.Laws.ShiftsVarLaws
import Derived.Carry
import Derived.Laws.OwnMore
import Derived.RegionTactic
import Derived.ChangeAlike
import Derived.Deep.DeepCutAuto
import Derived.Deep.CutRange
import Derived.ChangeKeysEq
import Derived.Laws.Rows
import Derived.Laws.Tables
import Derived.Deep.AppendLies
import Derived.Deep.RegionHeld3
import Derived.Deep.RegionWith
import Derived.Maps.AppendAt
import Derived.IntWalk
import Derived.Laws.MakeOwn
import Derived.Lib.Tables
import Derived.Laws.MathBits
import Derived.Laws.CopyOwn
import Derived.StillTailTactics
import Derived.Laws.IdiomCopy
import Derived.Maps.OwnSet
import Derived.WalkKit
import Derived.DeepKeys5
import Derived.ChangeKeys
import Derived.Maps.OwnOps
import Derived.DeepKeys4
import Derived.Deep.Cut
import Derived.Test.YtbgaiceakmmfdaaGreatDoorMMV0
import Derived.Test.YtbgaiceakmmfdaaGreatDoorMMV1
import Derived.Test.YtbgaiceakmmfdaaGreatDoorMMV2
import Derived.Test.YtbgaiceakmmfdaaGreatDoorMMV3
import Derived.Test.YtbgaiceakmmfdaaGreatDoorMMV4
import Derived.Test.YtbgaiceakmmfdaaGreatDoorMMV8
section
/- The harness's numbers: decimal digits read. -/
namespace Go.Proofs.Tg
open Go.RowKit Go.Gr Go.Qn
set_option maxHeartbeats 2000000
set_option maxRecDepth 100000
def RetFD (l : List UInt8) (w : World) (e : Ending) (w' : World) : Prop :=
  Below w.heap.size w w' ∧ ((numOk l = false ∧ ∃ n A c, e = .returned (.tuple #[.agg #[.bool false, .slice A n c], .bool false])) ∨
    (numOk l = true ∧ ∃ ad c, e = .returned (.tuple #[.agg #[.bool false, .slice (some ad) (mg (val l)).length c], .bool true]) ∧ Digs w' (some ad) (mg (val l))))
theorem fdig_nil (w : World) : Calls Tryz.prog 31 #[.string ByteArray.empty] w (RetFD [] w) := by
 have hbA : Below w.heap.size w (w.alloc (.cells #[.bool false, .slice none 0 0] 52)) := (Below.refl _ _).alloc (Nat.le_refl _) _
 have K2 := Blk.new w 52 #[.bool false, .slice none 0 0]
 have HM := Lib.hid (fun W => make1_any false none 0 0 W false rfl (by omega))
 go_enter Tryz.func31, Tryz.ntmps31
 go_wp2
 refine wp_loop_rounds 1 ?_
 rw [rounds_succ]
 go_wp2_with (go_at_call 32; refine (HM.out _).mono ?_; rintro e w2 ⟨rfl, hb2⟩
              have K3 := K2.keep hb2 K2.lt
              obtain ⟨j0, j1, j2, j3⟩ := K3.two)
 refine bodyPost_ret (v := .tuple #[.agg #[.bool false, .slice none 0 0], .bool false]) (by simp [results, Tryz.results31, go_sem, j0, j1]) rfl ⟨?_, .inl ⟨rfl, 0, none, 0, rfl⟩⟩
 exact ((below_all hbA hb2).setCell (by simp) _).setCell (by simp) _
end Go.Proofs.Tg
end
section
/- The harness's numbers: a number read. -/
namespace Go.Proofs.Tg
open Go.RowKit Go.Gr Go.Qn
set_option maxHeartbeats 2000000
set_option maxRecDepth 100000
theorem tw47 (r : List UInt8) (k : Nat) (h : ∀ c ∈ r.take k, ne47 c = true) (hx : r.length ≤ k ∨ ∃ h : k < r.length, ne47 r[k] = false) : (r.takeWhile ne47).length = min k r.length := by
 rw [(tw_at r k h hx).1, List.length_take]
theorem drop47 {r : List UInt8} (h : (r.takeWhile ne47).length < r.length) : ∃ t, r.dropWhile ne47 = 47 :: t ∧ t = r.drop ((r.takeWhile ne47).length + 1) := by
 have e := List.takeWhile_append_dropWhile (p := ne47) (l := r)
 cases hd : r.dropWhile ne47 with
 | nil =>
   rw [hd, List.append_nil] at e
   rw [e] at h; omega
 | cons c t =>
   have hc : ne47 c = false := by
    have := List.head?_dropWhile_not ne47 r
    rw [hd] at this
    simpa using this
   have hc' : c = 47 := by unfold ne47 at hc; simpa using hc
   subst hc'
   refine ⟨t, rfl, ?_⟩
   rw [hd] at e
   have : r.drop ((r.takeWhile ne47).length + 1) = (r.takeWhile ne47 ++ 47 :: t).drop ((r.takeWhile ne47).length + 1) := by rw [e]
   rw [this, List.drop_append]
   simp
end Go.Proofs.Tg
end
section
/- The reference's reading of a polynomial: well-formed or not. -/
namespace Go.Proofs.Tg
open Go.RowKit Go.Gr Go Go.Qn
set_option maxHeartbeats 4000000
set_option maxRecDepth 100000
/-- The same, where a condition on the world is held. -/
theorem wpAnyH_get {P : Program} {md : Region.Mode} {ops : Array Oper} {Q : Exit → Act → World → Prop} {S : World → Prop} (i : Nat) (d : Option Tmp) (v : Value) {oi : Oper} {fuel : Nat} {listed : Array Bool} {a : Act} {w : World} (hi : ops[i]? = some oi) (hd : oi.dst = d)
    (hs : Region.noSelect ops = true) (hf : Region.free md ops listed i = true) (hr : (Region.ready md ops listed).contains i = true) (hQ : ∀ c a w, Q (.panic c) (a.put d v) w → Q (.panic c) a w)
    (hw : Region.wanted oi (yielded ops a.tmps) = true) (hS : S w) (hy : ∀ w, S w → (execOp a.eval oi).run P w = .ok (.value v) w) (h : wpAnyH P md ops Q S fuel (listed.setIfInBounds i true) (a.put d v) w) : wpAnyH P md ops Q S (fuel + 1) listed a w := by
  subst hd
  exact wpAnyH_take hi hs hf hr hQ (.inl ⟨hw, hy⟩) hS h
end Go.Proofs.Tg
end
section
/- The harness's numbers: the product of rational numbers. -/
namespace Go.Proofs.Tg
open Go.RowKit Go.Gr Go.Bn Go.Rq
set_option maxHeartbeats 8000000
set_option maxRecDepth 100000
theorem rat_whole {q : Rat} (h : q.den = 1) : q = (q.num : Rat) := Rat.ext rfl h
end Go.Proofs.Tg
end
section
/- The harness's tape: what a call that reads it leaves. -/
namespace Go.Proofs.Tg
open Go.RowKit Go.Gr Go.Bn Go.Rq
set_option maxHeartbeats 4000000
set_option maxRecDepth 100000
/-- What a call that turns nothing but block g leaves. -/
abbrev Tk (g : Nat) (w w' : World) : Prop := w.grownBy w' (some g)
theorem Tk.of {g : Nat} {w w' : World} (h : Below w.heap.size w w') : Tk g w w' := ⟨h.os, h.tape, h.output, h.size, fun k hk _ => h.block k hk⟩
theorem Tk.refl (g : Nat) (w : World) : Tk g w w := ⟨rfl, rfl, rfl, Nat.le_refl _, fun _ _ _ => rfl⟩
theorem Tk.trans {g : Nat} {w w' w'' : World} (h : Tk g w w') (k : Tk g w' w'') : Tk g w w'' :=
  ⟨k.os.trans h.os, k.tape.trans h.tape, k.output.trans h.output, Nat.le_trans h.size k.size, fun i hi hg => (k.block i (Nat.lt_of_lt_of_le hi h.size) hg).trans (h.block i hi hg)⟩
theorem Tk.then {g : Nat} {w w' w'' : World} (h : Tk g w w') (k : Below w'.heap.size w' w'') : Tk g w w'' := h.trans (Tk.of k)
theorem Tk.set (g : Nat) (w : World) (i : Nat) (u : Value) : Tk g w (w.setCell ⟨g, i, none⟩ u) :=
  ⟨rfl, rfl, rfl, by simp [World.setCell], fun k _ hk => Below.heap_setCell w _ u k (fun e => hk (by rw [e]))⟩
/-- Seen from a world in which g was not yet made. -/
theorem Tk.below {g : Nat} {w0 w w' : World} (hb : Below w0.heap.size w0 w) (h : Tk g w w') (hg : w0.heap.size ≤ g) : Below w0.heap.size w0 w' :=
  hb.grown h hb.size (fun k hk => by injection hk with hk; omega)
end Go.Proofs.Tg
end
section
/- The adjacency: 64 sets in a block; connect. -/
namespace Go.Gr
def Small (A : Nat → Nat) : Prop := ∀ i, A i < 18446744073709551616
end Go.Gr
namespace Go.Proofs.Tg.Gx
open Go.RowKit Go.Gr
set_option maxHeartbeats 1000000
end Go.Proofs.Tg.Gx
end
section
/- Plain functions for the chordal extension. -/
namespace Go.Gr
/-- No vertex is its own neighbour. -/
def Irr (A : Nat → Nat) : Prop := ∀ v, v < 64 → (A v).testBit v = false
end Go.Gr
end
section
/- Plain law of Make: the edges that the library writes are the edges of the reference's table. -/
namespace Go.Gr
theorem filter_range_le {n N : Nat} (hn : n ≤ N) {p q : Nat → Bool} (h1 : ∀ k, k < n → p k = q k) (h2 : ∀ k, n ≤ k → k < N → p k = false) : (List.range N).filter p = (List.range n).filter q := by
 obtain ⟨d, rfl⟩ := Nat.le.dest hn
 rw [List.range_add, List.filter_append, List.filter_congr (fun x hx => h1 x (by simpa using hx))]
 rw [show ((List.range d).map (n + ·)).filter p = [] from List.filter_eq_nil_iff.2 (fun a ha => by
  obtain ⟨x, hx, rfl⟩ := List.mem_map.1 ha
  have : x < d := by simpa using hx
  simp [h2 (n + x) (by omega) (by omega)])]
 simp
end Go.Gr
end
section
/- Comparisons of lists in the statements. -/
namespace Go.Proofs.Tg.Gx
open Go.RowKit Go.Gr
set_option maxHeartbeats 1000000
set_option maxRecDepth 100000
theorem Dr.refl (w : World) : Dr w w := ⟨0, rfl⟩
end Go.Proofs.Tg.Gx
end
section
/- The reference's Fill. -/
namespace Go.Gr
def cntR (t : Nat → Nat → Bool) (gone : Nat → Bool) (i k : Nat) : Nat := ((List.range k).filter fun j => t i j && !gone j).length
end Go.Gr
namespace Go.Proofs.Tg.Gx
open Go.RowKit Go.Gr
set_option maxHeartbeats 4000000
set_option maxRecDepth 100000
end Go.Proofs.Tg.Gx
end
section
/- Plain mathematics of chordal graphs: a graph with a perfect elimination order has the order of every maximum cardinality search as one. No program in sight. -/
namespace Go.Chordal

/-- How many of o 0 .. o (y - 1) are adjacent to v. -/
def cnt (adj : Nat → Nat → Bool) (o : Nat → Nat) (y v : Nat) : Nat := ((List.range y).filter fun k => adj v (o k)).length

end Go.Chordal
end
section
/- Plain law of Extend: what it adds; its order of elimination is perfect. -/
namespace Go.Gr
open Go.Chordal
def bt (A : Nat → Nat) (i j : Nat) : Bool := (A i).testBit j
end Go.Gr
end
section
/- Plain mathematics of clique trees: a tree that grows by a heaviest edge each time is a clique tree, if there is one. No program in sight. -/
namespace Go.Jt
open Go.Gr
/-- b is reached from a by steps of R. -/
def Conn (R : Nat → Nat → Prop) (a b : Nat) : Prop := ∀ P : Nat → Prop, P a → (∀ x y, P x → R x y → P y) → P b
section
variable {R : Nat → Nat → Prop}
theorem Conn.refl (a : Nat) : Conn R a a := fun _ h _ => h
end
end Go.Jt
end
section
/- What the reference fills is what the library fills; the count of its search; its parts. -/
namespace Go.Gr
open Go.Jt
/-- The reference's table and the library's sets, side by side. -/
structure Mat (n : Nat) (u : Nat → Nat → Bool) (gone : Nat → Bool) (A : Nat → Nat) (rest : Nat) : Prop where
  eq : ∀ i j, i < n → j < n → u i j = bt A i j
  bits : ∀ v, rest.testBit v = true ↔ v < n ∧ gone v = false
  irr : Irr A
  small : Small A
  lt : ∀ i j, i < n → bt A i j = true → j < n
  rl : rest < 18446744073709551616
theorem Mat.cnt {n : Nat} {u : Nat → Nat → Bool} {gone : Nat → Bool} {A : Nat → Nat} {rest : Nat} (h : Mat n u gone A rest) (hn : n ≤ 64) {i : Nat} (hi : i < n) : cntR u gone i n = size (A i &&& rest) := by
 unfold cntR size verts
 rw [filter_range_le hn (p := (A i &&& rest).testBit) (q := fun j => u i j && !gone j)]
 ·intro k hk
  rw [Nat.testBit_and, h.eq i k hi hk]
  unfold bt
  congr 1
  rw [Bool.eq_iff_iff, h.bits]
  simp [hk]
 ·intro k hk _
  rw [Nat.testBit_and]
  have : rest.testBit k = false := by
   cases hb : rest.testBit k
   ·rfl
   ·have := ((h.bits k).1 hb).1; omega
  rw [this]; simp
end Go.Gr
end
section
/- The reference's number of monomials, and a monomial's number in the order. -/
namespace Go.Proofs.Tg
open Go.RowKit Go.Mm Go
set_option maxHeartbeats 8000000
set_option maxRecDepth 100000
theorem rcount_any (n d : Nat) (hn : n ≤ 6) (hd : d ≤ 24) (w : World) :
    Calls Tryz.prog 21 #[.int .i64 (n : Nat), .int .i64 (d : Nat)] w fun e w' => e = .returned (.tuple #[.int .i64 (cnt n d : Nat), .bool true]) ∧ Below w.heap.size w w' := by
  have HC := Lib.hid (fun k (h : k ≤ 6) => cnt_fit (n := k) h hd)
  have H0 : Hid ((1 : Nat) = cnt 0 d) := Lib.hid (cnt_zero d).symm
  have d1 : decide ((n : Int) < 0) = false := decide_eq_false (by omega)
  have d2 : decide ((6 : Int) < (n : Int)) = false := decide_eq_false (by omega)
  have d3 : decide ((d : Int) < 0) = false := decide_eq_false (by omega)
  have d4 : decide ((24 : Int) < (d : Int)) = false := decide_eq_false (by omega)
  have d2' : decide (6 < n) = false := decide_eq_false (by omega)
  have d4' : decide (24 < d) = false := decide_eq_false (by omega)
  go_enter Tryz.func21, Tryz.ntmps21
  go_wp2
  go_loopw [6, 7] (fun s6 s7 wr => ∃ (k r : Nat), s7 = .int .i64 ((k : Int) + 1) ∧ s6 = .int .i64 (r : Nat) ∧ k ≤ n ∧ r ≤ 244140625 ∧ Hid (r = cnt k d) ∧ Below w.heap.size w wr) (fun _ s7 _ => n + 1 - (intOf s7).toNat)
  case atStart => exact ⟨0, 1, by go_num, rfl, Nat.zero_le _, by omega, H0, Below.refl _ _⟩
  case round =>
   obtain ⟨wo, rfl⟩ : ∃ wo : World, wo = wr := ⟨_, rfl⟩
   obtain ⟨k, r, rfl, rfl, hk, hr, HR, hbw⟩ := hrel
   by_cases hkn : k = n
   ·have hd1 : decide ((k : Int) + 1 ≤ (n : Int)) = false := decide_eq_false (by omega)
    have HK := Lib.hid hkn
    clear hkn
    go_wp2
    go_ret2
    exact ⟨by rw [← HK.out, ← HR.out]; rfl, hbw⟩
   ·have hkn2 : k < n := by omega
    have hd1 : decide ((k : Int) + 1 ≤ (n : Int)) = true := decide_eq_true (by omega)
    obtain ⟨q, hq⟩ : ∃ q, r * (d + (k + 1)) / (k + 1) = q := ⟨_, rfl⟩
    have HQ : Hid (q = cnt (k + 1) d) := Lib.hid (by rw [← hq, HR.out, cnt_step])
    have hql : q ≤ 244140625 := by rw [HQ.out]; exact HC.out _ (by omega)
    have hpr : r * (d + (k + 1)) ≤ 244140625 * 30 := Nat.mul_le_mul hr (by omega)
    obtain ⟨pr, hpe⟩ : ∃ pr, r * (d + (k + 1)) = pr := ⟨_, rfl⟩
    rw [hpe] at hq hpr
    have e1 : (r : Int) * ((d : Int) + ((k : Int) + 1)) = (pr : Int) := by
     rw [← hpe]; simp
    have w2 : IntKind.i64.wrap (pr : Int) = (pr : Int) := IntWalk.i64_in _ (by omega)
    have w4 : IntKind.i64.wrap ((d : Int) + ((k : Int) + 1)) = (d : Int) + ((k : Int) + 1) := IntWalk.i64_in _ (by omega)
    have e2 : Int.tdiv (pr : Int) ((k : Int) + 1) = (q : Int) := by
     rw [show (k : Int) + 1 = ((k + 1 : Nat) : Int) by omega, ← Int.ofNat_tdiv, hq]
    have w3 : IntKind.i64.wrap (q : Int) = (q : Int) := IntWalk.i64_in _ (by omega)
    have nz : (((k : Int) + 1) == 0) = false := beq_eq_false_iff_ne.2 (by omega)
    clear hpe hq hkn
    go_wp2
    go_roundw
    case rel => exact ⟨k + 1, q, by go_num, rfl, by omega, hql, HQ, hbw⟩
    case measure => simp [intOf]; omega
end Go.Proofs.Tg
end
section
/- Of MomentsValid: the size of a functional, in range or not. -/
namespace Go.Proofs.Tg
open Go.RowKit Go.Mm Go
set_option maxHeartbeats 4000000
set_option maxRecDepth 100000
theorem rsize_in (n d : Nat) (h1 : 1 ≤ n) (hn : n ≤ 6) (hd : d ≤ 24) (w : World) :
    Calls Tryz.prog 12 #[.int .i64 (n : Nat), .int .i64 (d : Nat)] w fun e w' => e = .returned (.tuple #[.int .i64 (cnt n d : Nat), .bool (decide (cnt n d ≤ 1024))]) ∧ Below w.heap.size w w' := by
  have HC := Lib.hid (fun V => rcount_any n d hn hd V)
  have d1 : decide ((n : Int) < 1) = false := decide_eq_false (by omega)
  generalize cnt n d = z at *
  clear hn hd h1
  by_cases hz : z ≤ 1024
  ·have b1 : decide ((z : Int) ≤ 1024) = true := decide_eq_true (by omega)
   have b2 : decide (z ≤ 1024) = true := decide_eq_true hz
   rw [b2]
   clear hz
   go_enter Tryz.func12, Tryz.ntmps12
   go_wp2_with (go_at_call 21; refine (HC.out _).mono ?_; rintro e w2 ⟨rfl, hb⟩)
   go_ret2
   exact ⟨rfl, hb⟩
  ·have b1 : decide ((z : Int) ≤ 1024) = false := decide_eq_false (by omega)
   have b2 : decide (z ≤ 1024) = false := decide_eq_false hz
   rw [b2]
   clear hz
   go_enter Tryz.func12, Tryz.ntmps12
   go_wp2_with (go_at_call 21; refine (HC.out _).mono ?_; rintro e w2 ⟨rfl, hb⟩)
   go_ret2
   exact ⟨rfl, hb⟩
/-- The range of variables and degrees; the number of values there. -/
def inR (n d : Int) : Prop := 1 ≤ n ∧ n ≤ 6 ∧ 0 ≤ d ∧ d ≤ 24
instance (n d : Int) : Decidable (inR n d) := by unfold inR; infer_instance
def szN (n d : Int) : Nat := if inR n d then cnt n.toNat d.toNat else 0
def szB (n d : Int) : Bool := decide (inR n d ∧ cnt n.toNat d.toNat ≤ 1024)
theorem szN_le (n d : Int) : szN n d ≤ 244140625 := by
 unfold szN
 split
 ·rename_i h
  exact cnt_fit (by have := h.2.1; omega) (by have := h.2.2.2; omega)
 ·omega
theorem rsize_any (n d : Int) (w : World) :
    Calls Tryz.prog 12 #[.int .i64 n, .int .i64 d] w fun e w' => e = .returned (.tuple #[.int .i64 (szN n d : Nat), .bool (szB n d)]) ∧ Below w.heap.size w w' := by
  by_cases h : inR n d
  ·obtain ⟨N, rfl⟩ : ∃ N : Nat, n = N := ⟨n.toNat, by have := h.1; omega⟩
   obtain ⟨D, rfl⟩ : ∃ D : Nat, d = D := ⟨d.toNat, by have := h.2.2.1; omega⟩
   have H := rsize_in N D (by have := h.1; omega) (by have := h.2.1; omega) (by have := h.2.2.2; omega) w
   have e1 : szN (N : Int) (D : Int) = cnt N D := by unfold szN; rw [if_pos h]; rfl
   have e2 : szB (N : Int) (D : Int) = decide (cnt N D ≤ 1024) := by
    unfold szB
    by_cases hc : cnt N D ≤ 1024
    ·rw [decide_eq_true hc]; exact decide_eq_true ⟨h, hc⟩
    ·rw [decide_eq_false hc]; exact decide_eq_false fun x => hc x.2
   rw [e1, e2]
   exact H
  ·have H := rsize_bad n d w (by unfold inR at h; omega)
   have e1 : szN n d = 0 := by unfold szN; rw [if_neg h]
   have e2 : szB n d = false := by unfold szB; exact decide_eq_false fun x => h x.1
   rw [e1, e2]
   exact H
end Go.Proofs.Tg
end
section
/- The harness's numbers: Bits of any number; fractions in lowest terms, any size of both parts. -/
namespace Go.Proofs.Tg
open Go.RowKit Go.Gr Go.Bn
set_option maxHeartbeats 4000000
set_option maxRecDepth 100000
theorem bits_w (b : Bool) (A : Option Addr) (c v : Nat) (w : World) (hA : Digs w A (dg v)) (hv : v ≠ 0) (hn : (dg v).length ≤ 400000) :
    ∃ q, (1 < q ↔ 1 < v) ∧ (q = 1 ↔ v = 1) ∧ q ≤ 5000000000 ∧ Calls Tryz.prog 61 #[.agg #[.bool b, .slice A (dg v).length c]] w fun e w' => e = .returned (.int .i64 (q : Nat)) ∧ Below w.heap.size w w' := by
  by_cases hB : v < 4294967296
  ·have hd := dg_small hv hB
   have hb := blen_le v v (Nat.le_refl _)
   refine ⟨blen v, blen_gt, blen_one, by omega, ?_⟩
   rw [hd] at hA ⊢
   exact bits_one b A c v w hA hB
  ·obtain ⟨lo, t, e1, e2, e3⟩ := top_digit hv
   obtain ⟨n1, hn1⟩ : ∃ n1, lo.length = n1 := ⟨_, rfl⟩
   have hl : (dg v).length = n1 + 1 := by rw [e1]; simp [hn1]
   have hn10 : n1 ≠ 0 := fun h => hB (by
    have := val_lt (dg_dig v)
    rw [val_dg, hl, h] at this
    simpa [B] using this)
   obtain ⟨ad, rfl, ha0⟩ := Digs.at hA (k := n1) (by omega)
   have ha : w.cell? (ad.add n1) = some (.int .u32 (t : Nat)) := by
    rw [ha0]
    congr 3
    simp only [e1]
    rw [List.getElem_append_right (by omega)]
    simp
   have hbA : Below w.heap.size w (w.alloc (.cells #[.bool b, .slice (some ad) (n1 + 1) c] 52)) := (Below.refl _ _).alloc (Nat.le_refl _) _
   have hlt : (ad.add n1).block < w.heap.size := World.block_lt_of_cell? w _ ha
   have htB : t < 4294967296 := e3
   have hle := blen_le t t (Nat.le_refl _)
   have ht1 : 1 ≤ blen t := by rw [blen_pos e2]; omega
   obtain ⟨q, hq⟩ : ∃ q, 32 * n1 + blen t = q := ⟨_, rfl⟩
   have hqq : q ≤ 5000000000 := by omega
   refine ⟨q, by constructor <;> intro _ <;> omega, by constructor <;> intro _ <;> omega, hqq, ?_⟩
   rw [hl]
   have HQ := Lib.hid hq
   have hn1' : n1 ≤ 400000 := by omega
   clear ha0 hA hq e1 e2 e3 hl hn hn1 hle ht1
   have m1 : IntKind.i64.wrap (((n1 + 1 : Nat) : Int) - 1) = (n1 : Int) := (IntWalk.i64_in _ (by omega)).trans (by omega)
   have m2 : ((n1 + 1 : Nat) : Int) - 1 = (n1 : Int) := by omega
   have m3 : (n1 : Int) + 1 - 1 = (n1 : Int) := by omega
   have m4 : IntKind.i64.wrap (n1 : Int) = (n1 : Int) := IntWalk.i64_in _ (by omega)
   obtain ⟨k0, hk0⟩ : ∃ k0, 32 * n1 = k0 := ⟨_, rfl⟩
   have m5 : (32 : Int) * (n1 : Int) = (k0 : Int) := by omega
   have m6 : IntKind.i64.wrap (k0 : Int) = (k0 : Int) := IntWalk.i64_in _ (by omega)
   have HK0 : Hid (k0 + blen t = q) := Lib.hid (by rw [← hk0]; exact HQ.out)
   have hkq : k0 ≤ q := by have := HK0.out; omega
   clear HQ hk0
   go_enter Tryz.func61, Tryz.ntmps61
   go_wp2
   go_loop [3, 4] (fun s3 s4 => ∃ k x : Nat, s3 = .int .i64 k ∧ s4 = .int .u32 x ∧ x < 4294967296 ∧ k ≤ q ∧ Hid (k + blen x = q)) (fun _ s4 => (intOf s4).toNat)
   case atStart => exact ⟨k0, t, rfl, rfl, htB, hkq, HK0⟩
   case round =>
    obtain ⟨k, x, rfl, rfl, hx, hk, HK⟩ := hrel
    by_cases h0 : x = 0
    ·subst h0
     obtain rfl : k = q := by have := HK.out; rw [blen_zero] at this; omega
     go_wp2
     go_ret
     exact ⟨rfl, hbA⟩
    ·have hd : decide ((0 : Int) < (x : Int)) = true := by simp; omega
     have hd' : decide (0 < x) = true := by simp; omega
     have HK2 : Hid (k + 1 + blen (x / 2) = q) := Lib.hid (by have := HK.out; rw [blen_pos h0] at this; omega)
     have hk1 : k + 1 ≤ q := by have := HK2.out; omega
     have hx2 : (x : Int).fdiv (2 ^ min (Int.toNat 1) IntKind.u32.bits) = ((x / 2 : Nat) : Int) := by
      have e : (2 : Int) ^ min (Int.toNat 1) IntKind.u32.bits = 2 := by decide
      rw [e, Int.fdiv_eq_ediv_of_nonneg _ (by omega)]; simp
     go_wp2
     go_round
     case rel => exact ⟨k + 1, x / 2, by go_num, by simp, by omega, hk1, HK2⟩
     case measure => simp [intOf]; omega
end Go.Proofs.Tg
end
section
/- The harness's numbers: fractions in lowest terms, any size of both parts. -/
namespace Go.Proofs.Tg
open Go.RowKit Go.Gr Go.Bn
set_option maxHeartbeats 4000000
set_option maxRecDepth 100000
theorem frac_w (p : Bool) (A B : Option Addr) (c d a b : Nat) (w : World) (hA : ND w A c a) (hB : ND w B d b) (ha : (dg a).length ≤ 200000) (hd : DvOk b) (hb0 : b ≠ 0) (hp : p = true → a ≠ 0) :
    Calls Tryz.prog 34 #[.agg #[.bool p, .slice A (dg a).length c], .agg #[.bool false, .slice B (dg b).length d]] w (RetFr p (a / Nat.gcd a b) (b / Nat.gcd a b) w) := by
  have hbl1 : (dg b).length ≤ 200000 := hd
  have HG : Hid (∀ W, Below w.heap.size w W → Calls Tryz.prog 60 #[.agg #[.bool p, .slice A (dg a).length c], .agg #[.bool false, .slice B (dg b).length d]] W (RetGc (Nat.gcd a b) W)) := Lib.hid (fun W h => gcd_num p false A B c d a b W (hA.keep h) (hB.keep h) ha hd hbl1)
  have hg0 : Nat.gcd a b ≠ 0 := Nat.pos_iff_ne_zero.1 (Nat.gcd_pos_of_pos_right _ (by omega))
  have hgl : Nat.gcd a b ≤ b := Nat.gcd_le_right _ (by omega)
  have hm0 : b / Nat.gcd a b ≠ 0 := Nat.pos_iff_ne_zero.1 (Nat.div_pos hgl (by omega))
  have hml : b / Nat.gcd a b ≤ b := Nat.div_le_self _ _
  have HSG : Hid (p = true → a / Nat.gcd a b ≠ 0) := Lib.hid (fun h => Nat.pos_iff_ne_zero.1 (Nat.div_pos (Nat.gcd_le_left _ (Nat.pos_of_ne_zero (hp h))) (by omega)))
  generalize Nat.gcd a b = g at *
  have hdg : DvOk g := hd.mono hgl
  have HDG := Lib.hid hdg
  have HDM := Lib.hid (hd.mono hml)
  obtain ⟨ng, hng⟩ : ∃ n, (dg g).length = n := ⟨_, rfl⟩
  obtain ⟨nb, hnb⟩ : ∃ n, (dg b).length = n := ⟨_, rfl⟩
  have hnbl : nb ≤ 200000 := by rw [← hnb]; exact hbl1
  have hngl : ng ≤ 200000 := by rw [← hng]; exact hdg
  clear hbl1
  obtain ⟨na, hna⟩ : ∃ na, (dg a).length = na := ⟨_, rfl⟩
  rw [hna, hnb] at HG
  rw [hna, hnb]
  unfold RetGc at HG
  rw [hng] at HG
  have HNA := Lib.hid hna
  have hal : na ≤ 200000 := by omega
  have HNB1 := Lib.hid hnb
  have HNG1 := Lib.hid hng
  clear hna hnb hng
  obtain ⟨W, hW⟩ : ∃ W, ((w.alloc (.cells #[.bool p, .slice A na c] 52)).alloc (.cells #[.bool false, .slice B nb d] 52)).alloc (.cells #[.bool false, .slice none 0 0, .bool false, .slice none 0 0] 54) = W := ⟨_, rfl⟩
  have B0 : Blk W w.heap.size 52 #[.bool p, .slice A na c] := by rw [← hW]; exact ((Blk.new _ _ _).alloc _).alloc _
  have B1 : Blk W (w.heap.size + 1) 52 #[.bool false, .slice B nb d] := by
   rw [← hW]; have := (Blk.new (w.alloc (.cells #[.bool p, .slice A na c] 52)) 52 #[.bool false, .slice B nb d]).alloc (.cells #[.bool false, .slice none 0 0, .bool false, .slice none 0 0] 54)
   simpa using this
  have B2 : Blk W (w.heap.size + 1 + 1) 54 #[.bool false, .slice none 0 0, .bool false, .slice none 0 0] := by
   rw [← hW]; have := (Blk.new ((w.alloc (.cells #[.bool p, .slice A na c] 52)).alloc (.cells #[.bool false, .slice B nb d] 52)) 54 #[.bool false, .slice none 0 0, .bool false, .slice none 0 0])
   simpa using this
  have hbW : Below w.heap.size w W := by rw [← hW]; exact (((Below.refl _ _).alloc (Nat.le_refl _) _).alloc (by simp) _).alloc (by simp; omega) _
  have hWs : W.heap.size = w.heap.size + 3 := by rw [← hW]; simp
  obtain ⟨a0, a1, _, _⟩ := B0.two
  obtain ⟨b0, b1, _, _⟩ := B1.two
  go_enter Tryz.func34, Tryz.ntmps34
  go_upto_region 1 with (fail)
  clear hW
  go_upto_region 4 with (go_at_call 60; refine (HG.out _ hbW).mono ?_; rintro e w2 ⟨G, cg, rfl, hG, hb2⟩)
  obtain ⟨V, hV⟩ : ∃ V, w2.alloc (.cells #[.bool false, .slice G ng cg] 52) = V := ⟨_, rfl⟩
  try rw [hV]
  have hbV : Below w2.heap.size w2 V := by rw [← hV]; exact (Below.refl _ _).alloc (Nat.le_refl _) _
  have C5 : Blk V w2.heap.size 52 #[.bool false, .slice G ng cg] := by rw [← hV]; exact Blk.new _ _ _
  have C0 := (B0.keep hb2 B0.lt).keep hbV (B0.keep hb2 B0.lt).lt
  have C1 := (B1.keep hb2 B1.lt).keep hbV (B1.keep hb2 B1.lt).lt
  have C2 := (B2.keep hb2 B2.lt).keep hbV (B2.keep hb2 B2.lt).lt
  have hbwV := below_all (below_all hbW hb2) hbV
  have hGV := hG.keep hbV
  have hs2 : W.heap.size ≤ w2.heap.size := hb2.size
  clear hb2 hG hbV hV a0 a1 b0 b1 B0 B1 B2 HG
  obtain ⟨g0, g1, _, _⟩ := C5.two
  obtain ⟨bg, hbg1, _, hbl, hBB⟩ := bits_w false G cg g V hGV.digs hg0 (by rw [HNG1.out]; omega)
  rw [HNG1.out] at hBB
  have HB := Lib.hid hBB
  have HBG := Lib.hid hbg1
  clear hBB hbg1
  go_upto_if 17 with (go_at_call 61; refine HB.out.mono ?_; rintro e w3 ⟨rfl, hb3⟩)
  have D0 := C0.keep hb3 C0.lt
  have D1 := C1.keep hb3 C1.lt
  have D2 := C2.keep hb3 C2.lt
  have D5 := C5.keep hb3 C5.lt
  have hb3' := below_all hbwV hb3
  have hG3 := hGV.keep hb3
  have HSN : Hid (∀ W N cn D cd, FqSt w p (a / g) (b / g) N cn D cd W → FqSt w p (a / g) (b / g) N cn D cd W) := Lib.hid (fun _ _ _ _ _ h => h)
  go_cut [] from 17 (fun wx => ∃ N cn D cd, FqSt w p (a / g) (b / g) N cn D cd wx)
  case first =>
   by_cases h1 : g = 1
   ·have hbb : decide ((1 : Int) < (bg : Int)) = false := by
     have := HBG.out
     simp; omega
    have hbb' : decide (1 < bg) = false := by
     have := HBG.out
     simp; omega
    have HF : Hid (FqSt w p (a / g) (b / g) A c B d w3) := Lib.hid (by
     rw [h1, Nat.div_one, Nat.div_one]
     exact ⟨hb3', by rw [HNA.out]; exact D0, by rw [HNB1.out]; exact D1, D2, hA.keep hb3', hB.keep hb3'⟩)
    go_wp2
    go_meet
    exact ⟨A, c, B, d, HF.out⟩
   ·have hbb : decide ((1 : Int) < (bg : Int)) = true := by
     have := HBG.out
     simp; omega
    have hbb' : decide (1 < bg) = true := by
     have := HBG.out
     simp; omega
    have hbi : (1 : Int) < (bg : Int) := by
     have := HBG.out
     omega
    have HQ1 : Hid (∀ W, Below w3.heap.size w3 W → Calls Tryz.prog 62 #[.agg #[.bool p, .slice A na c], .agg #[.bool false, .slice G ng cg]] W (RetQn p false a g W)) := Lib.hid (fun W h => by
     have := quorem_num p false A G c cg a g W ((hA.keep hb3').keep h) (hG3.keep h) ha hg0 hdg
     rw [HNA.out, HNG1.out] at this
     exact this)
    have HQ2 : Hid (∀ W, ND W B d b → ND W G cg g → Calls Tryz.prog 62 #[.agg #[.bool false, .slice B nb d], .agg #[.bool false, .slice G ng cg]] W (RetQn false false b g W)) := Lib.hid (fun W h h' => by
     have := quorem_num false false B G d cg b g W h h' (by rw [HNB1.out]; omega) hg0 hdg
     rw [HNB1.out, HNG1.out] at this
     exact this)
    have hsg : ((p != false) && decide (a / g ≠ 0)) = p := by
     have := HSG.out
     cases p with
     | false => rfl
     | true => simp [this rfl]
    have hsg2 : ((false != false) && decide (b / g ≠ 0)) = false := rfl
    unfold RetQn at HQ1 HQ2
    rw [hsg] at HQ1
    rw [hsg2] at HQ2
    clear hsg hsg2
    generalize a / g = qn at *
    generalize b / g = qm at *
    obtain ⟨d0, d1, d2, d3⟩ := D0.two
    obtain ⟨f0, f1, _, _⟩ := D5.two
    go_wp2_with (fail)
    refine (HQ1.out _ (Below.refl _ _)).mono ?_
    rintro e w4 ⟨N, cn, _, _, rfl, hN, _, hb4⟩
    clear d0 d1 d2 d3 f0 f1
    have E0 := D0.keep hb4 D0.lt
    have E1 := D1.keep hb4 D1.lt
    have E2 := D2.keep hb4 D2.lt
    have E5 := D5.keep hb4 D5.lt
    have E5lt := D5.lt
    obtain ⟨d0, d1, d2, d3⟩ := E0.two
    have hB4 : ND w4 B d b := (hB.keep hb3').keep hb4
    have hG4 := hG3.keep hb4
    obtain ⟨V5, hV5⟩ : ∃ V5, (w4.setCell ⟨w.heap.size, 0, none⟩ (.bool p)).setCell ⟨w.heap.size, 1, none⟩ (.slice N (dg qn).length cn) = V5 := ⟨_, rfl⟩
    have F0 : Blk V5 w.heap.size 52 #[.bool p, .slice N (dg qn).length cn] := by rw [← hV5]; exact (E0.set 0 _).set 1 _
    have F1 : Blk V5 (w.heap.size + 1) 52 #[.bool false, .slice B nb d] := by rw [← hV5]; exact (E1.far (by simp) _).far (by simp) _
    have F2 : Blk V5 (w.heap.size + 1 + 1) 54 #[.bool false, .slice none 0 0, .bool false, .slice none 0 0] := by rw [← hV5]; exact (E2.far (by simp; omega) _).far (by simp; omega) _
    have F5 : Blk V5 w2.heap.size 52 #[.bool false, .slice G ng cg] := by rw [← hV5]; exact (E5.far (by simp; omega) _).far (by simp; omega) _
    have hN5 : ND V5 N cn qn := by rw [← hV5]; exact (hN.far E0 (by decide) _ _).far (E0.set _ _) (by decide) _ _
    have hB5 : ND V5 B d b := by rw [← hV5]; exact (hB4.far E0 (by decide) _ _).far (E0.set _ _) (by decide) _ _
    have hG5 : ND V5 G cg g := by rw [← hV5]; exact (hG4.far E0 (by decide) _ _).far (E0.set _ _) (by decide) _ _
    have hb5 : Below w.heap.size w V5 := by rw [← hV5]; exact below_far (below_far (below_all hb3' hb4) (Nat.le_refl _) _ _) (Nat.le_refl _) _ _
    clear E0 E1 E2 E5 hN hB4 hG4 hb4
    obtain ⟨e0, e1, e2, e3⟩ := F1.two
    obtain ⟨f0, f1, _, _⟩ := F5.two
    go_upto_region 6 with (fail)
    try rw [hV5]
    clear hV5 d0 d1 d2 d3
    go_wp2_with (fail)
    refine (HQ2.out _ hB5 hG5).mono ?_
    rintro e w6 ⟨D, cd, _, _, rfl, hD, _, hb6⟩
    have G1 := F1.keep hb6 F1.lt
    clear e0 e1 e2 e3 f0 f1
    obtain ⟨e0, e1, e2, e3⟩ := G1.two
    go_wp2
    go_meet
    refine ⟨N, cn, D, cd, ?_, ?_, ?_, ?_, ?_, ?_⟩
    ·exact below_far (below_far (below_all hb5 hb6) (by omega) _ _) (by omega) _ _
    ·exact ((F0.keep hb6 F0.lt).far (by simp) _).far (by simp) _
    ·exact (G1.set 0 _).set 1 _
    ·exact ((F2.keep hb6 F2.lt).far (by simp) _).far (by simp) _
    ·exact ((hN5.keep hb6).far G1 (by decide) _ _).far (G1.set _ _) (by decide) _ _
    ·exact (hD.far G1 (by decide) _ _).far (G1.set _ _) (by decide) _ _
    all_goals (exfalso; omega)
  case rest =>
   obtain ⟨N, cn, D, cd, hst⟩ := hcut
   obtain ⟨hbx, X0, X1, X2, dn, dd⟩ := hst
   clear C0 C1 C2 C5 D0 D1 D2 D5 g0 g1
   generalize a / g = qn at *
   have HFIN := Lib.hid dn
   have HFID := Lib.hid dd
   generalize b / g = qm at *
   obtain ⟨nm, hml1⟩ : ∃ n, (dg qm).length = n := ⟨_, rfl⟩
   have hnml : nm ≤ 200000 := by rw [← hml1]; exact HDM.out
   obtain ⟨bm, _, hbm1, hbl2, hBB⟩ := bits_w false D cd qm wc dd.digs hm0 (by rw [hml1]; omega)
   rw [hml1] at X1 hBB
   have HML1 := Lib.hid hml1
   have HB2 := Lib.hid hBB
   have HB1 := Lib.hid hbm1
   clear hml1 hBB hbm1
   obtain ⟨nn, hnn⟩ : ∃ nn, (dg qn).length = nn := ⟨_, rfl⟩
   rw [hnn] at X0
   have HNN := Lib.hid hnn
   clear hnn
   obtain ⟨x0, x1, _, _⟩ := X0.two
   obtain ⟨y0, y1, y2, y3⟩ := X1.two
   by_cases hm1 : qm = 1
   ·have hbb : ((bm : Int) == 1) = true := by
     have := HB1.out.2 hm1
     simp [this]
    have hbb' : (bm == 1) = true := by
     have := HB1.out.2 hm1
     simp [this]
    have HDL : Hid (dnz qm = 0) := Lib.hid (if_pos hm1)
    clear hm1
    go_wp2_with (go_at_call 61; refine HB2.out.mono ?_; rintro e w7 ⟨rfl, hb7⟩
                 have Y0 := X0.keep hb7 X0.lt
                 have Y1 := X1.keep hb7 X1.lt
                 have Y2 := X2.keep hb7 X2.lt
                 obtain ⟨x0, x1, x2, x3⟩ := Y0.two
                 obtain ⟨y0, y1, y2, y3⟩ := Y1.two
                 obtain ⟨z0, z1, z2, z3, v0, v1, v2, v3⟩ := Y2.four)
    have hn7 := HFIN.out.keep hb7
    have Y2' := fun u u' => (Y2.far (p := ⟨w.heap.size + 1, 0, none⟩) (by simp) u).far (p := ⟨w.heap.size + 1, 1, none⟩) (by simp) u'
    refine bodyPost_ret (v := .agg #[.bool p, .slice N nn cn, .bool false, .slice none 0 0]) (by simp [results, Tryz.results34, go_sem, z0, z1, z2, z3]) rfl ⟨N, cn, none, 0, by rw [HNN.out, HDL.out, dg_zero]; rfl, ?_, by rw [HDL.out]; exact ND.zero _, ?_⟩
    ·exact ((((hn7.far Y1 (by decide) _ _).far (Y1.set _ _) (by decide) _ _).far (Y2' _ _) (by decide) _ _).far ((Y2' _ _).set _ _) (by decide) _ _ |>.far (((Y2' _ _).set _ _).set _ _) (by decide) _ _).far ((((Y2' _ _).set _ _).set _ _).set _ _) (by decide) _ _
    ·exact below_far (below_far (below_far (below_far (below_far (below_far (below_all hbx hb7) (by omega) _ _) (by omega) _ _) (by omega) _ _) (by omega) _ _) (by omega) _ _) (by omega) _ _
   ·have hbb : ((bm : Int) == 1) = false := by
     have := HB1.out
     simp; omega
    have hbb' : (bm == 1) = false := by
     have := HB1.out
     simp; omega
    have HDL : Hid (dnz qm = qm) := Lib.hid (if_neg hm1)
    have HM0 := Lib.hid hm0
    clear hm1
    go_wp2_with (go_at_call 61; refine HB2.out.mono ?_; rintro e w7 ⟨rfl, hb7⟩
                 have Y0 := X0.keep hb7 X0.lt
                 have Y1 := X1.keep hb7 X1.lt
                 have Y2 := X2.keep hb7 X2.lt
                 obtain ⟨x0, x1, x2, x3⟩ := Y0.two
                 obtain ⟨y0, y1, y2, y3⟩ := Y1.two
                 obtain ⟨z0, z1, z2, z3, v0, v1, v2, v3⟩ := Y2.four)
    have hn7 := HFIN.out.keep hb7
    have hd7 := HFID.out.keep hb7
    refine bodyPost_ret (v := .agg #[.bool p, .slice N nn cn, .bool false, .slice D nm cd]) (by simp [results, Tryz.results34, go_sem, z0, z1, z2, z3]) rfl ⟨N, cn, D, cd, by rw [HNN.out, HDL.out, HML1.out], ?_, ?_, ?_⟩
    ·exact (((hn7.far Y2 (by decide) _ _).far (Y2.set _ _) (by decide) _ _).far ((Y2.set _ _).set _ _) (by decide) _ _).far (((Y2.set _ _).set _ _).set _ _) (by decide) _ _
    ·rw [HDL.out]; exact (((hd7.far Y2 (by decide) _ _).far (Y2.set _ _) (by decide) _ _).far ((Y2.set _ _).set _ _) (by decide) _ _).far (((Y2.set _ _).set _ _).set _ _) (by decide) _ _
    ·exact below_far (below_far (below_far (below_far (below_all hbx hb7) (by omega) _ _) (by omega) _ _) (by omega) _ _) (by omega) _ _
end Go.Proofs.Tg
end
