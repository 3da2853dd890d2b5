/- Parts of the proof: FN3, WB2, WB3, XK5, FN4, WD2, WD3, WD4, WD5, XD1, XK1, XR1, NU4. -/
import Derived.Laws.OwnMore
import Derived.RegionTactic
import Derived.ChangeAlike
import Derived.Deep.DeepCutAuto
import Derived.Deep.CutRange
import Derived.ChangeKeysEq
import Derived.Laws.Rows
import Derived.Laws.Tables
import Derived.Maps.AppendAt
import Derived.Maps.OwnOps
import Derived.Maps.OwnSet
import Derived.Maps.Views
import Derived.Laws.IdiomStrings
import Derived.Laws.BytesArg
import Derived.Carry
import Derived.Test.YtpiedheafppnhaaGreatDoorMSF0
import Derived.Test.YtpiedheafppnhaaGreatDoorMSF1
import Derived.Test.YtpiedheafppnhaaGreatDoorMSF2
import Derived.Test.YtpiedheafppnhaaGreatDoorMSF10
import Derived.Test.YtpiedheafppnhaaGreatDoorMSF11
import Derived.Test.YtpiedheafppnhaaGreatDoorMSF12
import Derived.Test.YtpiedheafppnhaaGreatDoorMSF13
section
/- The product of the fraction one with itself, as a fraction. -/
namespace Go.Proofs.Tg.Sx
open Go.RowKit Go.Gr Go.Sp Go.Ev Go.Mo Go.Bn
set_option maxHeartbeats 4000000
set_option maxRecDepth 100000
theorem rmul1_any (A B : Option Addr) (ca cb : Nat) (w : World) (hA : Digs w A [1]) (hB : Digs w B [1]) :
    Calls Tryz.prog 33 #[.agg #[.bool false, .slice A 1 ca, .bool false, .slice none 0 0], .agg #[.bool false, .slice B 1 cb, .bool false, .slice none 0 0]] w fun e w' => ∃ R c, e = .returned (.agg #[.bool false, .slice R 1 c, .bool false, .slice none 0 0]) ∧ Digs w' R [1] ∧ Below w.heap.size w w' := by
  obtain ⟨W, hW⟩ : ∃ W, ((w.alloc (.cells #[.bool false, .slice A 1 ca, .bool false, .slice none 0 0] 48)).alloc (.cells #[.bool false, .slice B 1 cb, .bool false, .slice none 0 0] 48)).alloc (.cells #[.bool false, .slice none 0 0, .bool false, .slice none 0 0] 48) = W := ⟨_, rfl⟩
  have hbA : Below w.heap.size w W := by rw [← hW]; exact (((Below.refl _ _).alloc (Nat.le_refl _) _).alloc (by simp) _).alloc (by simp; omega) _
  have B0 : Blk W w.heap.size 48 #[.bool false, .slice A 1 ca, .bool false, .slice none 0 0] := by rw [← hW]; exact ((Blk.new _ _ _).alloc _).alloc _
  have B1 : Blk W (w.heap.size + 1) 48 #[.bool false, .slice B 1 cb, .bool false, .slice none 0 0] := by
    rw [← hW]; have := (Blk.new (w.alloc (.cells #[.bool false, .slice A 1 ca, .bool false, .slice none 0 0] 48)) 48 #[.bool false, .slice B 1 cb, .bool false, .slice none 0 0]).alloc (.cells #[.bool false, .slice none 0 0, .bool false, .slice none 0 0] 48)
    simpa using this
  have B2 : Blk W (w.heap.size + 2) 48 #[.bool false, .slice none 0 0, .bool false, .slice none 0 0] := by
    rw [← hW]; have := Blk.new ((w.alloc (.cells #[.bool false, .slice A 1 ca, .bool false, .slice none 0 0] 48)).alloc (.cells #[.bool false, .slice B 1 cb, .bool false, .slice none 0 0] 48)) 48 #[.bool false, .slice none 0 0, .bool false, .slice none 0 0]
    simpa using this
  have HWW := Lib.hid hW
  have HMU := Lib.hid (mul1_any A B ca cb W (hA.keep hbA) (hB.keep hbA))
  clear hW hA hB
  obtain ⟨a0, a1, a2, a3, _, _, _, _⟩ := B0.four
  obtain ⟨b0, b1, b2, b3, _, _, _, _⟩ := B1.four
  obtain ⟨c0, c1, c2, c3, f0, f1, f2, f3⟩ := B2.four
  go_enter Tryz.func33, Tryz.ntmps33
  go_upto_region 1 with (fail)
  rw [HWW.out]
  go_wp2_with (go_at_call 53; refine HMU.out.mono ?_; rintro e w2 ⟨R, c, rfl, hD, hb2⟩
               have B3 := B2.keep hb2 B2.lt
               obtain ⟨c0, c1, c2, c3, f0, f1, f2, f3⟩ := B3.four)
  have B4 := four_put (a' := .bool false) (b' := .slice R 1 c) (c' := .bool false) (d' := .slice none 0 0) B3
  obtain ⟨e0, e1, e2, e3, _, _, _, _⟩ := B4.four
  refine bodyPost_ret (v := .agg #[.bool false, .slice R 1 c, .bool false, .slice none 0 0]) (by simp [results, Tryz.results33, go_sem, e0, e1, e2, e3]) rfl ?_
  exact ⟨R, c, rfl, digs_four hD B3 (by decide), below_far (below_far (below_far (below_far (below_all hbA hb2) (by omega) _ _) (by omega) _ _) (by omega) _ _) (by omega) _ _⟩
end Go.Proofs.Tg.Sx
end
section
/- Walks: the echelon form. -/
namespace Go.Proofs.Tg
open Go.RowKit Go.Gr Go.Ev
set_option maxHeartbeats 2000000
set_option maxRecDepth 100000
/-- The vectors lie in block g; nothing below B has turned. -/
structure VecAt (W0 : World) (base g cap : Nat) (us : List Nat) (w : World) : Prop where
  own : w.ownsRow base 3 1 (.slice (some ⟨g, 0, none⟩) us.length cap) us.length (us.map vn)
  below : Below W0.heap.size W0 w
theorem VecAt.base_le {W0 w : World} {base g cap : Nat} {us : List Nat} (h : VecAt W0 base g cap us w) : base ≤ g := (h.own.lt g rfl).1
theorem VecAt.cell {W0 w : World} {base g cap : Nat} {us : List Nat} (h : VecAt W0 base g cap us w) {j : Nat} (hj : j < us.length) : w.cell? ⟨g, j, none⟩ = some (.int .i64 (us.getD j 0 : Nat)) := by
  rw [h.own.cellAt j (by omega)]
  simp [hj, vn]
theorem VecAt.drewN {W0 w : World} {base g cap : Nat} {us : List Nat} (h : VecAt W0 base g cap us w) (n : Nat) : VecAt W0 base g cap us (w.drewN n) := ⟨h.own, below_drewN h.below n⟩
theorem VecAt.drew {W0 w : World} {base g cap : Nat} {us : List Nat} (h : VecAt W0 base g cap us w) : VecAt W0 base g cap us w.drew := ⟨h.own, h.below.drew⟩
theorem VecAt.put {W0 w : World} {base g cap : Nat} {us : List Nat} (h : VecAt W0 base g cap us w) (hB : W0.heap.size ≤ base) (j x : Nat) : VecAt W0 base g cap (us.set j x) (w.setCell ⟨g, j, none⟩ (.int .i64 (x : Nat))) := by
  have h1 := (h.own.stored j (.int .i64 (x : Nat))).1
  have e : (us.map vn).set j (.int .i64 (x : Nat)) = (us.set j x).map vn := by rw [List.map_set]; rfl
  rw [e] at h1
  refine ⟨by rw [List.length_set]; exact h1, h.below.setCell (Nat.le_trans hB h.base_le) _⟩
theorem pow_small {i : Nat} (hi : i < 6) : 2 ^ i ≤ 32 := by
  have : 2 ^ i ≤ 2 ^ 5 := Nat.pow_le_pow_right (by omega) (by omega)
  omega
theorem and_pow_zero (x i : Nat) : (x &&& 2 ^ i = 0) ↔ x.testBit i = false := by
  constructor
  · intro h
    have := congrArg (fun z => Nat.testBit z i) h
    simp only [Nat.testBit_and, Nat.testBit_two_pow_self, Bool.and_true, Nat.zero_testBit] at this
    exact this
  · intro h
    refine Nat.eq_of_testBit_eq fun b => ?_
    rw [Nat.testBit_and, Nat.testBit_two_pow, Nat.zero_testBit]
    by_cases e : i = b
    · subst e; rw [h]; rfl
    · simp [e]
theorem wrap_two (i : Nat) (hi : i < 6) : wrap64 ((2 : Int) ^ i) = ((2 ^ i : Nat) : Int) := by
  have e : (2 : Int) ^ i = ((2 ^ i : Nat) : Int) := by simp
  rw [e, wrap64_nat _ (by have := pow_small hi; omega)]
theorem bit_eq (x i : Nat) (hx : x < 64) (hi : i < 6) : (bits BinOp.and IntKind.i64 (x : Int) (wrap64 (2 ^ i)) == 0) = !x.testBit i := by
  rw [wrap_two i hi, i64_and_n _ _ (by omega) (by have := pow_small hi; omega)]
  have := and_pow_zero x i
  cases h : x.testBit i with
  | true =>
    have : x &&& 2 ^ i ≠ 0 := fun e => by rw [this.1 e] at h; cases h
    simp; omega
  | false => rw [this.2 h]; rfl
theorem bit_ne (x i : Nat) (hx : x < 64) (hi : i < 6) : (bits BinOp.and IntKind.i64 (x : Int) (wrap64 (2 ^ i)) != 0) = x.testBit i := by
  rw [bne, bit_eq x i hx hi, Bool.not_not]
end Go.Proofs.Tg
end
section
/- Walks: the sign symmetries of polynomials. -/
namespace Go.Proofs.Tg
open Go.RowKit Go.Gr Go.Ev Go.Mo Go.Qn
set_option maxHeartbeats 4000000
set_option maxRecDepth 100000
/-- The exponents of all terms. -/
def rowsOf (ps : List PVal) : List (List Int) := ps.flatMap fun p => p.tv.map TV.exps
/-- What the search for sign symmetries returns. -/
def RetSigns (ps : List PVal) (w : World) (e : Ending) (w' : World) : Prop :=
  Below w.heap.size w w' ∧
  ((¬ (∀ p ∈ ps, p.ok) ∧ e = .returned (.tuple #[.slice none 0 0, .int .i64 1])) ∨
   ((∀ p ∈ ps, p.ok) ∧ (ps = [] ∨ ∃ p ∈ ps, p.vars ≠ (ps.getD 0 ⟨0, none, 0, []⟩).vars) ∧ e = .returned (.tuple #[.slice none 0 0, .int .i64 4])) ∨
   ((∀ p ∈ ps, p.ok) ∧ ∃ n : Nat, n ≤ 6 ∧ ps ≠ [] ∧ (∀ p ∈ ps, p.vars = n) ∧ ∃ A c us r q, EInv (V (rowsOf ps) n) n us r q ∧ us.length ≤ 64 ∧ e = .returned (.tuple #[.slice A ((us.take r).map (unp · n)).length c, .int .i64 0]) ∧ Lists w' A ((us.take r).map (unp · n))))
def occA (f : Nat → Bool) : Array Value := ((List.range 64).map fun i => Value.bool (f i)).toArray
theorem occA_size (f : Nat → Bool) : (occA f).size = 64 := by simp [occA]
theorem occA_at (f : Nat → Bool) {i : Nat} (hi : i < 64) : (occA f)[i]? = some (.bool (f i)) := by simp [occA, hi]
theorem occA_set (f : Nat → Bool) (j : Nat) : (occA f).setIfInBounds j (.bool true) = occA (fun i => f i || (j == i)) := by
  apply Array.ext
  · simp [occA]
  · intro i h1 h2
    simp only [occA, List.getElem_toArray, List.getElem_map, List.getElem_range]
    by_cases e : j = i
    · subst e; simp
    · simp [e]
theorem pvalid_lit (p : PVal) (w : World) (hA : TermsAt w p.adr p.tv) (hs : p.small) (hT : Tab w) (ok : Bool) (hok : ok = true ↔ p.ok) :
    Calls Tryz.prog 36 #[.agg #[.int .i64 p.vars, .slice p.adr p.tv.length p.cap]] w fun e w' => e = .returned (.bool ok) ∧ Below w.heap.size w w' :=
  pvalid_any p.vars p.adr p.cap p.tv ok w hA hs.1 hs.2 hok hT
theorem ok_term {p : PVal} (h : p.ok) {t : TV} (ht : t ∈ p.tv) : (t.exps.length : Int) = p.vars ∧ ∀ x ∈ t.exps, 0 ≤ x ∧ x ≤ 1048576 := by
  obtain ⟨i, hi, rfl⟩ := List.mem_iff_getElem.1 ht
  have := (h.2.1.2.2 i (by simpa using hi) (by simpa using hi)).1
  rw [List.getElem_map, termOk_iff] at this
  exact ⟨this.2.1, low20_iff.1 this.2.2⟩
theorem rowsOf_succ (ps : List PVal) (k : Nat) (hk : k < ps.length) : rowsOf (ps.take (k + 1)) = rowsOf (ps.take k) ++ ps[k].tv.map TV.exps := by
  unfold rowsOf
  rw [List.take_succ_eq_append_getElem hk, List.flatMap_append]; simp
/-- Lists that a call has made: block G j holds list j. -/
structure Made (G : Nat → Nat) (k n : Nat) (ls : Nat → List Int) (w : World) : Prop where
  blk : ∀ j, j < k → Blk w (G j) 3 (iarr (ls j))
  len : ∀ j, j < k → (ls j).length = n
theorem Made.lists {G : Nat → Nat} {k n base c : Nat} {ls : Nat → List Int} {w : World} {A : Option Addr} (h : Made G k n ls w) (ho : w.ownsRow base 50 1 (.slice A k c) k ((List.range k).map fun j => .slice (some ⟨G j, 0, none⟩) n n)) :
    Lists w A ((List.range k).map ls) := by
  refine ⟨fun j => (some ⟨G j, 0, none⟩, n), ?_, fun i hi => ?_⟩
  · have := Sl.own ho
    have e : ((List.range ((List.range k).map ls).length).map fun i => Value.slice (some ⟨G i, 0, none⟩) (((List.range k).map ls).getD i []).length n) = (List.range k).map fun j => .slice (some ⟨G j, 0, none⟩) n n := by
      rw [List.length_map, List.length_range]
      refine List.map_congr_left fun i hi => ?_
      have hi := List.mem_range.1 hi
      simp [hi, h.len i hi]
    rw [show ((List.range k).map ls).length = k by simp] at e ⊢
    rw [e]
    exact this
  · have hi' : i < k := by simpa using hi
    have e : ((List.range k).map ls).getD i [] = ls i := by simp [hi']
    rw [e]
    have hB := h.blk i hi'
    refine ⟨by simp, fun _ => ⟨_, rfl, hB.lt, fun j u hu => ?_⟩⟩
    rw [add_lit, Nat.zero_add, hB.cell j]
    simpa [iarr] using hu
theorem VecAt.keep {W0 w w' : World} {base g cap : Nat} {us : List Nat} (h : VecAt W0 base g cap us w) (hb : Below w.heap.size w w') : VecAt W0 base g cap us w' :=
  ⟨own_below h.own hb (Nat.le_refl _), below_all h.below hb⟩
theorem row_info : (Tryz.prog.info? 50).map (fun i => (i.zero, i.size, i.bytes)) = some (some (.slice none 0 0), 1, 24) := by kernel_rfl
theorem wrap_pow2 (i : Nat) (hi : i ≤ 6) : wrap64 ((2 : Int) ^ i) = ((2 ^ i : Nat) : Int) ∧ 2 ^ i ≤ 64 := by
  have h6 : 2 ^ i ≤ 2 ^ 6 := Nat.pow_le_pow_right (by omega) hi
  have e : (2 : Int) ^ i = ((2 ^ i : Nat) : Int) := by simp
  exact ⟨by rw [e, wrap64_nat _ (by omega)], h6⟩
end Go.Proofs.Tg
end
section
/- The reference's polynomials in memory, and its Rows. -/
namespace Go.Proofs.Tg
open Go.RowKit Go.Gr Go.Ev Go.Mo
set_option maxHeartbeats 4000000
set_option maxRecDepth 100000
/-- A term of the reference: the coefficient's four cells, the exponents. -/
structure RT where
  c0 : Value
  c1 : Value
  c2 : Value
  c3 : Value
  adr : Option Addr
  cap : Nat
  exps : List Int
def RT.sl (t : RT) : Value := .slice t.adr t.exps.length t.cap
def RT.cells (t : RT) : List Value := [t.c0, t.c1, t.c2, t.c3, t.sl]
structure RTermsAt (w : World) (T : Option Addr) (ts : List RT) : Prop where
  sl : Sl w T ts.length 5 (ts.flatMap RT.cells)
  ints : ∀ t ∈ ts, Ints w t.adr t.exps
theorem RTermsAt.keep {w w' : World} {T : Option Addr} {ts : List RT} (h : RTermsAt w T ts) (hb : Below w.heap.size w w') : RTermsAt w' T ts :=
  ⟨h.sl.keep hb, fun t ht => (h.ints t ht).keep hb⟩
theorem off_four (a : Addr) (k : Nat) : (⟨(a.add k).block, (a.add k).off + 4, none⟩ : Addr) = a.add (k + 4) := by
  rw [← add_add]; simp [Addr.add]
theorem RTermsAt.at {w : World} {T : Option Addr} {ts : List RT} (h : RTermsAt w T ts) {k : Nat} (hk : k < ts.length) :
    ∃ ad, T = some ad ∧ w.cell? ⟨(ad.add (k * 5)).block, (ad.add (k * 5)).off + 4, none⟩ = some (.slice ts[k].adr ts[k].exps.length ts[k].cap) ∧ Ints w ts[k].adr ts[k].exps := by
  obtain ⟨ad, rfl, _, ha⟩ := h.sl.lies (by omega)
  refine ⟨ad, rfl, (congrArg w.cell? (off_four ad (k * 5))).trans (ha _ _ ?_), h.ints _ (List.getElem_mem _)⟩
  exact flat_get RT.cells 5 (fun _ => rfl) ts k 4 hk (by omega)
structure RP where
  vars : Int
  adr : Option Addr
  cap : Nat
  ts : List RT
def RP.cells (p : RP) : List Value := [.int .i64 p.vars, .slice p.adr p.ts.length p.cap]
structure RPolysAt (w : World) (L : Option Addr) (ps : List RP) : Prop where
  sl : Sl w L ps.length 2 (ps.flatMap RP.cells)
  tms : ∀ p ∈ ps, RTermsAt w p.adr p.ts
theorem RPolysAt.keep {w w' : World} {L : Option Addr} {ps : List RP} (h : RPolysAt w L ps) (hb : Below w.heap.size w w') : RPolysAt w' L ps :=
  ⟨h.sl.keep hb, fun p hp => (h.tms p hp).keep hb⟩
theorem RPolysAt.at {w : World} {L : Option Addr} {ps : List RP} (h : RPolysAt w L ps) {k : Nat} (hk : k < ps.length) :
    ∃ ad, L = some ad ∧ w.cell? (ad.add (k * 2)) = some (.int .i64 ps[k].vars) ∧ w.cell? ⟨(ad.add (k * 2)).block, (ad.add (k * 2)).off + 1, none⟩ = some (.slice ps[k].adr ps[k].ts.length ps[k].cap) ∧ RTermsAt w ps[k].adr ps[k].ts := by
  obtain ⟨ad, rfl, _, ha⟩ := h.sl.lies (by omega)
  refine ⟨ad, rfl, ha _ _ ?_, (congrArg w.cell? (off_one ad (k * 2))).trans (ha _ _ ?_), h.tms _ (List.getElem_mem _)⟩
  · have := flat_get RP.cells 2 (fun _ => rfl) ps k 0 hk (by omega)
    rw [Nat.add_zero] at this
    exact this
  · exact flat_get RP.cells 2 (fun _ => rfl) ps k 1 hk (by omega)
def rterms (ps : List RP) : List RT := ps.flatMap RP.ts
theorem rterms_succ (ps : List RP) (k : Nat) (hk : k < ps.length) : rterms (ps.take (k + 1)) = rterms (ps.take k) ++ ps[k].ts := by
  unfold rterms
  rw [List.take_succ_eq_append_getElem hk, List.flatMap_append]; simp
theorem rterms_le (ps : List RP) (k : Nat) : (rterms (ps.take k)).length ≤ (rterms ps).length := by
  have : rterms ps = rterms (ps.take k) ++ rterms (ps.drop k) := by unfold rterms; rw [← List.flatMap_append, List.take_append_drop]
  rw [this, List.length_append]; omega
/-- Slices that lie in memory, collected in a row of the call's own. -/
theorem lists_of {w : World} {base c : Nat} {A : Option Addr} {ts : List RT} (ho : w.ownsRow base 50 1 (.slice A ts.length c) ts.length (ts.map RT.sl)) (hi : ∀ t ∈ ts, Ints w t.adr t.exps) : Lists w A (ts.map RT.exps) := by
  refine ⟨fun j => ((ts.map fun t => (t.adr, t.cap)).getD j (none, 0)), ?_, fun i hi' => ?_⟩
  · have := Sl.own ho
    have e : ((List.range (ts.map RT.exps).length).map fun i => Value.slice ((ts.map fun t => (t.adr, t.cap)).getD i (none, 0)).1 ((ts.map RT.exps).getD i []).length ((ts.map fun t => (t.adr, t.cap)).getD i (none, 0)).2) = ts.map RT.sl := by
      refine List.ext_getElem (by simp) fun j h1 h2 => ?_
      have hj : j < ts.length := by simpa using h2
      simp [hj, RT.sl]
    rw [e, List.length_map]
    exact this
  · have hj : i < ts.length := by simpa using hi'
    have := hi ts[i] (List.getElem_mem _)
    simpa [hj] using this
end Go.Proofs.Tg
end
section
/- The reference's sum of one term. -/
namespace Go.Proofs.Tg.Sx
open Go.RowKit Go.Gr Go.Sp Go.Ev Go.Mo Go.Bn
set_option maxHeartbeats 4000000
set_option maxRecDepth 100000
theorem sorted_one (A : Option Addr) (c : Nat) (w : World) : Calls Tryz.prog 56 #[.slice A 1 c] w fun e w' => e = .returned (.slice A 1 c) ∧ w = w' := by
  go_enter Tryz.func56, Tryz.ntmps56
  go_wp2
  go_ret
  exact ⟨rfl, rfl⟩
end Go.Proofs.Tg.Sx
end
section
/- Walks: characters. -/
namespace Go.Proofs.Tg
open Go.RowKit Go.Gr Go.Ev Go.Mo
set_option maxHeartbeats 2000000
set_option maxRecDepth 100000
theorem fill_zero (L : List Int) (k n : Nat) (hn : L.length = n) (hk : k < n) (h : L[k] = 0) : L.take k ++ List.replicate (n - k) 0 = L.take (k + 1) ++ List.replicate (n - (k + 1)) 0 := by
  rw [List.take_succ_eq_append_getElem (by omega), h, show n - k = (n - (k + 1)) + 1 by omega, List.replicate_succ]; simp
theorem fill_set (L : List Int) (k n : Nat) (x : Int) (hn : L.length = n) (hk : k < n) (h : L[k] = x) : (L.take k ++ List.replicate (n - k) 0).set k x = L.take (k + 1) ++ List.replicate (n - (k + 1)) 0 := by
  have hl : (L.take k).length = k := by rw [List.length_take]; omega
  rw [List.take_succ_eq_append_getElem (by omega), h, show n - k = (n - (k + 1)) + 1 by omega, List.replicate_succ, List.set_append_right _ _ (by omega), hl, Nat.sub_self, List.set_cons_zero]; simp
theorem small_of_vld {m : List Int} (h : vldM m = true) : m.length ≤ 6 ∧ ∀ x ∈ m, 0 ≤ x ∧ x ≤ 24 := by
  obtain ⟨h1, h2, h3⟩ := vldM_iff.1 h
  refine ⟨h1, fun x hx => ⟨h2 x hx, ?_⟩⟩
  obtain ⟨i, hi, rfl⟩ := List.mem_iff_getElem.1 hx
  have a := sum_take_le m (i + 1) h2
  rw [sum_take_succ m i hi] at a
  have b := sum_nonneg (m.take i) (fun e he => h2 e (List.mem_of_mem_take he))
  omega
/-- What the character of a monomial is, or the error. -/
def RetChar (s : List (List Int)) (m : List Int) (w : World) (e : Ending) (w' : World) : Prop :=
  ∃ A c, e = .returned (.tuple #[.slice A (if chk s [m] = 0 then chr s m else []).length c, .int .i64 (chk s [m])]) ∧ Ints w' A (if chk s [m] = 0 then chr s m else []) ∧ Below w.heap.size w w'
theorem sl_new {w : World} {g : Nat} {l : List Int} (h : Blk w g 3 (iarr l)) : Ints w (some ⟨g, 0, none⟩) l :=
  ⟨by simp, fun _ => ⟨_, rfl, h.lt, fun j u hu => by rw [add_lit, Nat.zero_add, h.cell j]; simpa [iarr] using hu⟩⟩
theorem lists_one {w : World} {g c : Nat} {A : Option Addr} {m : List Int} (hA : Ints w A m) (h : w.cell? ⟨g, 0, none⟩ = some (.slice A m.length c)) : Lists w (some ⟨g, 0, none⟩) [m] := by
  refine ⟨fun _ => (A, c), ⟨by simp, fun _ => ⟨_, rfl, World.block_lt_of_cell? w _ h, fun j u hu => ?_⟩⟩, fun i hi => ?_⟩
  · match j with
    | 0 =>
      have e : u = .slice A m.length c := by simpa using hu.symm
      subst e
      exact h
    | j + 1 => simp at hu
  · have : i = 0 := by simpa using hi
    subst this
    exact hA
end Go.Proofs.Tg
end
section
/- A slice of slices of numbers that a call makes and lets grow: the outer row, the inner rows, all apart. -/
namespace Go.Proofs.Tg
open Go.RowKit
/-- The outer row holds the slices val j; each is a row of the call's own; no two share a block. -/
structure Fam (base : Nat) (C : Option Addr) (cc : Nat) (Cl : List (List Nat)) (val : Nat → Value) (w : World) : Prop where
  row : w.ownsRow base 50 1 (.slice C Cl.length cc) Cl.length ((List.range Cl.length).map val)
  own : ∀ j, j < Cl.length → w.ownsRow base 3 1 (val j) (Cl.getD j []).length ((Cl.getD j []).map vn)
  sep : ∀ i j, i < Cl.length → j < Cl.length → i ≠ j → (val i).ownBlock = none ∨ (val i).ownBlock ≠ (val j).ownBlock
theorem Fam.nil (base : Nat) (w : World) : Fam base none 0 [] (fun _ => .slice none 0 0) w :=
  ⟨World.ownsRow_nil _ _ _ _, fun j h => absurd h (by simp), fun i j h => absurd h (by simp)⟩
theorem Fam.keep {base : Nat} {C : Option Addr} {cc : Nat} {Cl : List (List Nat)} {val : Nat → Value} {w w' : World} (h : Fam base C cc Cl val w) (hb : Below w.heap.size w w') : Fam base C cc Cl val w' :=
  ⟨own_below h.row hb (Nat.le_refl _), fun j hj => own_below (h.own j hj) hb (Nat.le_refl _), h.sep⟩
theorem Fam.alloc {base : Nat} {C : Option Addr} {cc : Nat} {Cl : List (List Nat)} {val : Nat → Value} {w : World} (h : Fam base C cc Cl val w) (o : Obj) : Fam base C cc Cl val (w.alloc o) :=
  h.keep ((Below.refl _ _).alloc (Nat.le_refl _) o)
/-- Another block was written. -/
theorem Fam.other {base : Nat} {C : Option Addr} {cc : Nat} {Cl : List (List Nat)} {val : Nat → Value} {w w' : World} {row : Option Nat} (h : Fam base C cc Cl val w) (hg : w.grownBy w' row)
    (h1 : (Value.slice C Cl.length cc).ownBlock = none ∨ (Value.slice C Cl.length cc).ownBlock ≠ row) (h2 : ∀ j, j < Cl.length → (val j).ownBlock = none ∨ (val j).ownBlock ≠ row) : Fam base C cc Cl val w' :=
  ⟨h.row.kept hg h1, fun j hj => (h.own j hj).kept hg (h2 j hj), h.sep⟩
/-- A new, empty class. -/
theorem Fam.push {base : Nat} {C C' : Option Addr} {cc cc' : Nat} {Cl : List (List Nat)} {val : Nat → Value} {w w' : World} (h : Fam base C cc Cl val w)
    (hr : w'.ownsRow base 50 1 (.slice C' (Cl.length + 1) cc') (Cl.length + 1) ((List.range Cl.length).map val ++ [.slice none 0 0])) (hg : w.grownBy w' (Value.slice C Cl.length cc).ownBlock) :
    Fam base C' cc' (Cl ++ [[]]) (fun j => if j = Cl.length then .slice none 0 0 else val j) w' := by
  have hlen : (Cl ++ [[]]).length = Cl.length + 1 := by simp
  refine ⟨?_, fun j hj => ?_, fun i j hi hj hne => ?_⟩
  · rw [hlen]
    have e : (List.range (Cl.length + 1)).map (fun j => if j = Cl.length then Value.slice none 0 0 else val j) = (List.range Cl.length).map val ++ [.slice none 0 0] := by
      rw [List.range_succ, List.map_append]
      congr 1
      · refine List.map_congr_left fun j hj => ?_
        have := List.mem_range.1 hj
        rw [if_neg (by omega)]
      · simp
    rw [e]; exact hr
  · rw [hlen] at hj
    by_cases e : j = Cl.length
    · subst e
      rw [if_pos rfl]
      simp only [List.getD_eq_getElem?_getD, List.getElem?_append_right (Nat.le_refl _), Nat.sub_self]
      exact World.ownsRow_nil _ _ _ _
    · rw [if_neg e]
      have e2 : (Cl ++ [[]]).getD j [] = Cl.getD j [] := by
        simp only [List.getD_eq_getElem?_getD, List.getElem?_append_left (show j < Cl.length by omega)]
      rw [e2]
      exact (h.own j (by omega)).kept hg (own_ne (h.own j (by omega)) h.row (by decide))
  · rw [hlen] at hi hj
    by_cases e1 : i = Cl.length
    · rw [if_pos e1]; exact .inl rfl
    · rw [if_neg e1]
      by_cases e2 : j = Cl.length
      · rw [if_pos e2]
        cases hb : (val i).ownBlock with
        | none => exact .inl rfl
        | some g => exact .inr (by simp [Value.ownBlock])
      · rw [if_neg e2]
        exact h.sep i j (by omega) (by omega) hne
/-- A number is appended to class k and the new slice is stored. -/
theorem Fam.add {base : Nat} {g : Nat} {cc : Nat} {Cl : List (List Nat)} {val : Nat → Value} {w w' : World} {k i : Nat} {v' : Value} (h : Fam base (some ⟨g, 0, none⟩) cc Cl val w) (hk : k < Cl.length)
    (hr : w'.ownsRow base 3 1 v' ((Cl.getD k []).length + 1) ((Cl.getD k []).map vn ++ [vn i])) (hg : w.grownBy w' (val k).ownBlock) (hat : v'.ownBlock = (val k).ownBlock ∨ v'.ownBlock = some w.heap.size) :
    Fam base (some ⟨g, 0, none⟩) cc (Cl.set k (Cl.getD k [] ++ [i])) (fun j => if j = k then v' else val j) (w'.setCell ⟨g, k, none⟩ v') := by
  have hlen : (Cl.set k (Cl.getD k [] ++ [i])).length = Cl.length := by simp
  have hrow' := h.row.kept hg (own_ne h.row (h.own k hk) (by decide))
  have hst := hrow'.stored k v'
  have hgd : ∀ j, (Cl.set k (Cl.getD k [] ++ [i])).getD j [] = if j = k then Cl.getD k [] ++ [i] else Cl.getD j [] := by
    intro j
    simp only [List.getD_eq_getElem?_getD, List.getElem?_set]
    by_cases e : k = j
    · subst e; simp [hk]
    · simp [e, Ne.symm e]
  refine ⟨?_, fun j hj => ?_, fun a b ha hb hne => ?_⟩
  · rw [hlen]
    have e : (List.range Cl.length).map (fun j => if j = k then v' else val j) = ((List.range Cl.length).map val).set k v' := by
      refine List.ext_getElem (by simp) fun j h1 h2 => ?_
      simp only [List.getElem_map, List.getElem_range, List.getElem_set]
      by_cases e : k = j
      · subst e; simp
      · simp [e, Ne.symm e]
    rw [e]
    exact hst.1
  · rw [hlen] at hj
    rw [hgd]
    by_cases e : j = k
    · rw [if_pos e, if_pos e]
      have hr2 : w'.ownsRow base 3 1 v' (Cl.getD k [] ++ [i]).length ((Cl.getD k [] ++ [i]).map vn) := by simpa using hr
      exact hr2.kept hst.2 (own_ne hr2 hrow' (by decide))
    · rw [if_neg e, if_neg e]
      have h1 := (h.own j hj).kept hg (h.sep j k hj hk e)
      exact h1.kept hst.2 (own_ne h1 hrow' (by decide))
  · rw [hlen] at ha hb
    have hlt : ∀ j, j < Cl.length → (val j).ownBlock ≠ some w.heap.size := by
      intro j hj e
      have := ((h.own j hj).lt _ e).2
      omega
    by_cases e1 : a = k
    · rw [if_pos e1, if_neg (by omega)]
      rcases hat with hx | hx
      · rw [hx, ← e1]
        exact h.sep a b ha hb hne
      · right; rw [hx]; exact fun e => hlt b hb e.symm
    · rw [if_neg e1]
      by_cases e2 : b = k
      · rw [if_pos e2]
        rcases hat with hx | hx
        · rw [hx, ← e2]
          exact h.sep a b ha hb hne
        · right; rw [hx]; exact hlt a ha
      · rw [if_neg e2]
        exact h.sep a b ha hb hne
def toI (l : List Nat) : List Int := l.map fun x : Nat => (x : Int)
theorem Fam.lists {base : Nat} {C : Option Addr} {cc : Nat} {Cl : List (List Nat)} {val : Nat → Value} {w : World} (h : Fam base C cc Cl val w) : Lists w C (Cl.map toI) := by
  have hsl : ∀ j, j < Cl.length → ∃ A c, val j = .slice A (Cl.getD j []).length c ∧ Sl w A (Cl.getD j []).length 1 ((Cl.getD j []).map vn) := by
    intro j hj
    obtain ⟨A, c, h1, _, h3⟩ := Sl.of_own (h.own j hj)
    exact ⟨A, c, h1, h3⟩
  have hch : ∃ f : Nat → Option Addr × Nat, ∀ j, j < Cl.length → val j = .slice (f j).1 (Cl.getD j []).length (f j).2 ∧ Sl w (f j).1 (Cl.getD j []).length 1 ((Cl.getD j []).map vn) := by
    have : ∀ j, ∃ p : Option Addr × Nat, j < Cl.length → val j = .slice p.1 (Cl.getD j []).length p.2 ∧ Sl w p.1 (Cl.getD j []).length 1 ((Cl.getD j []).map vn) := by
      intro j
      by_cases hj : j < Cl.length
      · obtain ⟨A, c, h1⟩ := hsl j hj
        exact ⟨(A, c), fun _ => h1⟩
      · exact ⟨(none, 0), fun h => absurd h hj⟩
    exact ⟨fun j => Classical.choose (this j), fun j => Classical.choose_spec (this j)⟩
  obtain ⟨f, hf⟩ := hch
  have hgd : ∀ j, j < Cl.length → (Cl.map toI).getD j [] = toI (Cl.getD j []) := by
    intro j hj; simp [hj]
  refine ⟨f, ?_, fun j hj => ?_⟩
  · have := Sl.own h.row
    have e : ((List.range (Cl.map toI).length).map fun i => Value.slice (f i).1 ((Cl.map toI).getD i []).length (f i).2) = (List.range Cl.length).map val := by
      rw [List.length_map]
      refine List.map_congr_left fun j hj => ?_
      have hj := List.mem_range.1 hj
      rw [hgd j hj, (hf j hj).1]
      simp [toI]
    rw [e, List.length_map]
    exact this
  · have hj' : j < Cl.length := by simpa using hj
    rw [hgd j hj']
    have := (hf j hj').2
    have e : (toI (Cl.getD j [])).map vi = (Cl.getD j []).map vn := by simp [toI, vi, vn]
    show Sl w (f j).1 (toI (Cl.getD j [])).length 1 ((toI (Cl.getD j [])).map vi)
    rw [e, show (toI (Cl.getD j [])).length = (Cl.getD j []).length by simp [toI]]
    exact this
end Go.Proofs.Tg
end
section
/- Walks: classes of monomials. -/
namespace Go.Proofs.Tg
open Go.RowKit Go.Gr Go.Ev Go.Mo
open Go.ChangeShapes Go.WideShapes
set_option maxHeartbeats 4000000
set_option maxRecDepth 100000
/-- A character as a key. -/
def kb (q : List Int) : List UInt8 := q.map fun x => UInt8.ofNat x.toNat
theorem kb_inj : ∀ {p q : List Int}, Bit01 p → Bit01 q → kb p = kb q → p = q
  | [], [], _, _, _ => rfl
  | [], _ :: _, _, _, h => by simp [kb] at h
  | _ :: _, [], _, _, h => by simp [kb] at h
  | x :: p, y :: q, hp, hq, h => by
    simp only [kb, List.map_cons, List.cons.injEq] at h
    have h2 := kb_inj (p := p) (q := q) (fun z hz => hp z (by simp [hz])) (fun z hz => hq z (by simp [hz])) h.2
    have hx := hp x (by simp)
    have hy := hq y (by simp)
    have h1 := h.1
    rw [h2]
    congr 1
    rcases hx with rfl | rfl <;> rcases hy with rfl | rfl
    · rfl
    · exact absurd h1 (by decide)
    · exact absurd h1 (by decide)
    · rfl
def MapOK (K : List (List Int)) (D : DataW Unit) : Prop :=
  Maps.IsMap D ∧ ∀ q, Bit01 q → (Maps.has D (.string (kb q)) = decide (q ∈ K)) ∧ (q ∈ K → D.atKey (.string (kb q)) (.lit (.int .i64 0)) = .lit (.int .i64 (K.idxOf q : Nat)))
theorem MapOK.nil : MapOK [] (.map []) := ⟨Maps.isMap_empty, fun q _ => ⟨by simp [Maps.has_eq], fun h => by cases h⟩⟩
theorem MapOK.put {K : List (List Int)} {D : DataW Unit} (h : MapOK K D) (_hK : ∀ k ∈ K, Bit01 k) {q : List Int} (hq : Bit01 q) (hn : q ∉ K) : MapOK (K ++ [q]) (D.put (.string (kb q)) (.lit (.int .i64 (K.length : Nat)))) := by
  refine ⟨h.1.put _ _, fun p hp => ?_⟩
  by_cases e : p = q
  · subst e
    refine ⟨by rw [Maps.has_put_same h.1 (by simp [WideAt.IsKeyLit])]; simp, fun _ => ?_⟩
    rw [Maps.atKey_put_same h.1 (by simp [WideAt.IsKeyLit]), List.idxOf_append, if_neg hn]
    simp
  · have hne : (Lit.string (kb p)) ≠ .string (kb q) := fun e2 => by
      injection e2 with e2
      exact e (kb_inj hp hq e2)
    refine ⟨by rw [Maps.has_put_other hne, (h.2 p hp).1]; simp [e], fun hm => ?_⟩
    have hm' : p ∈ K := by simpa [e] using hm
    rw [Maps.atKey_put_other hne, (h.2 p hp).2 hm', List.idxOf_append, if_pos hm']
theorem own_map_ne {w : World} {base : Nat} {t : TypeId} {sz n : Nat} {v : Value} {xs : List Value} {P : Program} {k : TypeId} {R : Value → Option (DataW Unit × List MemPlace)} {b m : Nat} {D : DataW Unit} (h : w.ownsRow base t sz v n xs) (hm : w.ownsMap P k R b m D) : v.ownBlock = none ∨ v.ownBlock ≠ some b := by
  rcases h.2 with ⟨rfl, _⟩ | ⟨g, cap, cur, rfl, _, hg, _⟩
  · exact .inl rfl
  · right
    intro e
    have : g = b := by simpa [Value.ownBlock] using e
    subst this
    obtain ⟨es, cl, hb, _⟩ := hm
    rw [hg] at hb
    cases hb
theorem map_ne_own {w : World} {base : Nat} {t : TypeId} {sz n : Nat} {v : Value} {xs : List Value} {P : Program} {k : TypeId} {R : Value → Option (DataW Unit × List MemPlace)} {b m : Nat} {D : DataW Unit} (h : w.ownsRow base t sz v n xs) (hm : w.ownsMap P k R b m D) : some b ≠ v.ownBlock := by
  rcases own_map_ne h hm with e | e
  · rw [e]; simp
  · exact fun e2 => e e2.symm
theorem map_keep {w w' : World} {P : Program} {k : TypeId} {R : Value → Option (DataW Unit × List MemPlace)} {b m : Nat} {D : DataW Unit} (hm : w.ownsMap P k R b m D) (hb : Below w.heap.size w w') : w'.ownsMap P k R b m D :=
  hm.kept (row := none) ⟨hb.os, hb.tape, hb.output, hb.size, fun k hk _ => hb.block k hk⟩ (by simp)
def vb (c : UInt8) : Value := .int .u8 (c.toNat : Int)
theorem byte_info : (Tryz.prog.info? 5).map (fun i => (i.zero, i.size, i.bytes)) = some (some (.int .u8 0), 1, 1) := by kernel_rfl
/-- The bytes of a slice as a text. -/
theorem conv_name (w : World) (A : Option Addr) (c : Nat) (l : List UInt8) (h : Sl w A l.length 1 (l.map vb)) : (convert 150 9 (.slice A l.length c)).run Tryz.prog w = .ok (.string (bs l)) w := by
  by_cases h0 : l = []
  · subst h0
    cases A with
    | none => exact run_convert_bytes_nil w _ 5 Tryz.underlying150 Tryz.underlying5 0 c _ Tryz.underlying9
    | some ad => exact run_convert_bytes_back w _ _ 5 ad c [] Tryz.underlying150 Tryz.underlying5 Tryz.underlying9 (fun j hj => by simp at hj)
  · obtain ⟨ad, rfl, _, ha⟩ := h.lies (List.length_pos_iff.2 h0)
    exact run_convert_bytes_back w _ _ 5 ad c l Tryz.underlying150 Tryz.underlying5 Tryz.underlying9 (fun j hj => ha j _ (by simp [hj, vb]))
theorem zero_int (w : World) : (zeroValue 3).run Tryz.prog w = .ok (.int .i64 0) w := by kernel_rfl
end Go.Proofs.Tg
end
section
/- Walks: classes of monomials. -/
namespace Go.Proofs.Tg
open Go.RowKit Go.Gr Go.Ev Go.Mo
open Go.ChangeShapes Go.WideShapes
set_option maxHeartbeats 4000000
set_option maxRecDepth 100000
theorem clsSt_bits {ks : List (List Int)} (h : ∀ k ∈ ks, Bit01 k) : ∀ i, i ≤ ks.length → ∀ k ∈ (clsSt ks i).1, Bit01 k
  | 0, _, k, hk => by simp [clsSt] at hk
  | i + 1, hi, k, hk => by
    have ih := clsSt_bits h i (by omega)
    by_cases hc : (clsSt ks i).1.idxOf (ks.getD i []) < (clsSt ks i).1.length
    · rw [clsSt_old hc] at hk; exact ih k hk
    · rw [clsSt_new hc] at hk
      rcases List.mem_append.1 hk with h2 | h2
      · exact ih k h2
      · simp only [List.mem_cons, List.not_mem_nil, or_false] at h2
        subst h2
        have hi' : i < ks.length := by omega
        rw [List.getD_eq_getElem?_getD, List.getElem?_eq_getElem hi', Option.getD_some]
        exact h _ (List.getElem_mem _)
def RetCls (L : List (List Int)) (code : Int) (w : World) (e : Ending) (w' : World) : Prop :=
  ∃ A c, e = .returned (.tuple #[.slice A L.length c, .int .i64 code]) ∧ Lists w' A L ∧ Below w.heap.size w w'
end Go.Proofs.Tg
end
section
/- Walks of the reference: monomials, sign vectors, inner products, the check. -/
namespace Go.Proofs.Tg
open Go.RowKit Go.Gr Go.Ev Go.Mo
set_option maxHeartbeats 2000000
set_option maxRecDepth 100000
theorem rdeg_any (A : Option Addr) (c : Nat) (m : List Int) (w : World) (hA : Ints w A m) (hn : m.length ≤ 1000) :
    Calls Tryz.prog 52 #[.slice A m.length c] w fun e w' => e = .returned (.int .i64 (degM m)) ∧ w = w' := by
  by_cases hl : m.length ≤ 6
  · have hd : decide ((6 : Int) < (m.length : Int)) = false := by simp; omega
    go_enter Tryz.func52, Tryz.ntmps52
    go_wp2
    go_loop [3, 4] (fun s i => ∃ k : Nat, k ≤ m.length ∧ i = .int .i64 k ∧ ∃ z : Int, s = .int .i64 z ∧ 0 ≤ z ∧ z ≤ 24 ∧ Hid (z = (m.take k).sum ∧ ∀ e ∈ m.take k, 0 ≤ e)) (fun _ i => m.length - (intOf i).toNat)
    case atStart => exact ⟨0, Nat.zero_le _, rfl, 0, rfl, by omega, by omega, Lib.hid ⟨rfl, by simp⟩⟩
    case round =>
      obtain ⟨k, hk, rfl, z, rfl, hz0, hz1, HZ⟩ := hrel
      by_cases hlt : k < m.length
      · obtain ⟨ad, rfl, hc⟩ := Ints.at hA hlt
        have HS : Hid ((m.take (k + 1)).sum = z + m[k]) := Lib.hid (by rw [sum_take_succ m k hlt, ← HZ.out.1])
        have HB : Hid (m[k] < 0 ∨ 24 - z < m[k] → vldM m = false) := Lib.hid (fun h => vldM_bad hlt (by rw [← HZ.out.1]; exact h))
        have HT : Hid (m.take (k + 1) = m.take k ++ [m[k]]) := Lib.hid (List.take_succ_eq_append_getElem hlt)
        clear hA
        generalize m[k] = x at hc HS HB HT
        by_cases h1 : x < 0
        · have b1 : decide (x < 0) = true := by simpa using h1
          have HF : Hid (degM m = -1) := Lib.hid (by unfold degM; rw [HB.out (.inl h1)]; rfl)
          go_wp2
          go_ret
          exact ⟨by rw [HF.out]; rfl, rfl⟩
        · have b1 : decide (x < 0) = false := by simpa using h1
          by_cases h2 : 24 - z < x
          · have b2 : decide (24 - z < x) = true := by simpa using h2
            have HF : Hid (degM m = -1) := Lib.hid (by unfold degM; rw [HB.out (.inr h2)]; rfl)
            go_wp2
            go_ret
            exact ⟨by rw [HF.out]; rfl, rfl⟩
          · have b2 : decide (24 - z < x) = false := by simpa using h2
            go_wp2
            go_round
            case rel =>
              refine ⟨k + 1, by omega, by go_num, z + x, rfl, by omega, by omega, Lib.hid ⟨HS.out.symm, fun e he => ?_⟩⟩
              rw [HT.out] at he
              rcases List.mem_append.1 he with he | he
              · exact HZ.out.2 e he
              · simp at he; omega
            case measure => simp [intOf]; omega
      · obtain rfl : k = m.length := by omega
        have HF : Hid (degM m = z) := Lib.hid (by
          have h := HZ.out
          rw [List.take_length] at h
          unfold degM
          rw [if_pos (vldM_iff.2 ⟨hl, h.2, by omega⟩), h.1])
        go_wp2
        go_ret
        exact ⟨by rw [HF.out]; rfl, rfl⟩
  · have hd : decide ((6 : Int) < (m.length : Int)) = true := by simp; omega
    have HF : Hid (degM m = -1) := Lib.hid (by
      unfold degM
      rw [if_neg (by rw [vldM_iff]; exact fun h => hl h.1)])
    go_enter Tryz.func52, Tryz.ntmps52
    go_wp2
    go_ret
    exact ⟨by rw [HF.out]; rfl, rfl⟩
theorem rvalid_any (A : Option Addr) (c : Nat) (m : List Int) (w : World) (hA : Ints w A m) (hn : m.length ≤ 1000) :
    Calls Tryz.prog 32 #[.slice A m.length c] w fun e w' => e = .returned (.bool (vldM m)) ∧ w = w' := by
  have HD : Hid (decide (0 ≤ degM m) = vldM m) := Lib.hid degM_ge
  have HC := Lib.hid (rdeg_any A c m w hA hn)
  by_cases hl : m.length ≤ 6
  · have hd : decide ((m.length : Int) ≤ 6) = true := by simp; omega
    generalize degM m = z at *
    go_enter Tryz.func32, Tryz.ntmps32
    go_wp2_with (go_at_call 52; refine HC.out.mono ?_; rintro e w' ⟨rfl, rfl⟩)
    go_ret
    exact ⟨by rw [← HD.out]; rfl, rfl⟩
  · have hd : decide ((m.length : Int) ≤ 6) = false := by simp; omega
    have HF : Hid (vldM m = false) := Lib.hid (eq_false_of_ne_true (by rw [vldM_iff]; exact fun h => hl h.1))
    go_enter Tryz.func32, Tryz.ntmps32
    go_wp2
    go_ret
    exact ⟨by rw [HF.out]; rfl, rfl⟩
theorem rvld_lit (A : Option Addr) (c : Nat) (m : List Int) (w : World) (hA : Ints w A m) (hn : m.length ≤ 1000) (b : Bool) (hb : vldM m = b) :
    Calls Tryz.prog 32 #[.slice A m.length c] w fun e w' => e = .returned (.bool b) ∧ w = w' := by rw [← hb]; exact rvalid_any A c m w hA hn
end Go.Proofs.Tg
end
section
/- The reference's leading and orthogonal; the harness's SmallPoly. -/
namespace Go.Ev
/-- Every row is even against v. -/
def orth (rs : List (List Int)) (v : List Int) : Bool := rs.all fun r => dotN r v v.length % 2 == 0
end Go.Ev
namespace Go.Proofs.Tg
open Go.RowKit Go.Gr Go.Ev Go.Mo
set_option maxHeartbeats 4000000
set_option maxRecDepth 100000
theorem Dr.trans {w w' w'' : World} (h : Dr w w') (k : Dr w' w'') : Dr w w'' := by
  obtain ⟨n, rfl⟩ := k
  exact h.drewN n
theorem fidx_hit {l : List Int} {k : Nat} (h : k ≤ l.findIdx (· == 1)) (hk : k < l.length) (hx : l[k] = 1) : l.findIdx (· == 1) = k := by
  by_cases e : k < l.findIdx (· == 1)
  · have := List.not_of_lt_findIdx e
    rw [hx] at this
    cases this
  · omega
theorem fidx_miss {l : List Int} {k : Nat} (h : k ≤ l.findIdx (· == 1)) (hk : k < l.length) (hx : l[k] ≠ 1) : k + 1 ≤ l.findIdx (· == 1) := by
  by_cases e : l.findIdx (· == 1) = k
  · exfalso
    have hlt : l.findIdx (· == 1) < l.length := by omega
    have := List.findIdx_getElem (w := hlt)
    rw [beq_iff_eq] at this
    apply hx
    rw [← this]
    congr 1
    exact e.symm
  · omega
def PVal.few (n m : Nat) (p : PVal) : Prop := p.tv.length ≤ n ∧ ∀ t ∈ p.tv, t.coef.size ≤ m ∧ t.exps.length ≤ 12
theorem spoly_any (p : PVal) (n m : Nat) (b : Bool) (w : World) (hP : TermsAt w p.adr p.tv) (hv : b = true ↔ p.few n m) (hn : n ≤ 1000) (_hm : m ≤ 1000) :
    Calls Tryz.prog 16 #[.agg #[.int .i64 p.vars, .slice p.adr p.tv.length p.cap], .int .i64 n, .int .i64 m] w fun e w' => e = .returned (.bool b) ∧ Below w.heap.size w w' := by
  have hbA : Below w.heap.size w (w.alloc (.cells #[.int .i64 p.vars, .slice p.adr p.tv.length p.cap] 24)) := (Below.refl _ _).alloc (Nat.le_refl _) _
  have hP1 := hP.keep hbA
  have hB := Blk.new w 24 #[.int .i64 p.vars, .slice p.adr p.tv.length p.cap]
  obtain ⟨P, T, cp, tv⟩ := p
  simp only at *
  have HV := Lib.hid hv
  clear hv hP
  by_cases hl : tv.length ≤ n
  · have hd : decide ((n : Int) < (tv.length : Int)) = false := by simp; omega
    have hd' : decide (n < tv.length) = false := by simp; omega
    go_enter Tryz.func16, Tryz.ntmps16
    go_wp2
    generalize w.alloc (.cells #[.int .i64 P, .slice T tv.length cp] 24) = W at hbA hP1 hB
    generalize hg : w.heap.size = G at hB ⊢
    obtain ⟨c0, c1, f0, f1⟩ := hB.two
    have hgl := hB.lt
    have HG := Lib.hid hg
    clear hg hB
    go_loop [7] (fun i => ∃ k : Nat, i = .int .i64 k ∧ k ≤ tv.length ∧ Hid (∀ t ∈ tv.take k, t.coef.size ≤ m ∧ t.exps.length ≤ 12)) (fun i => tv.length - (intOf i).toNat)
    case atStart => exact ⟨0, rfl, Nat.zero_le _, Lib.hid (by simp)⟩
    case round =>
      obtain ⟨k, rfl, hk, HI⟩ := hrel
      by_cases hkl : k < tv.length
      · obtain ⟨ad, rfl, hc1, hc2, _⟩ := TermsAt.at hP1 hkl
        have HM : Hid (tv[k] ∈ tv) := Lib.hid (List.getElem_mem _)
        have HT0 : Hid (tv.take (k + 1) = tv.take k ++ [tv[k]]) := Lib.hid (List.take_succ_eq_append_getElem hkl)
        generalize tv[k] = t at *
        obtain ⟨s, A, ca, el⟩ := t
        simp only at *
        by_cases h1 : s.size ≤ m
        · have hb1 : decide ((m : Int) < (s.size : Int)) = false := by simp; omega
          have hb1' : decide (m < s.size) = false := by simp; omega
          by_cases h2 : el.length ≤ 12
          · have hb2 : decide ((12 : Int) < (el.length : Int)) = false := by simp; omega
            have hb2' : decide (12 < el.length) = false := by simp; omega
            have HG2 : Hid (∀ t ∈ tv.take (k + 1), t.coef.size ≤ m ∧ t.exps.length ≤ 12) := Lib.hid (by
              rw [HT0.out]
              intro l' hl'
              rcases List.mem_append.1 hl' with h | h
              · exact HI.out l' h
              · simp at h; subst h; exact ⟨h1, h2⟩)
            go_wp2
            go_round
            case rel => exact ⟨k + 1, by go_num, by omega, HG2⟩
            case measure => simp [intOf]; omega
          · have hb2 : decide ((12 : Int) < (el.length : Int)) = true := by simp; omega
            have hb2' : decide (12 < el.length) = true := by simp; omega
            obtain rfl : b = false := by
              cases b
              · rfl
              · exact absurd ((HV.out.1 rfl).2 _ HM.out).2 h2
            go_wp2
            go_ret
            exact ⟨rfl, HG.out ▸ hbA⟩
        · have hb1 : decide ((m : Int) < (s.size : Int)) = true := by simp; omega
          have hb1' : decide (m < s.size) = true := by simp; omega
          obtain rfl : b = false := by
            cases b
            · rfl
            · exact absurd ((HV.out.1 rfl).2 _ HM.out).1 h1
          go_wp2
          go_ret
          exact ⟨rfl, HG.out ▸ hbA⟩
      · obtain rfl : k = tv.length := by omega
        obtain rfl : b = true := HV.out.2 ⟨hl, by have := HI.out; rwa [List.take_length] at this⟩
        go_wp2
        go_ret
        exact ⟨rfl, HG.out ▸ hbA⟩
  · have hd : decide ((n : Int) < (tv.length : Int)) = true := by simp; omega
    have hd' : decide (n < tv.length) = true := by simp; omega
    obtain rfl : b = false := by
      cases b
      · rfl
      · exact absurd (HV.out.1 rfl).1 hl
    go_enter Tryz.func16, Tryz.ntmps16
    go_wp2
    go_ret
    exact ⟨rfl, hbA⟩
end Go.Proofs.Tg
end
section
/- The reference's order of monomials. -/
namespace Go.Proofs.Tg
open Go.RowKit Go.Gr Go.Mo
set_option maxHeartbeats 2000000
set_option maxRecDepth 100000
theorem rord_any (A B : Option Addr) (c d : Nat) (a b : List Int) (w : World) (hA : Ints w A a) (hB : Ints w B b) (hl : a.length = b.length) (hn : a.length ≤ 64) (ha : low20 a = true) (hb : low20 b = true) :
    Calls Tryz.prog 51 #[.slice A a.length c, .slice B b.length d] w fun e w' => e = .returned (.int .i64 (Mo.ord a b)) ∧ Dr w w' := by
  have HL := Lib.hid hl
  have HA := Lib.hid (low20_iff.1 ha)
  have HB := Lib.hid (low20_iff.1 hb)
  have hn2 : b.length ≤ 64 := by omega
  clear hl ha hb
  go_enter Tryz.func51, Tryz.ntmps51
  go_wp2
  go_loopw [5, 6, 7] (fun s t i wr => ∃ k : Nat, k ≤ a.length ∧ i = .int .i64 k ∧ ∃ y z : Int, s = .int .i64 y ∧ t = .int .i64 z ∧ 0 ≤ y ∧ y ≤ 1048576 * 64 ∧ 0 ≤ z ∧ z ≤ 1048576 * 64 ∧ Hid (y = (a.take k).sum ∧ z = (b.take k).sum) ∧ Dr w wr) (fun _ _ i _ => a.length - (intOf i).toNat)
  case atStart => exact ⟨0, Nat.zero_le _, rfl, 0, 0, rfl, rfl, by omega, by omega, by omega, by omega, Lib.hid ⟨rfl, rfl⟩, Dr.refl _⟩
  case round =>
    obtain ⟨k, hk, rfl, y, z, rfl, rfl, hy0, hy1, hz0, hz1, HZ, hdr⟩ := hrel
    by_cases hlt : k < a.length
    · have hlt2 : k < b.length := by have := HL.out; omega
      obtain ⟨ad, rfl, hc1⟩ := Ints.at (hA.keep hdr.below) hlt
      obtain ⟨bd, rfl, hc2⟩ := Ints.at (hB.keep hdr.below) hlt2
      have HS1 : Hid ((a.take (k + 1)).sum = y + a[k]) := Lib.hid (by rw [sum_take_succ a k hlt, ← HZ.out.1])
      have HS2 : Hid ((b.take (k + 1)).sum = z + b[k]) := Lib.hid (by rw [sum_take_succ b k hlt2, ← HZ.out.2])
      have hb1 := HA.out a[k] (List.getElem_mem _)
      have hb2 := HB.out b[k] (List.getElem_mem _)
      have hs1 := sum_bound a (k + 1) HA.out
      have hs2 := sum_bound b (k + 1) HB.out
      rw [HS1.out] at hs1
      rw [HS2.out] at hs2
      have hl1 : (a.take (k + 1)).length ≤ 64 := Nat.le_trans (List.length_take_le' _ _) hn
      have hl2 : (b.take (k + 1)).length ≤ 64 := Nat.le_trans (List.length_take_le' _ _) hn2
      obtain ⟨p1, p2⟩ := hb1
      obtain ⟨p3, p4⟩ := hb2
      have r1 : y + a[k] ≤ 1048576 * 64 := by omega
      have r2 : z + b[k] ≤ 1048576 * 64 := by omega
      clear hs1 hs2 hl1 hl2
      generalize a[k] = p at *
      generalize b[k] = q at *
      have q0 : (0 : Int) ≤ (k : Int) := by omega
      have q1 : (k : Int) < (a.length : Int) := by omega
      have q2 : (k : Int) < (b.length : Int) := by omega
      have q3 : ((k : Int)).toNat = k := by omega
      have q4 : IntKind.i64.wrap (y + p) = y + p := IntWalk.i64_in _ (by omega)
      have q5 : IntKind.i64.wrap (z + q) = z + q := IntWalk.i64_in _ (by omega)
      clear hA hB
      go_wp2
      go_quiet (fail)
      go_wp2
      go_roundw
      case rel => exact ⟨k + 1, by omega, by go_num, y + p, z + q, rfl, rfl, by omega, by omega, by omega, by omega, Lib.hid ⟨HS1.out.symm, HS2.out.symm⟩, hdr.drewN _⟩
      case measure => simp [intOf]; omega
    · obtain rfl : k = a.length := by omega
      have h1 : y = a.sum := by rw [HZ.out.1, List.take_length]
      have h2 : z = b.sum := by rw [HZ.out.2, HL.out, List.take_length]
      by_cases hyz : y = z
      · have hbb : (y != z) = false := by simp [hyz]
        have HO : Hid (Mo.ord a b = ordT a b a.length) := Lib.hid (by unfold Mo.ord; rw [if_pos (by rw [← h1, ← h2]; exact hyz)])
        clear h1 h2 hyz
        obtain ⟨wo, rfl⟩ : ∃ wo : World, wo = wr := ⟨_, rfl⟩
        go_wp2
        go_loopw [8] (fun i wr => ∃ z : Int, i = .int .i64 z ∧ -1 ≤ z ∧ z < a.length ∧ Hid (Mo.ord a b = ordT a b (z + 1).toNat) ∧ Dr w wr) (fun i _ => (intOf i + 1).toNat)
        case atStart => exact ⟨(a.length : Int) - 1, rfl, by omega, by omega, Lib.hid (by rw [HO.out]; congr 1; omega), hdr⟩
        case round =>
          clear hdr
          obtain ⟨z', rfl, hz2, hz3, HZ', hdr⟩ := hrel
          by_cases hneg : z' = -1
          · subst hneg
            have HF : Hid (Mo.ord a b = 0) := Lib.hid (by rw [HZ'.out]; rfl)
            go_wp2
            go_ret
            exact ⟨by rw [HF.out]; rfl, hdr⟩
          · obtain ⟨j, rfl⟩ : ∃ j : Nat, z' = j := ⟨z'.toNat, by omega⟩
            have hlt1 : j < a.length := by omega
            have hlt2 : j < b.length := by have := HL.out; omega
            obtain ⟨ad, rfl, hc1⟩ := Ints.at (hA.keep hdr.below) hlt1
            obtain ⟨bd, rfl, hc2⟩ := Ints.at (hB.keep hdr.below) hlt2
            have HX : Hid (Mo.ord a b = if a[j] = b[j] then ordT a b j else if b[j] < a[j] then -1 else 1) := Lib.hid (by
              rw [HZ'.out, show ((j : Int) + 1).toNat = j + 1 by omega, ordT]
              simp [hlt1, hlt2])
            have q0 : (0 : Int) ≤ (j : Int) := by omega
            have q1 : (j : Int) < (a.length : Int) := by omega
            have q2 : (j : Int) < (b.length : Int) := by omega
            have q3 : ((j : Int)).toNat = j := by omega
            clear hneg hA hB
            generalize a[j] = p at *
            generalize b[j] = q at *
            by_cases hpq : p = q
            · have hb2 : (p != q) = false := by simp [hpq]
              have HX2 : Hid (Mo.ord a b = ordT a b j) := Lib.hid (by rw [HX.out, if_pos hpq])
              clear hpq HX
              go_wp2
              go_quiet (fail)
              go_wp2
              go_roundw
              case rel => exact ⟨(j : Int) - 1, rfl, by omega, by omega, Lib.hid (by rw [HX2.out]; congr 1; omega), hdr.drewN _⟩
              case measure => simp [intOf]
            · have hb2 : (p != q) = true := by simp [hpq]
              have HX2 : Hid (Mo.ord a b = if q < p then -1 else 1) := Lib.hid (by rw [HX.out, if_neg hpq])
              clear hpq HX
              go_wp2
              go_quiet (fail)
              have k1 : (wr.drewN nq).cell? (ad.add j) = some (.int .i64 p) := hc1
              have k2 : (wr.drewN nq).cell? (bd.add j) = some (.int .i64 q) := hc2
              have hdr2 := hdr.drewN nq
              generalize wr.drewN nq = W at *
              by_cases hqp : q < p
              · have hb3 : decide (q < p) = true := by simpa using hqp
                have HX3 : Hid (Mo.ord a b = -1) := Lib.hid (by rw [HX2.out, if_pos hqp])
                go_wp2
                go_quiet (fail)
                go_wp2
                go_ret
                exact ⟨by rw [HX3.out]; rfl, hdr2.drewN _⟩
              · have hb3 : decide (q < p) = false := by simpa using hqp
                have HX3 : Hid (Mo.ord a b = 1) := Lib.hid (by rw [HX2.out, if_neg hqp])
                go_wp2
                go_quiet (fail)
                go_wp2
                go_ret
                exact ⟨by rw [HX3.out]; rfl, hdr2.drewN _⟩
      · have hbb : (y != z) = true := by simp [hyz]
        by_cases hlt3 : y < z
        · have hb3 : decide (y < z) = true := by simpa using hlt3
          have HO : Hid (Mo.ord a b = -1) := Lib.hid (by unfold Mo.ord; rw [if_neg (by rw [← h1, ← h2]; exact hyz), if_pos (by rw [← h1, ← h2]; exact hlt3)])
          clear h1 h2 hyz
          go_wp2
          go_ret
          exact ⟨by rw [HO.out]; rfl, hdr⟩
        · have hb3 : decide (y < z) = false := by simpa using hlt3
          have HO : Hid (Mo.ord a b = 1) := Lib.hid (by unfold Mo.ord; rw [if_neg (by rw [← h1, ← h2]; exact hyz), if_neg (by rw [← h1, ← h2]; exact hlt3)])
          clear h1 h2 hyz
          go_wp2
          go_ret
          exact ⟨by rw [HO.out]; rfl, hdr⟩
end Go.Proofs.Tg
end
section
/- The harness's numbers: one digit divided by one. -/
namespace Go.Proofs.Tg
open Go.RowKit Go.Gr
set_option maxHeartbeats 1000000
set_option maxRecDepth 100000
theorem make_digs1 (w : World) : (Instr.makeSlice 44 (.int .i64 1) (.int .i64 1)).run Tryz.prog w = .ok (.slice (some ⟨w.heap.size, 0, none⟩) 1 1) (w.alloc (.cells #[.int .u32 0] 117)) := by
  have e : madeCells #[Value.int .u32 0] 1 = #[.int .u32 0] := by kernel_rfl
  have := make_digs 1 (by omega) w
  rw [e] at this
  exact this
theorem sdiv_one (A : Option Addr) (c v d : Nat) (w : World) (hA : Digs w A [v]) (hv : v < 4294967296) (hd : d < 4294967296) (hd0 : 0 < d) :
    Calls Tryz.prog 85 #[.slice A 1 c, .int .u32 (d : Nat)] w fun e w' => e = .returned (.tuple #[.slice (some ⟨w.heap.size, 0, none⟩) (tzl [v / d] 1) 1, .int .u32 ((v % d : Nat))]) ∧ Blk w' w.heap.size 117 #[.int .u32 (v / d : Nat)] ∧ Below w.heap.size w w' := by
  have hmk := fun W => make_digs1 W
  obtain ⟨ad, rfl, hc⟩ := Digs.at hA (k := 0) (by simp)
  have hc : w.cell? ad = some (.int .u32 (v : Nat)) := by simpa [Addr.add] using hc
  have hlt : ad.block < w.heap.size := World.block_lt_of_cell? w _ hc
  have ho : bits BinOp.or IntKind.u64 0 (v : Int) = (v : Int) := by
    simp [bits]
    have e : (2 : Int) ^ IntKind.u64.bits = 18446744073709551616 := by decide
    rw [e, Int.emod_eq_of_lt (by omega) (by omega)]
    exact wrap_nat v (by omega)
  have hle : v / d ≤ v := Nat.div_le_self _ _
  have hml : v % d < d := Nat.mod_lt _ hd0
  obtain ⟨q, hq⟩ : ∃ q, v / d = q := ⟨_, rfl⟩
  obtain ⟨r, hr⟩ : ∃ r, v % d = r := ⟨_, rfl⟩
  have hq1 : (v : Int) / (d : Int) = (q : Int) := by rw [← hq]; simp
  have hr1 : (v : Int) % (d : Int) = (r : Int) := by rw [← hr]; simp
  rw [hq, hr]
  rw [hq] at hle
  rw [hr] at hml
  clear hq hr
  have hq2 : (q : Int) % 4294967296 = (q : Int) := Int.emod_eq_of_lt (by omega) (by omega)
  have hr2 : (r : Int) % 4294967296 = (r : Int) := Int.emod_eq_of_lt (by omega) (by omega)
  have hq3 := wrap_nat q (by omega)
  have hB2 := Blk.new w 117 #[.int .u32 (q : Nat)]
  have hbA : Below w.heap.size w (w.alloc (.cells #[.int .u32 (q : Nat)] 117)) := (Below.refl _ _).alloc (Nat.le_refl _) _
  have hD : Digs (w.alloc (.cells #[.int .u32 (q : Nat)] 117)) (some ⟨w.heap.size, 0, none⟩) [q] := digs_of hB2
  have HT := Lib.hid (trim_any (some ⟨w.heap.size, 0, none⟩) 1 [q] _ hD (by simp) (by simp))
  have HB2 := Lib.hid hB2
  clear hD hB2
  go_enter Tryz.func85, Tryz.ntmps85
  go_wp2
  refine wp_loop_rounds 2 ?_
  rw [rounds_succ]
  go_wp2_with (fail)
  rw [rounds_succ]
  go_wp2_with (fail)
  refine HT.out.mono ?_
  rintro e _ ⟨rfl, rfl⟩
  go_wp2
  go_ret2
  exact ⟨rfl, HB2.out, hbA⟩
end Go.Proofs.Tg
end
