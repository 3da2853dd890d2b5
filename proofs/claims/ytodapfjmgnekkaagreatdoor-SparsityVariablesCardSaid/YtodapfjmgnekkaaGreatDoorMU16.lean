/- Parts of the proof: WB3, XK5, NU1, NU2, NU3, NU4, NU5, NU6, NU7, NU12, NU8, NU9. -/
import Derived.Deep.CutRange
import Derived.ChangeKeysEq
import Derived.Laws.Rows
import Derived.Laws.Tables
import Derived.Deep.Cut
import Derived.Test.YtodapfjmgnekkaaGreatDoorMU0
import Derived.Test.YtodapfjmgnekkaaGreatDoorMU1
import Derived.Test.YtodapfjmgnekkaaGreatDoorMU4
import Derived.Test.YtodapfjmgnekkaaGreatDoorMU12
import Derived.Test.YtodapfjmgnekkaaGreatDoorMU13
import Derived.Test.YtodapfjmgnekkaaGreatDoorMU14
import Derived.Test.YtodapfjmgnekkaaGreatDoorMU15
section
/- Walks: the sign symmetries of polynomials. -/
namespace Go.Proofs.Tg
open Go.RowKit Go.Gr Go.Ev Go.Mo Go.Qn
set_option maxHeartbeats 4000000
set_option maxRecDepth 100000
/-- The exponents of all terms. -/
def rowsOf (ps : List PVal) : List (List Int) := ps.flatMap fun p => p.tv.map TV.exps
/-- What the search for sign symmetries returns. -/
def RetSigns (ps : List PVal) (w : World) (e : Ending) (w' : World) : Prop :=
  Below w.heap.size w w' ∧
  ((¬ (∀ p ∈ ps, p.ok) ∧ e = .returned (.tuple #[.slice none 0 0, .int .i64 1])) ∨
   ((∀ p ∈ ps, p.ok) ∧ (ps = [] ∨ ∃ p ∈ ps, p.vars ≠ (ps.getD 0 ⟨0, none, 0, []⟩).vars) ∧ e = .returned (.tuple #[.slice none 0 0, .int .i64 4])) ∨
   ((∀ p ∈ ps, p.ok) ∧ ∃ n : Nat, n ≤ 6 ∧ ps ≠ [] ∧ (∀ p ∈ ps, p.vars = n) ∧ ∃ A c us r q, EInv (V (rowsOf ps) n) n us r q ∧ us.length ≤ 64 ∧ e = .returned (.tuple #[.slice A ((us.take r).map (unp · n)).length c, .int .i64 0]) ∧ Lists w' A ((us.take r).map (unp · n))))
def occA (f : Nat → Bool) : Array Value := ((List.range 64).map fun i => Value.bool (f i)).toArray
theorem occA_size (f : Nat → Bool) : (occA f).size = 64 := by simp [occA]
theorem occA_at (f : Nat → Bool) {i : Nat} (hi : i < 64) : (occA f)[i]? = some (.bool (f i)) := by simp [occA, hi]
theorem occA_set (f : Nat → Bool) (j : Nat) : (occA f).setIfInBounds j (.bool true) = occA (fun i => f i || (j == i)) := by
  apply Array.ext
  · simp [occA]
  · intro i h1 h2
    simp only [occA, List.getElem_toArray, List.getElem_map, List.getElem_range]
    by_cases e : j = i
    · subst e; simp
    · simp [e]
theorem pvalid_lit (p : PVal) (w : World) (hA : TermsAt w p.adr p.tv) (hs : p.small) (hT : Tab w) (ok : Bool) (hok : ok = true ↔ p.ok) :
    Calls Tryz.prog 54 #[.agg #[.int .i64 p.vars, .slice p.adr p.tv.length p.cap]] w fun e w' => e = .returned (.bool ok) ∧ Below w.heap.size w w' :=
  pvalid_any p.vars p.adr p.cap p.tv ok w hA hs.1 hs.2 hok hT
theorem ok_term {p : PVal} (h : p.ok) {t : TV} (ht : t ∈ p.tv) : (t.exps.length : Int) = p.vars ∧ ∀ x ∈ t.exps, 0 ≤ x ∧ x ≤ 1048576 := by
  obtain ⟨i, hi, rfl⟩ := List.mem_iff_getElem.1 ht
  have := (h.2.1.2.2 i (by simpa using hi) (by simpa using hi)).1
  rw [List.getElem_map, termOk_iff] at this
  exact ⟨this.2.1, low20_iff.1 this.2.2⟩
theorem rowsOf_succ (ps : List PVal) (k : Nat) (hk : k < ps.length) : rowsOf (ps.take (k + 1)) = rowsOf (ps.take k) ++ ps[k].tv.map TV.exps := by
  unfold rowsOf
  rw [List.take_succ_eq_append_getElem hk, List.flatMap_append]; simp
/-- Lists that a call has made: block G j holds list j. -/
structure Made (G : Nat → Nat) (k n : Nat) (ls : Nat → List Int) (w : World) : Prop where
  blk : ∀ j, j < k → Blk w (G j) 3 (iarr (ls j))
  len : ∀ j, j < k → (ls j).length = n
theorem Made.lists {G : Nat → Nat} {k n base c : Nat} {ls : Nat → List Int} {w : World} {A : Option Addr} (h : Made G k n ls w) (ho : w.ownsRow base 36 1 (.slice A k c) k ((List.range k).map fun j => .slice (some ⟨G j, 0, none⟩) n n)) :
    Lists w A ((List.range k).map ls) := by
  refine ⟨fun j => (some ⟨G j, 0, none⟩, n), ?_, fun i hi => ?_⟩
  · have := Sl.own ho
    have e : ((List.range ((List.range k).map ls).length).map fun i => Value.slice (some ⟨G i, 0, none⟩) (((List.range k).map ls).getD i []).length n) = (List.range k).map fun j => .slice (some ⟨G j, 0, none⟩) n n := by
      rw [List.length_map, List.length_range]
      refine List.map_congr_left fun i hi => ?_
      have hi := List.mem_range.1 hi
      simp [hi, h.len i hi]
    rw [show ((List.range k).map ls).length = k by simp] at e ⊢
    rw [e]
    exact this
  · have hi' : i < k := by simpa using hi
    have e : ((List.range k).map ls).getD i [] = ls i := by simp [hi']
    rw [e]
    have hB := h.blk i hi'
    refine ⟨by simp, fun _ => ⟨_, rfl, hB.lt, fun j u hu => ?_⟩⟩
    rw [add_lit, Nat.zero_add, hB.cell j]
    simpa [iarr] using hu
theorem VecAt.keep {W0 w w' : World} {base g cap : Nat} {us : List Nat} (h : VecAt W0 base g cap us w) (hb : Below w.heap.size w w') : VecAt W0 base g cap us w' :=
  ⟨own_below h.own hb (Nat.le_refl _), below_all h.below hb⟩
theorem row_info : (Tryz.prog.info? 36).map (fun i => (i.zero, i.size, i.bytes)) = some (some (.slice none 0 0), 1, 24) := by kernel_rfl
theorem wrap_pow2 (i : Nat) (hi : i ≤ 6) : wrap64 ((2 : Int) ^ i) = ((2 ^ i : Nat) : Int) ∧ 2 ^ i ≤ 64 := by
  have h6 : 2 ^ i ≤ 2 ^ 6 := Nat.pow_le_pow_right (by omega) hi
  have e : (2 : Int) ^ i = ((2 ^ i : Nat) : Int) := by simp
  exact ⟨by rw [e, wrap64_nat _ (by omega)], h6⟩
end Go.Proofs.Tg
end
section
/- The reference's polynomials in memory, and its Rows. -/
namespace Go.Proofs.Tg
open Go.RowKit Go.Gr Go.Ev Go.Mo
set_option maxHeartbeats 4000000
set_option maxRecDepth 100000
/-- A term of the reference: the coefficient's four cells, the exponents. -/
structure RT where
  c0 : Value
  c1 : Value
  c2 : Value
  c3 : Value
  adr : Option Addr
  cap : Nat
  exps : List Int
def RT.sl (t : RT) : Value := .slice t.adr t.exps.length t.cap
def RT.cells (t : RT) : List Value := [t.c0, t.c1, t.c2, t.c3, t.sl]
structure RTermsAt (w : World) (T : Option Addr) (ts : List RT) : Prop where
  sl : Sl w T ts.length 5 (ts.flatMap RT.cells)
  ints : ∀ t ∈ ts, Ints w t.adr t.exps
theorem RTermsAt.keep {w w' : World} {T : Option Addr} {ts : List RT} (h : RTermsAt w T ts) (hb : Below w.heap.size w w') : RTermsAt w' T ts :=
  ⟨h.sl.keep hb, fun t ht => (h.ints t ht).keep hb⟩
theorem off_four (a : Addr) (k : Nat) : (⟨(a.add k).block, (a.add k).off + 4, none⟩ : Addr) = a.add (k + 4) := by
  rw [← add_add]; simp [Addr.add]
theorem RTermsAt.at {w : World} {T : Option Addr} {ts : List RT} (h : RTermsAt w T ts) {k : Nat} (hk : k < ts.length) :
    ∃ ad, T = some ad ∧ w.cell? ⟨(ad.add (k * 5)).block, (ad.add (k * 5)).off + 4, none⟩ = some (.slice ts[k].adr ts[k].exps.length ts[k].cap) ∧ Ints w ts[k].adr ts[k].exps := by
  obtain ⟨ad, rfl, _, ha⟩ := h.sl.lies (by omega)
  refine ⟨ad, rfl, (congrArg w.cell? (off_four ad (k * 5))).trans (ha _ _ ?_), h.ints _ (List.getElem_mem _)⟩
  exact flat_get RT.cells 5 (fun _ => rfl) ts k 4 hk (by omega)
structure RP where
  vars : Int
  adr : Option Addr
  cap : Nat
  ts : List RT
def RP.cells (p : RP) : List Value := [.int .i64 p.vars, .slice p.adr p.ts.length p.cap]
structure RPolysAt (w : World) (L : Option Addr) (ps : List RP) : Prop where
  sl : Sl w L ps.length 2 (ps.flatMap RP.cells)
  tms : ∀ p ∈ ps, RTermsAt w p.adr p.ts
theorem RPolysAt.keep {w w' : World} {L : Option Addr} {ps : List RP} (h : RPolysAt w L ps) (hb : Below w.heap.size w w') : RPolysAt w' L ps :=
  ⟨h.sl.keep hb, fun p hp => (h.tms p hp).keep hb⟩
theorem RPolysAt.at {w : World} {L : Option Addr} {ps : List RP} (h : RPolysAt w L ps) {k : Nat} (hk : k < ps.length) :
    ∃ ad, L = some ad ∧ w.cell? (ad.add (k * 2)) = some (.int .i64 ps[k].vars) ∧ w.cell? ⟨(ad.add (k * 2)).block, (ad.add (k * 2)).off + 1, none⟩ = some (.slice ps[k].adr ps[k].ts.length ps[k].cap) ∧ RTermsAt w ps[k].adr ps[k].ts := by
  obtain ⟨ad, rfl, _, ha⟩ := h.sl.lies (by omega)
  refine ⟨ad, rfl, ha _ _ ?_, (congrArg w.cell? (off_one ad (k * 2))).trans (ha _ _ ?_), h.tms _ (List.getElem_mem _)⟩
  · have := flat_get RP.cells 2 (fun _ => rfl) ps k 0 hk (by omega)
    rw [Nat.add_zero] at this
    exact this
  · exact flat_get RP.cells 2 (fun _ => rfl) ps k 1 hk (by omega)
def rterms (ps : List RP) : List RT := ps.flatMap RP.ts
theorem rterms_succ (ps : List RP) (k : Nat) (hk : k < ps.length) : rterms (ps.take (k + 1)) = rterms (ps.take k) ++ ps[k].ts := by
  unfold rterms
  rw [List.take_succ_eq_append_getElem hk, List.flatMap_append]; simp
theorem rterms_le (ps : List RP) (k : Nat) : (rterms (ps.take k)).length ≤ (rterms ps).length := by
  have : rterms ps = rterms (ps.take k) ++ rterms (ps.drop k) := by unfold rterms; rw [← List.flatMap_append, List.take_append_drop]
  rw [this, List.length_append]; omega
/-- Slices that lie in memory, collected in a row of the call's own. -/
theorem lists_of {w : World} {base c : Nat} {A : Option Addr} {ts : List RT} (ho : w.ownsRow base 36 1 (.slice A ts.length c) ts.length (ts.map RT.sl)) (hi : ∀ t ∈ ts, Ints w t.adr t.exps) : Lists w A (ts.map RT.exps) := by
  refine ⟨fun j => ((ts.map fun t => (t.adr, t.cap)).getD j (none, 0)), ?_, fun i hi' => ?_⟩
  · have := Sl.own ho
    have e : ((List.range (ts.map RT.exps).length).map fun i => Value.slice ((ts.map fun t => (t.adr, t.cap)).getD i (none, 0)).1 ((ts.map RT.exps).getD i []).length ((ts.map fun t => (t.adr, t.cap)).getD i (none, 0)).2) = ts.map RT.sl := by
      refine List.ext_getElem (by simp) fun j h1 h2 => ?_
      have hj : j < ts.length := by simpa using h2
      simp [hj, RT.sl]
    rw [e, List.length_map]
    exact this
  · have hj : i < ts.length := by simpa using hi'
    have := hi ts[i] (List.getElem_mem _)
    simpa [hj] using this
end Go.Proofs.Tg
end
section
/- The harness's numbers: trim. -/
namespace Go.Proofs.Tg
open Go.RowKit Go.Gr
set_option maxHeartbeats 4000000
set_option maxRecDepth 100000
def vd (x : Nat) : Value := .int .u32 (x : Nat)
/-- A slice of digits, which lies in a block of digits. -/
structure Digs (w : World) (A : Option Addr) (xs : List Nat) : Prop where
  sl : Sl w A xs.length 1 (xs.map vd)
  u32 : 0 < xs.length → ∀ ad, A = some ad → ∃ cs fz, w.heap[ad.block]? = some (.cells cs 141 fz)
theorem Digs.nil (w : World) (A : Option Addr) : Digs w A [] := ⟨Sl.nil _ _ _, fun h => absurd h (by simp)⟩
theorem Digs.keep {w w' : World} {A : Option Addr} {xs : List Nat} (h : Digs w A xs) (hb : Below w.heap.size w w') : Digs w' A xs :=
  ⟨h.sl.keep hb, fun hp ad e => by
    obtain ⟨cs, fz, hc⟩ := h.u32 hp ad e
    exact ⟨cs, fz, (hb.block _ (Array.getElem?_eq_some_iff.1 hc).1).trans hc⟩⟩
theorem Digs.at {w : World} {A : Option Addr} {xs : List Nat} (h : Digs w A xs) {k : Nat} (hk : k < xs.length) : ∃ ad, A = some ad ∧ w.cell? (ad.add k) = some (.int .u32 (xs[k] : Nat)) := by
  obtain ⟨ad, rfl, hc⟩ := Sl.at1 h.sl hk
  exact ⟨ad, rfl, by simpa [vd] using hc⟩
theorem Digs.take {w : World} {A : Option Addr} {xs : List Nat} (h : Digs w A xs) (k : Nat) (hk : k ≤ xs.length) : Digs w A (xs.take k) := by
  have hl : (xs.take k).length = k := by rw [List.length_take]; omega
  refine ⟨⟨by simp, fun hp => ?_⟩, fun hp => h.u32 (by omega)⟩
  rw [hl] at hp
  obtain ⟨ad, rfl, hlt, ha⟩ := h.sl.lies (by omega)
  refine ⟨ad, rfl, hlt, fun j u hu => ha j u ?_⟩
  have hj := (List.getElem?_eq_some_iff.1 hu).1
  rw [List.length_map, hl] at hj
  rw [List.getElem?_map] at hu ⊢
  rwa [List.getElem?_take_of_lt hj] at hu
/-- The first cells of a block of digits. -/
theorem digs_pre {w : World} {g : Nat} {cs : Array Value} {xs : List Nat} (h : Blk w g 141 cs) (hx : ∀ (j : Nat) u, (xs.map vd)[j]? = some u → cs[j]? = some u) : Digs w (some ⟨g, 0, none⟩) xs :=
  ⟨⟨by simp, fun _ => ⟨_, rfl, h.lt, fun j u hu => by rw [add_lit, Nat.zero_add, h.cell j]; exact hx j u hu⟩⟩, fun _ ad e => by
    injection e with e
    subst e
    exact ⟨cs, (0, 0), h⟩⟩
theorem digs_of {w : World} {g : Nat} {xs : List Nat} (h : Blk w g 141 (xs.map vd).toArray) : Digs w (some ⟨g, 0, none⟩) xs := digs_pre h (fun j u hu => by simpa using hu)
theorem digs_own {w : World} {b n c : Nat} {A : Option Addr} {xs : List Nat} (h : w.ownsRow b 141 1 (.slice A n c) n (xs.map vd)) (hn : n = xs.length) : Digs w A xs := by
  subst hn
  refine ⟨Sl.own h, fun hp ad e => ?_⟩
  rcases h.2 with ⟨h1, h2⟩ | ⟨g, cap, cur, h1, _, hg, _⟩
  · injection h1 with h1
    rw [e] at h1; cases h1
  · injection h1 with h1
    rw [e] at h1
    injection h1 with h1
    subst h1
    exact ⟨cur, (0, 0), hg⟩
theorem Digs.off {w : World} {A : Option Addr} {g : Nat} {t : TypeId} {xs : List Nat} {cs : Array Value} (h : Digs w A xs) (_ : 0 < 1) (B : Blk w g t cs) (hd : ∀ v ∈ cs.toList, v ∉ xs.map vd) : Off A xs.length g := Sl.off h.sl (by omega) B hd
theorem Digs.far {w : World} {A : Option Addr} {g : Nat} {xs : List Nat} (h : Digs w A xs) (ho : Off A xs.length g) (i : Nat) (u : Value) : Digs (w.setCell ⟨g, i, none⟩ u) A xs :=
  ⟨Sl.far h.sl ho i u, fun hp ad e => by
    obtain ⟨cs, fz, hc⟩ := h.u32 hp ad e
    refine ⟨cs, fz, ?_⟩
    rw [Below.heap_setCell _ _ _ _ (ho hp ad e)]
    exact hc⟩
theorem Digs.put {w : World} {A : Option Addr} {xs : List Nat} (h : Digs w A xs) {p : Addr} {v : Value} (hp : w.cell? p = some v) (hv : v ∉ xs.map vd) (u : Value) : Digs (w.setCell p u) A xs :=
  ⟨Sl.put h.sl hp hv u, fun hl ad e => by
    obtain ⟨cs, fz, hc⟩ := h.u32 hl ad e
    by_cases hg : ad.block = p.block
    · refine ⟨if p.spot.isSome then cs else cs.setIfInBounds p.off u, fz, ?_⟩
      simp [World.setCell, Array.getElem?_modify, ← hg, hc]
    · exact ⟨cs, fz, by rw [Below.heap_setCell _ _ _ _ hg]; exact hc⟩⟩
/-- A block whose elements are of another type. -/
theorem Digs.off_ty {w : World} {A : Option Addr} {g : Nat} {t : TypeId} {xs : List Nat} {cs : Array Value} (h : Digs w A xs) (B : Blk w g t cs) (hne : t ≠ 141) : Off A xs.length g := by
  intro hp ad e hg
  obtain ⟨cs', fz, hc⟩ := h.u32 hp ad e
  rw [hg] at hc
  unfold Blk at B
  rw [B] at hc
  injection hc with hc
  injection hc with _ ht
  exact hne ht
/-- A row of the call's own that grows, of another type. -/
theorem Digs.grown {w w' : World} {A : Option Addr} {ys : List Value} {zs : List Nat} {b sz n : Nat} {t : TypeId} {v : Value} (h : Digs w A zs) (ho : w.ownsRow b t sz v n ys) (hg : w.grownBy w' v.ownBlock) (hne : t ≠ 141) : Digs w' A zs := by
  have key : 0 < zs.length → ∀ ad, A = some ad → some ad.block ≠ v.ownBlock := by
    intro hp ad e he
    obtain ⟨cs', fz, hc⟩ := h.u32 hp ad e
    rcases ho.2 with ⟨rfl, _⟩ | ⟨g, cap, cur, rfl, _, hg', _⟩
    · simp [Value.ownBlock] at he
    · have : ad.block = g := by simpa [Value.ownBlock] using he
      rw [this, hg'] at hc
      injection hc with hc
      injection hc with _ ht
      exact hne ht
  refine ⟨⟨h.sl.len, fun hp => ?_⟩, fun hp ad e => ?_⟩
  · obtain ⟨ad, e, hlt, ha⟩ := h.sl.lies hp
    refine ⟨ad, e, Nat.lt_of_lt_of_le hlt hg.size, fun j u hu => hg.cell (ha j u hu) (by rw [add_block]; exact key hp ad e)⟩
  · obtain ⟨cs, fz, hc⟩ := h.u32 hp ad e
    exact ⟨cs, fz, (hg.block _ (Array.getElem?_eq_some_iff.1 hc).1 (key hp ad e)).trans hc⟩
/-- How many digits are left of the first k when the leading zeros are struck. -/
def tzl (xs : List Nat) : Nat → Nat
  | 0 => 0
  | k + 1 => if xs.getD k 0 = 0 then tzl xs k else k + 1
theorem tzl_le (xs : List Nat) : ∀ k, tzl xs k ≤ k
  | 0 => Nat.le_refl _
  | k + 1 => by
    unfold tzl
    have := tzl_le xs k
    split <;> omega
theorem trim_any (A : Option Addr) (c : Nat) (xs : List Nat) (w : World) (hA : Digs w A xs) (hn : xs.length ≤ 1000) (hc : xs.length ≤ c) :
    Calls Tryz.prog 86 #[.slice A xs.length c] w fun e w' => e = .returned (.slice A (tzl xs xs.length) c) ∧ w = w' := by
  obtain ⟨r, hr⟩ : ∃ r, tzl xs xs.length = r := ⟨_, rfl⟩
  rw [hr]
  have HR : Hid (tzl xs xs.length = r) := Lib.hid hr
  clear hr
  go_enter Tryz.func86, Tryz.ntmps86
  go_wp2
  go_loop [0] (fun s0 => ∃ k : Nat, s0 = .slice A k c ∧ k ≤ xs.length ∧ Hid (tzl xs k = r)) (fun s0 => match s0 with | .slice _ k _ => k | _ => 0)
  case atStart => exact ⟨xs.length, rfl, Nat.le_refl _, HR⟩
  case round =>
    obtain ⟨k, rfl, hk, HK⟩ := hrel
    cases k with
    | zero =>
      obtain rfl : r = 0 := HK.out.symm
      go_wp2
      go_ret
      exact ⟨rfl, rfl⟩
    | succ k =>
      obtain ⟨ad, rfl, hck⟩ := Digs.at hA (k := k) (by omega)
      have HX : Hid (xs.getD k 0 = xs[k]) := Lib.hid (by simp [show k < xs.length by omega])
      generalize xs[k] = x at hck HX
      by_cases hx : x = 0
      · subst hx
        have HK2 : Hid (tzl xs k = r) := Lib.hid (by have := HK.out; unfold tzl at this; rwa [if_pos HX.out] at this)
        go_wp2
        go_round
        case rel => exact ⟨k, rfl, by omega, HK2⟩
        case measure => simp
      · have hb : ((x : Int) == 0) = false := by simp [hx]
        have hb' : (x == 0) = false := by simp [hx]
        obtain rfl : r = k + 1 := by have := HK.out; unfold tzl at this; rw [if_neg (by rw [HX.out]; exact hx)] at this; exact this.symm
        go_wp2
        go_ret
        exact ⟨rfl, rfl⟩
theorem make1_any (b : Bool) (A : Option Addr) (n c : Nat) (w : World) (v : Bool) (hv : (b && decide (0 < n)) = v) (hn : n ≤ 1000000) :
    Calls Tryz.prog 85 #[.bool b, .slice A n c] w fun e w' => e = .returned (.agg #[.bool v, .slice A n c]) ∧ Below w.heap.size w w' := by
  have hbA : Below w.heap.size w (w.alloc (.cells #[.bool v, .slice A n c] 53)) := (Below.refl _ _).alloc (Nat.le_refl _) _
  have hB := Blk.new w 53 #[.bool v, .slice A n c]
  cases b with
  | false =>
    obtain rfl : v = false := by rw [← hv]; rfl
    obtain ⟨a0, a1, _, _⟩ := hB.two
    go_enter Tryz.func85, Tryz.ntmps85
    go_wp2
    exact bodyPost_ret (v := .agg #[.bool false, .slice A n c]) (by simp [results, Tryz.results85, go_sem, a0, a1]) rfl ⟨rfl, hbA⟩
  | true =>
    obtain rfl : decide (0 < n) = v := by rw [← hv]; rfl
    obtain ⟨a0, a1, _, _⟩ := hB.two
    by_cases h0 : 0 < n
    · have hd : decide ((0 : Int) < (n : Int)) = true := by simp; omega
      have hd' : decide (0 < n) = true := by simp; omega
      rw [hd'] at a0 a1 hbA ⊢
      clear hv hB
      go_enter Tryz.func85, Tryz.ntmps85
      go_wp2
      exact bodyPost_ret (v := .agg #[.bool true, .slice A n c]) (by simp [results, Tryz.results85, go_sem, a0, a1]) rfl ⟨rfl, hbA⟩
    · have hd : decide ((0 : Int) < (n : Int)) = false := by simp; omega
      have hd' : decide (0 < n) = false := by simp; omega
      rw [hd'] at a0 a1 hbA ⊢
      clear hv hB
      go_enter Tryz.func85, Tryz.ntmps85
      go_wp2
      exact bodyPost_ret (v := .agg #[.bool false, .slice A n c]) (by simp [results, Tryz.results85, go_sem, a0, a1]) rfl ⟨rfl, hbA⟩
theorem sign_any (b : Bool) (A : Option Addr) (n c : Nat) (w : World) (hn : n ≤ 1000000) (s : Int) (hs : (if b = true then -1 else if n = 0 then 0 else 1) = s) :
    Calls Tryz.prog 107 #[.agg #[.bool b, .slice A n c]] w fun e w' => e = .returned (.int .i64 s) ∧ Below w.heap.size w w' := by
  have hbA : Below w.heap.size w (w.alloc (.cells #[.bool b, .slice A n c] 53)) := (Below.refl _ _).alloc (Nat.le_refl _) _
  cases b with
  | true =>
    obtain rfl : s = -1 := by rw [← hs]; rfl
    clear hs
    go_enter Tryz.func107, Tryz.ntmps107
    go_wp2
    go_ret
    exact ⟨rfl, hbA⟩
  | false =>
    by_cases h0 : n = 0
    · subst h0
      obtain rfl : s = 0 := by rw [← hs]; rfl
      clear hs
      go_enter Tryz.func107, Tryz.ntmps107
      go_wp2
      go_ret
      exact ⟨rfl, hbA⟩
    · obtain rfl : s = 1 := by rw [← hs, if_neg (by simp), if_neg h0]
      have hz : ((n : Int) == 0) = false := beq_eq_false_iff_ne.2 (by omega)
      have hz' : (n == 0) = false := beq_eq_false_iff_ne.2 h0
      clear h0 hs
      go_enter Tryz.func107, Tryz.ntmps107
      go_wp2
      go_ret
      exact ⟨rfl, hbA⟩
end Go.Proofs.Tg
end
section
/- The harness's numbers: the sign of a fraction. -/
namespace Go.Proofs.Tg
open Go.RowKit Go.Gr
set_option maxHeartbeats 1000000
set_option maxRecDepth 100000
theorem rsign_any (b b2 : Bool) (A A2 : Option Addr) (n c n2 c2 : Nat) (w : World) (hn : n ≤ 1000000) (s : Int) (hs : (if b = true then -1 else if n = 0 then 0 else 1) = s) :
    Calls Tryz.prog 77 #[.agg #[.bool b, .slice A n c, .bool b2, .slice A2 n2 c2]] w fun e w' => e = .returned (.int .i64 s) ∧ Below w.heap.size w w' := by
  have hbA : Below w.heap.size w (w.alloc (.cells #[.bool b, .slice A n c, .bool b2, .slice A2 n2 c2] 55)) := (Below.refl _ _).alloc (Nat.le_refl _) _
  have HS := Lib.hid (fun W => sign_any b A n c W hn s hs)
  clear hs
  go_enter Tryz.func77, Tryz.ntmps77
  go_wp2_with (fail)
  refine (HS.out _).mono ?_
  rintro e w2 ⟨rfl, hb2⟩
  go_wp2
  go_ret
  exact ⟨rfl, below_all hbA hb2⟩
/-- The product with an empty number is empty. -/
theorem mul_nil (B : Option Addr) (c m d : Nat) (A : Option Addr) (w : World) :
    Calls Tryz.prog 109 #[.slice A 0 c, .slice B m d] w fun e w' => e = .returned (.slice none 0 0) ∧ w = w' := by
  go_enter Tryz.func109, Tryz.ntmps109
  go_wp2
  go_ret
  exact ⟨rfl, rfl⟩
end Go.Proofs.Tg
end
section
/- The harness's numbers: the sum of nothing and one digit. -/
namespace Go.Proofs.Tg
open Go.RowKit Go.Gr
set_option maxHeartbeats 1000000
set_option maxRecDepth 100000
theorem dig_info : (Tryz.prog.info? 141).map (fun i => (i.zero, i.size, i.bytes)) = some (some (.int .u32 0), 1, 4) := by kernel_rfl
theorem make_digs (n : Nat) (hn : n ≤ 1000000) (w : World) : (Instr.makeSlice 51 (.int .i64 (n : Int)) (.int .i64 (n : Int))).run Tryz.prog w = .ok (.slice (some ⟨w.heap.size, 0, none⟩) n n) (w.alloc (.cells (madeCells #[.int .u32 0] n) 141)) := by
  obtain ⟨i0, hi, hz0, hz1, hz2⟩ := info_parts dig_info
  have hr := run_make (P := Tryz.prog) w 51 141 i0 (.int .u32 0) Tryz.underlying51 hi hz0 .i64 .i64 n n (by omega) (by omega) (by rw [hz2]; omega) (by omega)
  rw [hz1, Nat.mul_one, Int.toNat_natCast] at hr
  exact hr
theorem make_digs2 (w : World) : (Instr.makeSlice 51 (.int .i64 2) (.int .i64 2)).run Tryz.prog w = .ok (.slice (some ⟨w.heap.size, 0, none⟩) 2 2) (w.alloc (.cells #[.int .u32 0, .int .u32 0] 141)) := by
  have e : madeCells #[Value.int .u32 0] 2 = #[.int .u32 0, .int .u32 0] := by kernel_rfl
  have := make_digs 2 (by omega) w
  rw [e] at this
  exact this
theorem add_one (A : Option Addr) (c d g v : Nat) (w : World) (hB : Blk w g 141 #[.int .u32 (v : Nat)]) (hv : v < 4294967296) :
    Calls Tryz.prog 123 #[.slice A 0 c, .slice (some ⟨g, 0, none⟩) 1 d] w fun e w' => e = .returned (.slice (some ⟨w.heap.size, 0, none⟩) (tzl [v, 0] 2) 2) ∧ Blk w' w.heap.size 141 #[.int .u32 (v : Nat), .int .u32 0] ∧ Below w.heap.size w w' := by
  have hmk := fun W => make_digs2 W
  have hc := hB.cell 0
  simp at hc
  have hg := hB.lt
  go_enter Tryz.func123, Tryz.ntmps123
  have hdv : (v : Int) / 4294967296 = 0 := by omega
  have hB2 := Blk.new w 141 #[.int .u32 (v : Nat), .int .u32 0]
  have hbA : Below w.heap.size w (w.alloc (.cells #[.int .u32 (v : Nat), .int .u32 0] 141)) := (Below.refl _ _).alloc (Nat.le_refl _) _
  have hD : Digs (w.alloc (.cells #[.int .u32 (v : Nat), .int .u32 0] 141)) (some ⟨w.heap.size, 0, none⟩) [v, 0] := digs_of hB2
  have HT := Lib.hid (trim_any (some ⟨w.heap.size, 0, none⟩) 2 [v, 0] _ hD (by simp) (by simp))
  have HB2 := Lib.hid hB2
  clear hD hB2
  go_wp2
  refine wp_loop_rounds 2 ?_
  rw [rounds_succ]
  go_wp2_with (fail)
  rw [rounds_succ]
  go_wp2_with (fail)
  refine HT.out.mono ?_
  rintro e _ ⟨rfl, rfl⟩
  go_wp2
  go_ret
  exact ⟨rfl, HB2.out, hbA⟩
end Go.Proofs.Tg
end
section
/- The harness's numbers: one digit divided by one. -/
namespace Go.Proofs.Tg
open Go.RowKit Go.Gr
set_option maxHeartbeats 1000000
set_option maxRecDepth 100000
theorem make_digs1 (w : World) : (Instr.makeSlice 51 (.int .i64 1) (.int .i64 1)).run Tryz.prog w = .ok (.slice (some ⟨w.heap.size, 0, none⟩) 1 1) (w.alloc (.cells #[.int .u32 0] 141)) := by
  have e : madeCells #[Value.int .u32 0] 1 = #[.int .u32 0] := by kernel_rfl
  have := make_digs 1 (by omega) w
  rw [e] at this
  exact this
theorem sdiv_one (A : Option Addr) (c v d : Nat) (w : World) (hA : Digs w A [v]) (hv : v < 4294967296) (hd : d < 4294967296) (hd0 : 0 < d) :
    Calls Tryz.prog 140 #[.slice A 1 c, .int .u32 (d : Nat)] w fun e w' => e = .returned (.tuple #[.slice (some ⟨w.heap.size, 0, none⟩) (tzl [v / d] 1) 1, .int .u32 ((v % d : Nat))]) ∧ Blk w' w.heap.size 141 #[.int .u32 (v / d : Nat)] ∧ Below w.heap.size w w' := by
  have hmk := fun W => make_digs1 W
  obtain ⟨ad, rfl, hc⟩ := Digs.at hA (k := 0) (by simp)
  have hc : w.cell? ad = some (.int .u32 (v : Nat)) := by simpa [Addr.add] using hc
  have hlt : ad.block < w.heap.size := World.block_lt_of_cell? w _ hc
  have ho : bits BinOp.or IntKind.u64 0 (v : Int) = (v : Int) := by
    simp [bits]
    have e : (2 : Int) ^ IntKind.u64.bits = 18446744073709551616 := by decide
    rw [e, Int.emod_eq_of_lt (by omega) (by omega)]
    exact wrap_nat v (by omega)
  have hle : v / d ≤ v := Nat.div_le_self _ _
  have hml : v % d < d := Nat.mod_lt _ hd0
  obtain ⟨q, hq⟩ : ∃ q, v / d = q := ⟨_, rfl⟩
  obtain ⟨r, hr⟩ : ∃ r, v % d = r := ⟨_, rfl⟩
  have hq1 : (v : Int) / (d : Int) = (q : Int) := by rw [← hq]; simp
  have hr1 : (v : Int) % (d : Int) = (r : Int) := by rw [← hr]; simp
  rw [hq, hr]
  rw [hq] at hle
  rw [hr] at hml
  clear hq hr
  have hq2 : (q : Int) % 4294967296 = (q : Int) := Int.emod_eq_of_lt (by omega) (by omega)
  have hr2 : (r : Int) % 4294967296 = (r : Int) := Int.emod_eq_of_lt (by omega) (by omega)
  have hq3 := wrap_nat q (by omega)
  have hB2 := Blk.new w 141 #[.int .u32 (q : Nat)]
  have hbA : Below w.heap.size w (w.alloc (.cells #[.int .u32 (q : Nat)] 141)) := (Below.refl _ _).alloc (Nat.le_refl _) _
  have hD : Digs (w.alloc (.cells #[.int .u32 (q : Nat)] 141)) (some ⟨w.heap.size, 0, none⟩) [q] := digs_of hB2
  have HT := Lib.hid (trim_any (some ⟨w.heap.size, 0, none⟩) 1 [q] _ hD (by simp) (by simp))
  have HB2 := Lib.hid hB2
  clear hD hB2
  go_enter Tryz.func140, Tryz.ntmps140
  go_wp2
  refine wp_loop_rounds 2 ?_
  rw [rounds_succ]
  go_wp2_with (fail)
  rw [rounds_succ]
  go_wp2_with (fail)
  refine HT.out.mono ?_
  rintro e _ ⟨rfl, rfl⟩
  go_wp2
  go_ret2
  exact ⟨rfl, HB2.out, hbA⟩
end Go.Proofs.Tg
end
section
/- The harness's numbers: numbers of one digit compared. -/
namespace Go.Proofs.Tg
open Go.RowKit Go.Gr
set_option maxHeartbeats 1000000
set_option maxRecDepth 100000
theorem cmp_one (A B : Option Addr) (c d a b : Nat) (w : World) (hA : Digs w A [a]) (hB : Digs w B [b]) :
    Calls Tryz.prog 126 #[.slice A 1 c, .slice B 1 d] w fun e w' => e = .returned (.int .i64 (if a < b then -1 else if a = b then 0 else 1)) ∧ Dr w w' := by
  obtain ⟨ad, rfl, ha⟩ := Digs.at hA (k := 0) (by simp)
  obtain ⟨bd, rfl, hb⟩ := Digs.at hB (k := 0) (by simp)
  have ha : w.cell? ad = some (.int .u32 (a : Nat)) := by simpa [Addr.add] using ha
  have hb : w.cell? bd = some (.int .u32 (b : Nat)) := by simpa [Addr.add] using hb
  clear hA hB
  by_cases h1 : a = b
  · subst h1
    have hn : ((a : Int) != (a : Int)) = false := by simp
    rw [if_neg (by omega), if_pos rfl]
    go_enter Tryz.func126, Tryz.ntmps126
    go_wp2
    refine wp_loop_rounds 2 ?_
    rw [rounds_succ]
    go_wp2
    go_quiet (fail)
    go_wp2
    rw [rounds_succ]
    go_wp2
    go_ret
    exact ⟨rfl, (Dr.refl _).drewN _⟩
  · have hn : ((a : Int) != (b : Int)) = true := by simp; omega
    by_cases h2 : a < b
    · rw [if_pos h2]
      have hl : decide ((a : Int) < (b : Int)) = true := by simp; omega
      have hl' : decide (a < b) = true := by simp; omega
      go_enter Tryz.func126, Tryz.ntmps126
      go_wp2
      refine wp_loop_rounds 2 ?_
      rw [rounds_succ]
      go_wp2
      go_quiet (fail)
      generalize hW : w.drewN _ = W
      have HW := Lib.hid hW
      have ha' : W.cell? ad = some (.int .u32 (a : Nat)) := by rw [← hW]; exact ha
      have hb' : W.cell? bd = some (.int .u32 (b : Nat)) := by rw [← hW]; exact hb
      clear hW
      go_wp2
      go_quiet (fail)
      go_wp2
      go_ret
      refine ⟨rfl, ?_⟩
      rw [← HW.out]
      exact ((Dr.refl _).drewN _).drewN _
    · rw [if_neg h2, if_neg h1]
      have hl : decide ((a : Int) < (b : Int)) = false := by simp; omega
      have hl' : decide (a < b) = false := by simp; omega
      go_enter Tryz.func126, Tryz.ntmps126
      go_wp2
      refine wp_loop_rounds 2 ?_
      rw [rounds_succ]
      go_wp2
      go_quiet (fail)
      generalize hW : w.drewN _ = W
      have HW := Lib.hid hW
      have ha' : W.cell? ad = some (.int .u32 (a : Nat)) := by rw [← hW]; exact ha
      have hb' : W.cell? bd = some (.int .u32 (b : Nat)) := by rw [← hW]; exact hb
      clear hW
      go_wp2
      go_quiet (fail)
      go_wp2
      go_ret
      refine ⟨rfl, ?_⟩
      rw [← HW.out]
      exact ((Dr.refl _).drewN _).drewN _
end Go.Proofs.Tg
end
section
/- The harness's numbers: how many bits a number of at most one digit has. -/
namespace Go.Proofs.Tg
open Go.RowKit Go.Gr
set_option maxHeartbeats 1000000
set_option maxRecDepth 100000
/-- The bits of v, counted by halving. -/
def blen (v : Nat) : Nat := if v = 0 then 0 else blen (v / 2) + 1
termination_by v
decreasing_by omega
theorem blen_zero : blen 0 = 0 := by unfold blen; simp
theorem blen_pos {v : Nat} (h : v ≠ 0) : blen v = blen (v / 2) + 1 := by rw [blen]; simp [h]
theorem blen_one {v : Nat} : blen v = 1 ↔ v = 1 := by
  by_cases h : v = 0
  · subst h; rw [blen_zero]
  · rw [blen_pos h]
    by_cases h2 : v / 2 = 0
    · rw [h2, blen_zero]; omega
    · rw [blen_pos h2]; omega
theorem blen_gt {v : Nat} : 1 < blen v ↔ 1 < v := by
  by_cases h : v = 0
  · subst h; rw [blen_zero]
  · rw [blen_pos h]
    by_cases h2 : v / 2 = 0
    · rw [h2, blen_zero]; omega
    · rw [blen_pos h2]; omega
theorem blen_le : ∀ (n v : Nat), v ≤ n → blen v ≤ v
  | 0, v, h => by
    obtain rfl : v = 0 := by omega
    rw [blen_zero]; exact Nat.le_refl _
  | n + 1, v, h => by
    by_cases h0 : v = 0
    · subst h0; rw [blen_zero]; exact Nat.le_refl _
    · rw [blen_pos h0]
      have := blen_le n (v / 2) (by omega)
      omega
theorem bits_one (b : Bool) (A : Option Addr) (c v : Nat) (w : World) (hA : Digs w A [v]) (hv : v < 4294967296) :
    Calls Tryz.prog 112 #[.agg #[.bool b, .slice A 1 c]] w fun e w' => e = .returned (.int .i64 (blen v : Nat)) ∧ Below w.heap.size w w' := by
  have hbA : Below w.heap.size w (w.alloc (.cells #[.bool b, .slice A 1 c] 53)) := (Below.refl _ _).alloc (Nat.le_refl _) _
  obtain ⟨ad, rfl, ha⟩ := Digs.at hA (k := 0) (by simp)
  have ha : w.cell? ad = some (.int .u32 (v : Nat)) := by simpa [Addr.add] using ha
  have hlt : ad.block < w.heap.size := World.block_lt_of_cell? w _ ha
  have hle := blen_le v v (Nat.le_refl _)
  obtain ⟨q, hq⟩ : ∃ q, blen v = q := ⟨_, rfl⟩
  rw [hq] at hle ⊢
  have HQ := Lib.hid hq
  clear hA hq
  go_enter Tryz.func112, Tryz.ntmps112
  go_wp2
  go_loop [3, 4] (fun s3 s4 => ∃ k x : Nat, s3 = .int .i64 k ∧ s4 = .int .u32 x ∧ x < 4294967296 ∧ k ≤ q ∧ Hid (k + blen x = q)) (fun _ s4 => (intOf s4).toNat)
  case atStart => exact ⟨0, v, rfl, rfl, hv, Nat.zero_le _, Lib.hid (by rw [HQ.out]; omega)⟩
  case round =>
    obtain ⟨k, x, rfl, rfl, hx, hk, HK⟩ := hrel
    by_cases h0 : x = 0
    · subst h0
      obtain rfl : k = q := by have := HK.out; rw [blen_zero] at this; omega
      go_wp2
      go_ret
      exact ⟨rfl, hbA⟩
    · have hd : decide ((0 : Int) < (x : Int)) = true := by simp; omega
      have hd' : decide (0 < x) = true := by simp; omega
      have HK2 : Hid (k + 1 + blen (x / 2) = q) := Lib.hid (by have := HK.out; rw [blen_pos h0] at this; omega)
      have hk1 : k + 1 ≤ q := by have := HK2.out; omega
      have hx2 : (x : Int).fdiv (2 ^ min (Int.toNat 1) IntKind.u32.bits) = ((x / 2 : Nat) : Int) := by
        have e : (2 : Int) ^ min (Int.toNat 1) IntKind.u32.bits = 2 := by decide
        rw [e, Int.fdiv_eq_ediv_of_nonneg _ (by omega)]; simp
      go_wp2
      go_round
      case rel => exact ⟨k + 1, x / 2, by go_num, by simp, by omega, hk1, HK2⟩
      case measure => simp [intOf]; omega
theorem bits_nil (b : Bool) (A : Option Addr) (c : Nat) (w : World) :
    Calls Tryz.prog 112 #[.agg #[.bool b, .slice A 0 c]] w fun e w' => e = .returned (.int .i64 0) ∧ Below w.heap.size w w' := by
  have hbA : Below w.heap.size w (w.alloc (.cells #[.bool b, .slice A 0 c] 53)) := (Below.refl _ _).alloc (Nat.le_refl _) _
  go_enter Tryz.func112, Tryz.ntmps112
  go_wp2
  go_ret
  exact ⟨rfl, hbA⟩
end Go.Proofs.Tg
end
section
/- The harness's numbers: divMag of numbers of one digit. -/
namespace Go.Proofs.Tg
open Go.RowKit Go.Gr
set_option maxHeartbeats 1000000
set_option maxRecDepth 100000
/-- The digits of a number below 2^32. -/
def mg (v : Nat) : List Nat := if v = 0 then [] else [v]
theorem mg_zero : mg 0 = [] := rfl
theorem mg_pos {v : Nat} (h : v ≠ 0) : mg v = [v] := if_neg h
theorem tzl_one (v : Nat) : tzl [v] 1 = (mg v).length := by
  by_cases h : v = 0
  · subst h; rfl
  · rw [mg_pos h]; simp [tzl, h]
theorem tzl_two (v : Nat) : tzl [v, 0] 2 = (mg v).length := by
  by_cases h : v = 0
  · subst h; rfl
  · rw [mg_pos h]; simp [tzl, h]
theorem digs_mg {w : World} {A : Option Addr} {v : Nat} {l : List Nat} (h : Digs w A (v :: l)) : Digs w A (mg v) := by
  by_cases hv : v = 0
  · subst hv; exact Digs.nil _ _
  · rw [mg_pos hv]
    have := h.take 1 (by simp)
    simpa using this
theorem digs_blk {w : World} {g : Nat} {v : Nat} (h : Blk w g 141 #[.int .u32 (v : Nat)]) : Digs w (some ⟨g, 0, none⟩) [v] :=
  digs_of (xs := [v]) h
def RetDiv (a b : Nat) (w : World) (e : Ending) (w' : World) : Prop :=
  ∃ Q cq R cr, e = .returned (.tuple #[.slice Q (mg (a / b)).length cq, .slice R (mg (a % b)).length cr]) ∧ Digs w' Q (mg (a / b)) ∧ Digs w' R (mg (a % b)) ∧ (mg (a / b)).length ≤ cq ∧ (mg (a % b)).length ≤ cr ∧ Below w.heap.size w w'
theorem div_ge (A B : Option Addr) (c d a b : Nat) (w : World) (hA : Digs w A [a]) (hB : Digs w B [b]) (ha : a < 4294967296) (hb0 : b ≠ 0) (hab : b ≤ a) :
    Calls Tryz.prog 125 #[.slice A 1 c, .slice B 1 d] w (RetDiv a b w) := by
  obtain ⟨z, hz⟩ : ∃ z : Int, (if a < b then (-1 : Int) else if a = b then 0 else 1) = z := ⟨_, rfl⟩
  have HC := Lib.hid (cmp_one A B c d a b w hA hB)
  rw [hz] at HC
  have hzb : decide (z < 0) = false := by
    rw [← hz, if_neg (by omega)]
    split <;> simp
  clear hz
  have HD := Lib.hid (fun W (h : Below w.heap.size w W) => sdiv_one A c a b W (hA.keep h) ha (by omega) (by omega))
  unfold RetDiv
  obtain ⟨q, hq⟩ : ∃ q, a / b = q := ⟨_, rfl⟩
  obtain ⟨r, hr⟩ : ∃ r, a % b = r := ⟨_, rfl⟩
  rw [hq, hr]
  rw [hq, hr] at HD
  clear hq hr
  go_enter Tryz.func125, Tryz.ntmps125
  go_wp2_with (fail)
  refine HC.out.mono ?_
  rintro e w1 ⟨rfl, hdr⟩
  have hb1 := hdr.below
  clear hdr
  obtain ⟨bd, rfl, hbd⟩ := Digs.at (hB.keep hb1) (k := 0) (by simp)
  have hbd : w1.cell? bd = some (.int .u32 (b : Nat)) := by simpa [Addr.add] using hbd
  go_wp2_with (fail)
  refine (HD.out _ hb1).mono ?_
  rintro e w2 ⟨rfl, B2, hb2⟩
  go_wp2_with (fail)
  have B3 := Blk.new w2 141 #[.int .u32 (r : Nat)]
  have hbA : Below w2.heap.size w2 (w2.alloc (.cells #[.int .u32 (r : Nat)] 141)) := (Below.refl _ _).alloc (Nat.le_refl _) _
  refine (trim_any (some ⟨w2.heap.size, 0, none⟩) 1 [r] _ (digs_blk B3) (by simp) (by simp)).mono ?_
  rintro e _ ⟨rfl, rfl⟩
  have hbq := below_all (below_all hb1 hb2) hbA
  have hQ := digs_mg (digs_blk (B2.keep hbA B2.lt))
  have hR := digs_mg (digs_blk B3)
  have hl : ∀ v, (mg v).length ≤ 1 := fun v => by by_cases h : v = 0; (subst h; simp [mg]); (rw [mg_pos h]; simp)
  have h1 := hl q
  have h2 := hl r
  have t1 := tzl_one q
  have t2 := tzl_one r
  rw [← t1] at h1
  rw [← t2] at h2
  have HT1 := Lib.hid t1
  have HT2 := Lib.hid t2
  clear hl t1 t2
  go_wp2
  go_ret2
  exact ⟨_, 1, _, 1, by rw [← HT1.out, ← HT2.out]; rfl, hQ, hR, by rw [← HT1.out]; exact h1, by rw [← HT2.out]; exact h2, hbq⟩
end Go.Proofs.Tg
end
section
/- The harness's numbers: decimal digits read. -/
namespace Go.Proofs.Tg
open Go.RowKit Go.Gr Go.Qn
set_option maxHeartbeats 2000000
set_option maxRecDepth 100000
theorem add_nil (A B : Option Addr) (c d : Nat) (w : World) :
    Calls Tryz.prog 123 #[.slice A 0 c, .slice B 0 d] w fun e w' => e = .returned (.slice (some ⟨w.heap.size, 0, none⟩) 0 1) ∧ Below w.heap.size w w' := by
  have hmk := fun W => make_digs1 W
  go_enter Tryz.func123, Tryz.ntmps123
  have hB2 := Blk.new w 141 #[.int .u32 0]
  have hbA : Below w.heap.size w (w.alloc (.cells #[.int .u32 0] 141)) := (Below.refl _ _).alloc (Nat.le_refl _) _
  have HT := Lib.hid (trim_any (some ⟨w.heap.size, 0, none⟩) 1 [0] _ (digs_blk (v := 0) hB2) (by simp) (by simp))
  clear hB2
  go_wp2
  refine wp_loop_rounds 1 ?_
  rw [rounds_succ]
  go_wp2_with (fail)
  refine HT.out.mono ?_
  rintro e _ ⟨rfl, rfl⟩
  go_wp2
  go_ret
  exact ⟨rfl, hbA⟩
/-- The number that one group of digits makes. -/
theorem add_mg (A : Option Addr) (c d g v : Nat) (w : World) (hB : Blk w g 141 #[.int .u32 (v : Nat)]) (hv : v < 4294967296) :
    Calls Tryz.prog 123 #[.slice A 0 c, .slice (some ⟨g, 0, none⟩) (tzl [v] 1) d] w fun e w' => ∃ ad cr, e = .returned (.slice (some ad) (mg v).length cr) ∧ Digs w' (some ad) (mg v) ∧ Below w.heap.size w w' := by
  rw [tzl_one]
  by_cases h0 : v = 0
  · subst h0
    exact (add_nil A _ c d w).mono fun e w' ⟨h1, h2⟩ => ⟨_, _, h1, Digs.nil _ _, h2⟩
  · rw [mg_pos h0]
    refine (add_one A c d g v w hB hv).mono fun e w' ⟨h1, h2, h3⟩ => ⟨⟨w.heap.size, 0, none⟩, 2, ?_, ?_, h3⟩
    · rw [h1, tzl_two, mg_pos h0]
    · refine digs_pre h2 (fun j u hu => ?_)
      match j with
      | 0 => simpa [vd] using hu
      | j + 1 => simp at hu
def RetFD (l : List UInt8) (w : World) (e : Ending) (w' : World) : Prop :=
  Below w.heap.size w w' ∧ ((numOk l = false ∧ ∃ n A c, e = .returned (.tuple #[.agg #[.bool false, .slice A n c], .bool false])) ∨
    (numOk l = true ∧ ∃ ad c, e = .returned (.tuple #[.agg #[.bool false, .slice (some ad) (mg (val l)).length c], .bool true]) ∧ Digs w' (some ad) (mg (val l))))
theorem fdig_nil (w : World) : Calls Tryz.prog 106 #[.string ByteArray.empty] w (RetFD [] w) := by
  have hbA : Below w.heap.size w (w.alloc (.cells #[.bool false, .slice none 0 0] 53)) := (Below.refl _ _).alloc (Nat.le_refl _) _
  have K2 := Blk.new w 53 #[.bool false, .slice none 0 0]
  have HM := Lib.hid (fun W => make1_any false none 0 0 W false rfl (by omega))
  go_enter Tryz.func106, Tryz.ntmps106
  go_wp2
  refine wp_loop_rounds 1 ?_
  rw [rounds_succ]
  go_wp2_with (go_at_call 85; refine (HM.out _).mono ?_; rintro e w2 ⟨rfl, hb2⟩
               have K3 := K2.keep hb2 K2.lt
               obtain ⟨j0, j1, j2, j3⟩ := K3.two)
  refine bodyPost_ret (v := .tuple #[.agg #[.bool false, .slice none 0 0], .bool false]) (by simp [results, Tryz.results106, go_sem, j0, j1]) rfl ⟨?_, .inl ⟨rfl, 0, none, 0, rfl⟩⟩
  exact ((below_all hbA hb2).setCell (by simp) _).setCell (by simp) _
theorem fdig_any (s : ByteArray) (w : World) (h0 : 0 < s.size) (hs : s.size ≤ 8) :
    Calls Tryz.prog 106 #[.string s] w (RetFD s.data.toList w) := by
  have HL := Lib.hid (len_size s)
  have hbA : Below w.heap.size w (w.alloc (.cells #[.bool false, .slice none 0 0] 53)) := (Below.refl _ _).alloc (Nat.le_refl _) _
  have K2 := Blk.new w 53 #[.bool false, .slice none 0 0]
  obtain ⟨a0, a1, a2, a3⟩ := K2.two
  go_enter Tryz.func106, Tryz.ntmps106
  go_wp2
  refine wp_loop_rounds 2 ?_
  rw [rounds_succ]
  go_wp2
  go_loop [5, 6, 7, 8] (fun i v f k => ∃ m x y : Nat, m ≤ s.size ∧ i = .int .i64 m ∧ k = .int .i64 m ∧ v = .int .u32 x ∧ f = .int .u32 y ∧ x < 100000000 ∧ y ≤ 100000000 ∧ Hid (x = val (s.data.toList.take m) ∧ y = 10 ^ m ∧ x < 10 ^ m ∧ ∀ c ∈ s.data.toList.take m, isD c = true)) (fun i _ _ _ => s.size - (intOf i).toNat)
  case atStart => exact ⟨0, 0, 1, Nat.zero_le _, rfl, rfl, rfl, rfl, by omega, by omega, Lib.hid ⟨rfl, rfl, by decide, by simp⟩⟩
  case round =>
    obtain ⟨m, x, y, hm, rfl, rfl, rfl, rfl, hx8, hy8, HV⟩ := hrel
    by_cases hlt : m < s.size
    · have hlt' : m < s.data.toList.length := by rw [HL.out]; exact hlt
      have HX : Hid (val (s.data.toList.take (m + 1)) = 10 * val (s.data.toList.take m) + (s[m].toNat - 48)) := Lib.hid (val_take _ _ hlt')
      have HT : Hid (s.data.toList.take (m + 1) = s.data.toList.take m ++ [s[m]]) := Lib.hid (List.take_succ_eq_append_getElem hlt')
      have HMEM : Hid (s[m] ∈ s.data.toList) := Lib.hid (List.getElem_mem hlt')
      have hb7 : 10 ^ m ≤ 10000000 := by
        have : 10 ^ m ≤ 10 ^ 7 := Nat.pow_le_pow_right (by omega) (by omega)
        exact Nat.le_trans this (by decide)
      have hx7 : x < 10000000 := Nat.lt_of_lt_of_le HV.out.2.2.1 hb7
      have hy7 : y ≤ 10000000 := by rw [HV.out.2.1]; exact hb7
      clear hb7
      have h9 : decide ((m : Int) < 9) = true := by simp; omega
      by_cases hD : isD s[m] = true
      · obtain ⟨d1, d2⟩ := isD_int hD
        have e1 : (48 : Int) ≤ (s[m].toNat : Int) := d1
        have e2 : (s[m].toNat : Int) ≤ 57 := d2
        have HDD := Lib.hid hD
        have g1 : decide ((s[m].toNat : Int) < 48) = false := by simp; omega
        have g2 : decide ((57 : Int) < (s[m].toNat : Int)) = false := by simp; omega
        clear d1 d2 hD
        go_wp2
        go_round
        case rel =>
          have h1 := HX.out
          have h2 := HV.out
          rw [← h2.1] at h1
          refine ⟨m + 1, 10 * x + (s[m].toNat - 48), y * 10, by omega, by go_num, by go_num, by go_num, by go_num, by omega, by omega, Lib.hid ⟨h1.symm, by rw [h2.2.1, Nat.pow_succ], ?_, ?_⟩⟩
          · rw [Nat.pow_succ]; omega
          · rw [HT.out]
            intro c hc
            rcases List.mem_append.1 hc with h | h
            · exact h2.2.2.2 c h
            · simp at h; subst h; exact HDD.out
        case measure => simp [intOf]; omega
      · have hno : Hid (numOk s.data.toList = false) := Lib.hid (by
          apply eq_false_of_ne_true
          rw [numOk_iff]
          exact fun h => hD (h.1 _ HMEM.out))
        by_cases hl : s[m].toNat < 48
        · have g1 : decide ((s[m].toNat : Int) < 48) = true := by simp; omega
          clear hD
          go_wp2
          refine bodyPost_ret (v := .tuple #[.agg #[.bool false, .slice none 0 0], .bool false]) (by simp [results, Tryz.results106, go_sem, a0, a1]) rfl ⟨?_, .inl ⟨hno.out, 0, none, 0, rfl⟩⟩
          first | exact hbA | exact (hbA.setCell (by simp) _).setCell (by simp) _
        · have g1 : decide ((s[m].toNat : Int) < 48) = false := by simp; omega
          have g2 : decide ((57 : Int) < (s[m].toNat : Int)) = true := by
            simp
            rw [isD_iff] at hD
            omega
          clear hD hl
          go_wp2
          refine bodyPost_ret (v := .tuple #[.agg #[.bool false, .slice none 0 0], .bool false]) (by simp [results, Tryz.results106, go_sem, a0, a1]) rfl ⟨?_, .inl ⟨hno.out, 0, none, 0, rfl⟩⟩
          first | exact hbA | exact (hbA.setCell (by simp) _).setCell (by simp) _
    · obtain rfl : m = s.size := by omega
      have HXV : Hid (x = val s.data.toList) := Lib.hid (by rw [HV.out.1, List.take_of_length_le (by rw [HL.out]; omega)])
      have hok : Hid (numOk s.data.toList = true) := Lib.hid (by
        rw [numOk_iff]
        have h := HV.out.2.2.2
        rw [List.take_of_length_le (by rw [HL.out]; omega)] at h
        exact ⟨h, fun e => by have := HL.out; rw [e] at this; simp at this; omega⟩)
      have dd : decide (s.size < s.size) = false := by simp
      have h9 : decide ((s.size : Int) < 9) = true := by simp; omega
      have HT1 := Lib.hid (fun W g (h : Blk W g 141 #[.int .u32 (x : Nat)]) => trim_any (some ⟨g, 0, none⟩) 1 [x] W (digs_blk h) (by simp) (by simp))
      have HAM := Lib.hid (fun W g (h : Blk W g 141 #[.int .u32 (x : Nat)]) => add_mg none 0 1 g x W h (by omega))
      have HM := Lib.hid (fun W ad c => make1_any false (some ad) (mg x).length c W false rfl (by by_cases e : x = 0; (subst e; simp [mg]); (rw [mg_pos e]; simp)))
      go_wp2_with (fail)
      refine (mul_nil _ _ _ _ _ _).mono ?_
      rintro e _ ⟨rfl, rfl⟩
      have BX : Blk (((w.alloc (.cells #[.bool false, .slice none 0 0] 53)).alloc (.cells #[.int .u32 (y : Nat)] 141)).alloc (.cells #[.int .u32 (x : Nat)] 141)) (w.heap.size + 1 + 1) 141 #[.int .u32 (x : Nat)] := by
        have := Blk.new ((w.alloc (.cells #[.bool false, .slice none 0 0] 53)).alloc (.cells #[.int .u32 (y : Nat)] 141)) 141 #[.int .u32 (x : Nat)]
        simpa using this
      have hbX : Below w.heap.size w (((w.alloc (.cells #[.bool false, .slice none 0 0] 53)).alloc (.cells #[.int .u32 (y : Nat)] 141)).alloc (.cells #[.int .u32 (x : Nat)] 141)) := (hbA.alloc (by simp) _).alloc (by simp; omega) _
      have KX := (K2.alloc (.cells #[.int .u32 (y : Nat)] 141)).alloc (.cells #[.int .u32 (x : Nat)] 141)
      go_wp2_with (fail)
      refine (HT1.out _ _ BX).mono ?_
      rintro e _ ⟨rfl, rfl⟩
      go_wp2_with (fail)
      refine (HAM.out _ _ BX).mono ?_
      rintro e w2 ⟨ad, cr, rfl, hD, hb2⟩
      have KY := KX.keep hb2 KX.lt
      have hbY := below_all hbX hb2
      clear BX KX hbX hb2 HAM HT1
      go_wp2_with (fail)
      rw [rounds_succ]
      go_wp2_with (fail)
      refine (HM.out _ ad cr).mono ?_
      rintro e w3 ⟨rfl, hb3⟩
      have K3 := KY.keep hb3 KY.lt
      obtain ⟨j0, j1, j2, j3⟩ := K3.two
      have hne : s.toList.isEmpty = false := by
        rw [Lib.toList_data]
        cases h : s.data.toList with
        | nil => have h2 := HL.out; rw [h] at h2; simp at h2; omega
        | cons _ _ => rfl
      go_wp2_with (fail)
      refine bodyPost_ret (v := .tuple #[.agg #[.bool false, .slice (some ad) (mg x).length cr], .bool true]) (by simp [results, Tryz.results106, go_sem, j0, j1]) rfl ⟨?_, .inr ⟨hok.out, ad, cr, by rw [← HXV.out], ?_⟩⟩
      · exact ((below_all hbY hb3).setCell (by simp) _).setCell (by simp) _
      · rw [← HXV.out]
        have h1 := hD.keep hb3
        have h4 := Digs.put h1 j0 (by simp [vd]) (.bool false)
        exact Digs.put h4 (v := .slice none 0 0) (by rw [World.cell?_setCell_other _ _ _ _ (by simp)]; exact j1) (by simp [vd]) _
theorem fdigs_any (s : ByteArray) (w : World) (hs : s.size ≤ 8) :
    Calls Tryz.prog 106 #[.string s] w (RetFD s.data.toList w) := by
  by_cases h0 : s.size = 0
  · have e : s = ByteArray.empty := by
      rw [← bs_self s, List.eq_nil_of_length_eq_zero (l := s.data.toList) (by rw [len_size]; exact h0)]; rfl
    subst e
    exact fdig_nil w
  · exact fdig_any s w (by omega) hs
end Go.Proofs.Tg
end
section
/- The harness's numbers: divMag where the first is the lesser. -/
namespace Go.Proofs.Tg
open Go.RowKit Go.Gr
set_option maxHeartbeats 1000000
set_option maxRecDepth 100000
theorem div_lt (A B : Option Addr) (c d a b : Nat) (w : World) (hA : Digs w A [a]) (hB : Digs w B [b]) (ha0 : a ≠ 0) (hab : a < b) :
    Calls Tryz.prog 125 #[.slice A 1 c, .slice B 1 d] w (RetDiv a b w) := by
  have HC := Lib.hid (cmp_one A B c d a b w hA hB)
  rw [if_pos hab] at HC
  unfold RetDiv
  rw [Nat.div_eq_of_lt hab, Nat.mod_eq_of_lt hab, mg_zero, mg_pos ha0]
  obtain ⟨i0, hi, hz0, hz1, hz2⟩ := info_parts dig_info
  go_enter Tryz.func125, Tryz.ntmps125
  go_wp2_with (fail)
  refine HC.out.mono ?_
  rintro e w1 ⟨rfl, hdr⟩
  have hb1 := hdr.below
  clear hdr
  obtain ⟨ad, rfl, had⟩ := Digs.at (hA.keep hb1) (k := 0) (by simp)
  have had : w1.cell? ad = some (.int .u32 (a : Nat)) := by simpa [Addr.add] using had
  have hnew : ∀ j u, [Value.int .u32 (a : Nat)][j]? = some u → (w1.alloc (.cells #[] 141)).cell? (ad.add j) = some u := by
    intro j u hu
    match j with
    | 0 =>
      have e : u = .int .u32 (a : Nat) := by simpa using hu.symm
      subst e
      exact cell_alloc had _
    | j + 1 => simp at hu
  have HN := Lib.hid hnew
  clear hnew hA hB
  go_wp2_with (at_builtin; refine wpList_append_own _ rfl _ _ 51 rfl w1.heap.size 141 i0 (.int .u32 0) 1 4 Tryz.underlying51 hi hz0 hz1 hz2 rfl (by decide) (.slice (some ⟨w1.heap.size, 0, none⟩) 0 0) 0 [] rfl (World.ownsRow_made w1 #[] 0 (Nat.le_refl _) (by simp [maxLen]) rfl) ad 1 c [.int .u32 a] rfl rfl HN.out ?c2 ?c3 ?c4 ?c5 ?_
               case c2 => simp [Value.oneCell']
               case c3 => simp only [maxLen]; omega
               case c4 => omega
               case c5 => simp
               intro v' w2 hown' hgrow _)
  obtain ⟨R, cr, hv, hcr, hS⟩ := Sl.of_own hown'
  subst hv
  have hb2 : Below w1.heap.size w1 w2 := ((Below.refl _ _).alloc (Nat.le_refl _) _).grown hgrow (by simp) (fun k hk => by simp [Value.ownBlock] at hk; omega)
  go_ret2
  exact ⟨none, 0, R, cr, rfl, Digs.nil _ _, digs_own (xs := [a]) hown' rfl, by simp, by simpa using hcr, below_all hb1 hb2⟩
theorem cmp_nil (A B : Option Addr) (c d : Nat) (w : World) : Calls Tryz.prog 126 #[.slice A 0 c, .slice B 1 d] w fun e w' => e = .returned (.int .i64 (-1)) ∧ w = w' := by
  go_enter Tryz.func126, Tryz.ntmps126
  go_wp2
  go_ret
  exact ⟨rfl, rfl⟩
theorem div_nil (ad : Addr) (B : Option Addr) (c d b : Nat) (w : World) :
    Calls Tryz.prog 125 #[.slice (some ad) 0 c, .slice B 1 d] w (RetDiv 0 b w) := by
  have HC := Lib.hid (cmp_nil (some ad) B c d w)
  have HF : Hid (∀ w2 R cr, Below w.heap.size w w2 → RetDiv 0 b w (.returned (.tuple #[.slice none 0 0, .slice R 0 cr])) w2) := Lib.hid (fun w2 R cr hb => by
    unfold RetDiv
    rw [Nat.zero_div, Nat.zero_mod, mg_zero]
    exact ⟨none, 0, R, cr, rfl, Digs.nil _ _, Digs.nil _ _, by simp, by simp, hb⟩)
  obtain ⟨i0, hi, hz0, hz1, hz2⟩ := info_parts dig_info
  go_enter Tryz.func125, Tryz.ntmps125
  go_wp2_with (fail)
  refine HC.out.mono ?_
  rintro e _ ⟨rfl, rfl⟩
  go_wp2_with (at_builtin; refine wpList_append_own _ rfl _ _ 51 rfl w.heap.size 141 i0 (.int .u32 0) 1 4 Tryz.underlying51 hi hz0 hz1 hz2 rfl (by decide) (.slice (some ⟨w.heap.size, 0, none⟩) 0 0) 0 [] rfl (World.ownsRow_made w #[] 0 (Nat.le_refl _) (by simp [maxLen]) rfl) ad 0 c [] rfl rfl (fun j u hu => by simp at hu) ?c2 ?c3 ?c4 ?c5 ?_
               case c2 => simp [Value.oneCell']
               case c3 => simp only [maxLen]; omega
               case c4 => omega
               case c5 => simp
               intro v' w2 hown' hgrow _)
  obtain ⟨R, cr, hv, hcr, hS⟩ := Sl.of_own hown'
  subst hv
  have hb2 : Below w.heap.size w w2 := ((Below.refl _ _).alloc (Nat.le_refl _) _).grown hgrow (by simp) (fun k hk => by simp [Value.ownBlock] at hk; omega)
  go_ret2
  exact HF.out w2 R cr hb2
end Go.Proofs.Tg
end
section
/- The harness's numbers: the greatest common divisor. -/
namespace Go.Proofs.Tg
open Go.RowKit Go.Gr
set_option maxHeartbeats 1000000
set_option maxRecDepth 100000
/-- divMag of numbers of at most one digit. -/
theorem div_any (A B : Option Addr) (c d a b : Nat) (w : World) (hA : Digs w A (mg a)) (hB : Digs w B (mg b)) (ha : a < 4294967296) (hb : b ≠ 0) (hs : a ≠ 0 ∨ ∃ ad, A = some ad) :
    Calls Tryz.prog 125 #[.slice A (mg a).length c, .slice B (mg b).length d] w (RetDiv a b w) := by
  rw [mg_pos hb] at hB ⊢
  by_cases h0 : a = 0
  · subst h0
    obtain ⟨ad, rfl⟩ : ∃ ad, A = some ad := by
      rcases hs with h | h
      · exact absurd rfl h
      · exact h
    exact div_nil ad B c d b w
  · rw [mg_pos h0] at hA ⊢
    by_cases hab : a < b
    · exact div_lt A B c d a b w hA hB h0 hab
    · exact div_ge A B c d a b w hA hB ha hb (by omega)
def ymes (s : Value) (w : World) : Nat := match s with
  | .slice (some ad) n _ => if n = 0 then 0 else match w.cell? ad with
    | some (.int _ x) => x.toNat
    | _ => 0
  | _ => 0
theorem ymes_eq {w : World} {Y : Option Addr} {y c : Nat} (h : Digs w Y (mg y)) : ymes (.slice Y (mg y).length c) w = y := by
  by_cases h0 : y = 0
  · subst h0; rw [mg_zero]; cases Y <;> simp [ymes]
  · rw [mg_pos h0] at h ⊢
    obtain ⟨ad, rfl, hc⟩ := Digs.at h (k := 0) (by simp)
    have hc : w.cell? ad = some (.int .u32 (y : Nat)) := by simpa [Addr.add] using hc
    simp [ymes, hc]
def RetGcd (g : Nat) (w : World) (e : Ending) (w' : World) : Prop :=
  ∃ G cg, e = .returned (.agg #[.bool false, .slice G (mg g).length cg]) ∧ Digs w' G (mg g) ∧ Below w.heap.size w w'
theorem ngcd_any (p q : Bool) (A B : Option Addr) (c d a b : Nat) (w : World) (hA : Digs w A (mg a)) (hB : Digs w B (mg b)) (ha : a < 4294967296) (hb : b < 4294967296) (hs : a ≠ 0 ∨ ∃ ad, A = some ad) :
    Calls Tryz.prog 111 #[.agg #[.bool p, .slice A (mg a).length c], .agg #[.bool q, .slice B (mg b).length d]] w (RetGcd (Nat.gcd a b) w) := by
  obtain ⟨g, hg⟩ : ∃ g, Nat.gcd a b = g := ⟨_, rfl⟩
  rw [hg]
  have HG := Lib.hid ((Nat.gcd_comm b a).trans hg)
  obtain ⟨na, hna⟩ : ∃ na, (mg a).length = na := ⟨_, rfl⟩
  obtain ⟨nb, hnb⟩ : ∃ nb, (mg b).length = nb := ⟨_, rfl⟩
  rw [hna, hnb]
  have HNA := Lib.hid hna
  have HNB := Lib.hid hnb
  have HS := Lib.hid hs
  clear hg hna hnb hs
  obtain ⟨W, hW⟩ : ∃ W, ((w.alloc (.cells #[.bool p, .slice A na c] 53)).alloc (.cells #[.bool q, .slice B nb d] 53)).alloc (.cells #[.bool false, .slice none 0 0] 53) = W := ⟨_, rfl⟩
  have B0 : Blk W w.heap.size 53 #[.bool p, .slice A na c] := by rw [← hW]; exact ((Blk.new _ _ _).alloc _).alloc _
  have B1 : Blk W (w.heap.size + 1) 53 #[.bool q, .slice B nb d] := by
    rw [← hW]; have := (Blk.new (w.alloc (.cells #[.bool p, .slice A na c] 53)) 53 #[.bool q, .slice B nb d]).alloc (.cells #[.bool false, .slice none 0 0] 53)
    simpa using this
  have B2 : Blk W (w.heap.size + 1 + 1) 53 #[.bool false, .slice none 0 0] := by
    rw [← hW]; have := (Blk.new ((w.alloc (.cells #[.bool p, .slice A na c] 53)).alloc (.cells #[.bool q, .slice B nb d] 53)) 53 #[.bool false, .slice none 0 0])
    simpa using this
  have hbW : Below w.heap.size w W := by rw [← hW]; exact (((Below.refl _ _).alloc (Nat.le_refl _) _).alloc (by simp) _).alloc (by simp; omega) _
  have hWs : W.heap.size = w.heap.size + 3 := by rw [← hW]; simp
  have HX : Hid (Digs W A (mg a)) := Lib.hid (hA.keep hbW)
  have HY : Hid (Digs W B (mg b)) := Lib.hid (hB.keep hbW)
  obtain ⟨a0, a1, _, _⟩ := B0.two
  obtain ⟨b0, b1, _, _⟩ := B1.two
  go_enter Tryz.func111, Tryz.ntmps111
  go_upto_region 1 with (fail)
  clear hW hA hB
  go_quiet (fail)
  go_wp2
  go_loopw [5, 6] (fun s5 s6 wr => ∃ (x y nx ny : Nat) (X : Option Addr) (cx : Nat) (Y : Option Addr) (cy : Nat), s5 = .slice X nx cx ∧ s6 = .slice Y ny cy ∧ x < 4294967296 ∧ y < 4294967296 ∧ Hid (nx = (mg x).length) ∧ Hid (ny = (mg y).length) ∧ Hid (Digs wr X (mg x)) ∧ Hid (Digs wr Y (mg y)) ∧ Hid (x ≠ 0 ∨ ∃ ad, X = some ad) ∧ Hid (Nat.gcd y x = g) ∧ Below W.heap.size W wr) (fun _ s6 wr => ymes s6 wr)
  case atStart => exact ⟨a, b, na, nb, A, c, B, d, rfl, rfl, ha, hb, Lib.hid HNA.out.symm, Lib.hid HNB.out.symm, Lib.hid (HX.out.keep (below_drewN (Below.refl _ _) _)), Lib.hid (HY.out.keep (below_drewN (Below.refl _ _) _)), HS, HG, below_drewN (Below.refl _ _) _⟩
  case round =>
    obtain ⟨wo, rfl⟩ : ∃ wo : World, wo = wr := ⟨_, rfl⟩
    obtain ⟨x, y, nx, ny, X, cx, Y, cy, rfl, rfl, hx, hy, HNX, HNY, HXD, HYD, HXS, HGG, hbr⟩ := hrel
    by_cases hy0 : y = 0
    · subst hy0
      obtain rfl : ny = 0 := HNY.out
      obtain rfl : x = g := by have := HGG.out; rwa [Nat.gcd_zero_left] at this
      have K2 := B2.keep hbr (by omega)
      have hnx : nx ≤ 1000000 := by rw [HNX.out]; by_cases e : x = 0; (subst e; simp [mg]); (rw [mg_pos e]; simp)
      obtain ⟨k0, k1, k2, k3⟩ := K2.two
      have HM := Lib.hid (make1_any false X nx cx wo false rfl hnx)
      have HBR := Lib.hid hbr
      go_wp2_with (go_at_call 85; refine HM.out.mono ?_; rintro e w2 ⟨rfl, hb2⟩
                   have K3 := K2.keep hb2 K2.lt
                   obtain ⟨j0, j1, j2, j3⟩ := K3.two)
      have hlt3 := K3.lt
      refine bodyPost_ret (v := .agg #[.bool false, .slice X nx cx]) (by simp [results, Tryz.results111, go_sem, j0, j1]) rfl ⟨X, cx, by rw [HNX.out], ?_, ?_⟩
      · have h1 := HXD.out.keep hb2
        have h4 := Digs.put h1 j0 (by simp [vd]) (.bool false)
        exact Digs.put h4 (v := .slice none 0 0) (by rw [World.cell?_setCell_other _ _ _ _ (by simp)]; exact j1) (by simp [vd]) _
      · have h1 := below_all (below_all hbW hbr) hb2
        exact (h1.setCell (by simp; omega) _).setCell (by simp; omega) _
    · have hny := HNY.out
      rw [mg_pos hy0] at hny
      obtain rfl : ny = 1 := hny
      have HD := Lib.hid (div_any X Y cx cy x y wo HXD.out HYD.out hx hy0 HXS.out)
      rw [← HNX.out, mg_pos hy0] at HD
      unfold RetDiv at HD
      have hml : x % y < y := Nat.mod_lt _ (by omega)
      have HN : Hid (Nat.gcd (x % y) y = g) := Lib.hid (by rw [← Nat.gcd_rec]; exact HGG.out)
      have HY0 := Lib.hid hy0
      have HM := Lib.hid (ymes_eq (c := cy) HYD.out)
      generalize x % y = r at *
      generalize x / y = qq at *
      clear hy0
      go_wp2_with (go_at_call 125; refine HD.out.mono ?_; rintro e w2 ⟨Q, cq, R, cr, rfl, hQ, hR, _, _, hb2⟩)
      go_roundw
      case rel => exact ⟨y, r, 1, _, Y, cy, R, cr, rfl, rfl, hy, by omega, Lib.hid (by rw [mg_pos HY0.out]; rfl), Lib.hid rfl, Lib.hid (HYD.out.keep hb2), Lib.hid hR, Lib.hid (.inl HY0.out), HN, below_all hbr hb2⟩
      case measure =>
        have h1 := HM.out
        rw [mg_pos HY0.out] at h1
        have h2 := ymes_eq (c := cr) hR
        simp at h1 h2 ⊢
        omega
end Go.Proofs.Tg
end
