/- Parts of the proof: XK5, NU1, NU2, NU3, NU4, NU5. -/
import Derived.Test.YticpnfjdooileaaGreatDoorMCPA0
import Derived.Test.YticpnfjdooileaaGreatDoorMCPA5
import Derived.Test.YticpnfjdooileaaGreatDoorMCPA8
import Derived.Test.YticpnfjdooileaaGreatDoorMCPA13
section
/- The reference's polynomials in memory, and its Rows. -/
namespace Go.Proofs.Tg
open Go.RowKit Go.Gr Go.Ev Go.Mo
set_option maxHeartbeats 4000000
set_option maxRecDepth 100000
/-- A term of the reference: the coefficient's four cells, the exponents. -/
structure RT where
  c0 : Value
  c1 : Value
  c2 : Value
  c3 : Value
  adr : Option Addr
  cap : Nat
  exps : List Int
def RT.sl (t : RT) : Value := .slice t.adr t.exps.length t.cap
def RT.cells (t : RT) : List Value := [t.c0, t.c1, t.c2, t.c3, t.sl]
structure RTermsAt (w : World) (T : Option Addr) (ts : List RT) : Prop where
  sl : Sl w T ts.length 5 (ts.flatMap RT.cells)
  ints : ∀ t ∈ ts, Ints w t.adr t.exps
theorem RTermsAt.keep {w w' : World} {T : Option Addr} {ts : List RT} (h : RTermsAt w T ts) (hb : Below w.heap.size w w') : RTermsAt w' T ts :=
  ⟨h.sl.keep hb, fun t ht => (h.ints t ht).keep hb⟩
theorem off_four (a : Addr) (k : Nat) : (⟨(a.add k).block, (a.add k).off + 4, none⟩ : Addr) = a.add (k + 4) := by
  rw [← add_add]; simp [Addr.add]
theorem RTermsAt.at {w : World} {T : Option Addr} {ts : List RT} (h : RTermsAt w T ts) {k : Nat} (hk : k < ts.length) :
    ∃ ad, T = some ad ∧ w.cell? ⟨(ad.add (k * 5)).block, (ad.add (k * 5)).off + 4, none⟩ = some (.slice ts[k].adr ts[k].exps.length ts[k].cap) ∧ Ints w ts[k].adr ts[k].exps := by
  obtain ⟨ad, rfl, _, ha⟩ := h.sl.lies (by omega)
  refine ⟨ad, rfl, (congrArg w.cell? (off_four ad (k * 5))).trans (ha _ _ ?_), h.ints _ (List.getElem_mem _)⟩
  exact flat_get RT.cells 5 (fun _ => rfl) ts k 4 hk (by omega)
structure RP where
  vars : Int
  adr : Option Addr
  cap : Nat
  ts : List RT
def RP.cells (p : RP) : List Value := [.int .i64 p.vars, .slice p.adr p.ts.length p.cap]
structure RPolysAt (w : World) (L : Option Addr) (ps : List RP) : Prop where
  sl : Sl w L ps.length 2 (ps.flatMap RP.cells)
  tms : ∀ p ∈ ps, RTermsAt w p.adr p.ts
theorem RPolysAt.keep {w w' : World} {L : Option Addr} {ps : List RP} (h : RPolysAt w L ps) (hb : Below w.heap.size w w') : RPolysAt w' L ps :=
  ⟨h.sl.keep hb, fun p hp => (h.tms p hp).keep hb⟩
theorem RPolysAt.at {w : World} {L : Option Addr} {ps : List RP} (h : RPolysAt w L ps) {k : Nat} (hk : k < ps.length) :
    ∃ ad, L = some ad ∧ w.cell? (ad.add (k * 2)) = some (.int .i64 ps[k].vars) ∧ w.cell? ⟨(ad.add (k * 2)).block, (ad.add (k * 2)).off + 1, none⟩ = some (.slice ps[k].adr ps[k].ts.length ps[k].cap) ∧ RTermsAt w ps[k].adr ps[k].ts := by
  obtain ⟨ad, rfl, _, ha⟩ := h.sl.lies (by omega)
  refine ⟨ad, rfl, ha _ _ ?_, (congrArg w.cell? (off_one ad (k * 2))).trans (ha _ _ ?_), h.tms _ (List.getElem_mem _)⟩
  · have := flat_get RP.cells 2 (fun _ => rfl) ps k 0 hk (by omega)
    rw [Nat.add_zero] at this
    exact this
  · exact flat_get RP.cells 2 (fun _ => rfl) ps k 1 hk (by omega)
def rterms (ps : List RP) : List RT := ps.flatMap RP.ts
theorem rterms_succ (ps : List RP) (k : Nat) (hk : k < ps.length) : rterms (ps.take (k + 1)) = rterms (ps.take k) ++ ps[k].ts := by
  unfold rterms
  rw [List.take_succ_eq_append_getElem hk, List.flatMap_append]; simp
theorem rterms_le (ps : List RP) (k : Nat) : (rterms (ps.take k)).length ≤ (rterms ps).length := by
  have : rterms ps = rterms (ps.take k) ++ rterms (ps.drop k) := by unfold rterms; rw [← List.flatMap_append, List.take_append_drop]
  rw [this, List.length_append]; omega
/-- Slices that lie in memory, collected in a row of the call's own. -/
theorem lists_of {w : World} {base c : Nat} {A : Option Addr} {ts : List RT} (ho : w.ownsRow base 33 1 (.slice A ts.length c) ts.length (ts.map RT.sl)) (hi : ∀ t ∈ ts, Ints w t.adr t.exps) : Lists w A (ts.map RT.exps) := by
  refine ⟨fun j => ((ts.map fun t => (t.adr, t.cap)).getD j (none, 0)), ?_, fun i hi' => ?_⟩
  · have := Sl.own ho
    have e : ((List.range (ts.map RT.exps).length).map fun i => Value.slice ((ts.map fun t => (t.adr, t.cap)).getD i (none, 0)).1 ((ts.map RT.exps).getD i []).length ((ts.map fun t => (t.adr, t.cap)).getD i (none, 0)).2) = ts.map RT.sl := by
      refine List.ext_getElem (by simp) fun j h1 h2 => ?_
      have hj : j < ts.length := by simpa using h2
      simp [hj, RT.sl]
    rw [e, List.length_map]
    exact this
  · have hj : i < ts.length := by simpa using hi'
    have := hi ts[i] (List.getElem_mem _)
    simpa [hj] using this
theorem rrows_any (L : Option Addr) (c : Nat) (ps : List RP) (w : World) (hL : RPolysAt w L ps) (hn : ps.length ≤ 1000) (hs : (rterms ps).length ≤ 100000) (hs2 : ∀ p ∈ ps, p.ts.length ≤ 100000) :
    Calls Tryz.prog 32 #[.slice L ps.length c] w fun e w' => ∃ A d, e = .returned (.slice A ((rterms ps).map RT.exps).length d) ∧ Lists w' A ((rterms ps).map RT.exps) ∧ Below w.heap.size w w' := by
  have HI : Hid (∀ t ∈ rterms ps, Ints w t.adr t.exps) := Lib.hid (by
    intro t ht
    obtain ⟨p, hp, ht⟩ := List.mem_flatMap.1 ht
    exact (hL.tms p hp).ints t ht)
  have HS2 := Lib.hid hs2
  clear hs2
  obtain ⟨j0, hj, hjz0, hjz1, hjz2⟩ := info_parts row_info
  go_enter Tryz.func32, Tryz.ntmps32
  go_wp2
  go_loopw [3, 4] (fun s3 s4 wr => ∃ (k : Nat) (A : Option Addr) (cs : Nat), s4 = .int .i64 k ∧ k ≤ ps.length ∧ s3 = .slice A (rterms (ps.take k)).length cs ∧ wr.ownsRow w.heap.size 33 1 (.slice A (rterms (ps.take k)).length cs) (rterms (ps.take k)).length ((rterms (ps.take k)).map RT.sl) ∧ Below w.heap.size w wr) (fun _ s4 _ => ps.length - (intOf s4).toNat)
  case atStart => exact ⟨0, none, 0, rfl, Nat.zero_le _, rfl, World.ownsRow_nil _ _ _ _, Below.refl _ _⟩
  case round =>
    obtain ⟨wo, rfl⟩ : ∃ wo : World, wo = wr := ⟨_, rfl⟩
    obtain ⟨k, A, cs, rfl, hk, rfl, hown, hbw⟩ := hrel
    have hle := rterms_le ps k
    by_cases hkl : k < ps.length
    · obtain ⟨ad, rfl, hc0w, hc1w, hTw⟩ := RPolysAt.at hL hkl
      have HSU := Lib.hid (rterms_succ ps k hkl)
      have hlts := HS2.out ps[k] (List.getElem_mem _)
      have hle2 := rterms_le ps (k + 1)
      rw [HSU.out, List.length_append] at hle2
      generalize ps[k] = p at *
      obtain ⟨pv, T, ct, ts⟩ := p
      simp only at *
      obtain ⟨dn, hdn⟩ : ∃ dn, rterms (ps.take k) = dn := ⟨_, rfl⟩
      rw [hdn] at hown hle HSU hle2 ⊢
      clear hdn
      have HSU2 := HSU
      have hc1 := keep_cell hbw hc1w
      go_wp2
      go_loopw [3, 5] (fun s3 s5 wr => ∃ (j : Nat) (A : Option Addr) (cs : Nat), s5 = .int .i64 j ∧ j ≤ ts.length ∧ s3 = .slice A (dn ++ ts.take j).length cs ∧ wr.ownsRow w.heap.size 33 1 (.slice A (dn ++ ts.take j).length cs) (dn ++ ts.take j).length ((dn ++ ts.take j).map RT.sl) ∧ Below w.heap.size w wr) (fun _ s5 _ => ts.length - (intOf s5).toNat)
      case atStart => exact ⟨0, A, cs, rfl, Nat.zero_le _, by simp, by simpa using hown, hbw⟩
      case round =>
        clear hown hbw hc1
        obtain ⟨wi, rfl⟩ : ∃ wi : World, wi = wr := ⟨_, rfl⟩
        obtain ⟨j, A, cs, rfl, hj2, rfl, hown, hbw⟩ := hrel
        have hc1 := keep_cell hbw hc1w
        by_cases hjl : j < ts.length
        · obtain ⟨bd, rfl, hc4, _⟩ := RTermsAt.at (hTw.keep hbw) hjl
          have HT0 : Hid (dn ++ ts.take (j + 1) = (dn ++ ts.take j) ++ [ts[j]]) := Lib.hid (by rw [List.take_succ_eq_append_getElem hjl, List.append_assoc])
          have hdl : (dn ++ ts.take j).length ≤ 100000 := by rw [List.length_append, List.length_take]; omega
          generalize ts[j] = t at *
          obtain ⟨t0, t1, t2, t3, E, ce, el⟩ := t
          simp only at *
          generalize dn ++ ts.take j = d2 at *
          have hz : w.heap.size ≤ wi.heap.size := hbw.size
          go_wp2_with (first
            | (at_builtin; refine wpList_append_own _ rfl _ _ 25 rfl w.heap.size 33 j0 (.slice none 0 0) 1 24 Tryz.underlying25 hj hjz0 hjz1 hjz2 rfl (by decide) (.slice A d2.length cs) d2.length _ rfl (hown.alloc _) ⟨wi.heap.size, 0, none⟩ 1 1 [.slice E el.length ce] rfl rfl ?c1 ?c2 ?c3 ?c4 ?c5 ?_
               case c1 => exact cell_one_new _ _ _
               case c2 => simp [Value.oneCell']
               case c3 => simp only [maxLen]; omega
               case c4 => omega
               case c5 => simp; omega
               intro v' w5 hown' hgrow _))
          obtain ⟨A2, cs2, hv2, _, _⟩ := Sl.of_own hown'
          subst hv2
          go_roundw
          case rel =>
            refine ⟨j + 1, A2, cs2, by go_num, by omega, ?_, ?_, ?_⟩
            · rw [HT0.out]; simp
            · rw [HT0.out]
              simpa [RT.sl] using hown'
            · exact (hbw.alloc hbw.size _).grown hgrow (by simp; omega) (fun j hj => by have := (hown.lt j hj).1; omega)
          case measure => simp [intOf]; omega
        · obtain rfl : j = ts.length := by omega
          rw [List.take_length] at hown ⊢
          go_wp2
          go_roundw
          case rel =>
            refine ⟨k + 1, A, cs, by go_num, by omega, ?_, ?_, hbw⟩
            · rw [HSU.out]
            · rw [HSU.out]; exact hown
          case measure => simp [intOf]; omega
    · obtain rfl : k = ps.length := by omega
      rw [List.take_length] at hown ⊢
      have HLS := Lib.hid (lists_of hown (fun t ht => (HI.out t ht).keep hbw))
      go_wp2
      go_ret
      exact ⟨A, cs, by simp, HLS.out, hbw⟩
end Go.Proofs.Tg
end
section
/- The harness's numbers: trim. -/
namespace Go.Proofs.Tg
open Go.RowKit Go.Gr
set_option maxHeartbeats 4000000
set_option maxRecDepth 100000
def vd (x : Nat) : Value := .int .u32 (x : Nat)
/-- A slice of digits, which lies in a block of digits. -/
structure Digs (w : World) (A : Option Addr) (xs : List Nat) : Prop where
  sl : Sl w A xs.length 1 (xs.map vd)
  u32 : 0 < xs.length → ∀ ad, A = some ad → ∃ cs fz, w.heap[ad.block]? = some (.cells cs 99 fz)
theorem Digs.nil (w : World) (A : Option Addr) : Digs w A [] := ⟨Sl.nil _ _ _, fun h => absurd h (by simp)⟩
theorem Digs.keep {w w' : World} {A : Option Addr} {xs : List Nat} (h : Digs w A xs) (hb : Below w.heap.size w w') : Digs w' A xs :=
  ⟨h.sl.keep hb, fun hp ad e => by
    obtain ⟨cs, fz, hc⟩ := h.u32 hp ad e
    exact ⟨cs, fz, (hb.block _ (Array.getElem?_eq_some_iff.1 hc).1).trans hc⟩⟩
theorem Digs.at {w : World} {A : Option Addr} {xs : List Nat} (h : Digs w A xs) {k : Nat} (hk : k < xs.length) : ∃ ad, A = some ad ∧ w.cell? (ad.add k) = some (.int .u32 (xs[k] : Nat)) := by
  obtain ⟨ad, rfl, hc⟩ := Sl.at1 h.sl hk
  exact ⟨ad, rfl, by simpa [vd] using hc⟩
theorem Digs.take {w : World} {A : Option Addr} {xs : List Nat} (h : Digs w A xs) (k : Nat) (hk : k ≤ xs.length) : Digs w A (xs.take k) := by
  have hl : (xs.take k).length = k := by rw [List.length_take]; omega
  refine ⟨⟨by simp, fun hp => ?_⟩, fun hp => h.u32 (by omega)⟩
  rw [hl] at hp
  obtain ⟨ad, rfl, hlt, ha⟩ := h.sl.lies (by omega)
  refine ⟨ad, rfl, hlt, fun j u hu => ha j u ?_⟩
  have hj := (List.getElem?_eq_some_iff.1 hu).1
  rw [List.length_map, hl] at hj
  rw [List.getElem?_map] at hu ⊢
  rwa [List.getElem?_take_of_lt hj] at hu
/-- The first cells of a block of digits. -/
theorem digs_pre {w : World} {g : Nat} {cs : Array Value} {xs : List Nat} (h : Blk w g 99 cs) (hx : ∀ (j : Nat) u, (xs.map vd)[j]? = some u → cs[j]? = some u) : Digs w (some ⟨g, 0, none⟩) xs :=
  ⟨⟨by simp, fun _ => ⟨_, rfl, h.lt, fun j u hu => by rw [add_lit, Nat.zero_add, h.cell j]; exact hx j u hu⟩⟩, fun _ ad e => by
    injection e with e
    subst e
    exact ⟨cs, (0, 0), h⟩⟩
theorem digs_of {w : World} {g : Nat} {xs : List Nat} (h : Blk w g 99 (xs.map vd).toArray) : Digs w (some ⟨g, 0, none⟩) xs := digs_pre h (fun j u hu => by simpa using hu)
theorem digs_own {w : World} {b n c : Nat} {A : Option Addr} {xs : List Nat} (h : w.ownsRow b 99 1 (.slice A n c) n (xs.map vd)) (hn : n = xs.length) : Digs w A xs := by
  subst hn
  refine ⟨Sl.own h, fun hp ad e => ?_⟩
  rcases h.2 with ⟨h1, h2⟩ | ⟨g, cap, cur, h1, _, hg, _⟩
  · injection h1 with h1
    rw [e] at h1; cases h1
  · injection h1 with h1
    rw [e] at h1
    injection h1 with h1
    subst h1
    exact ⟨cur, (0, 0), hg⟩
theorem Digs.off {w : World} {A : Option Addr} {g : Nat} {t : TypeId} {xs : List Nat} {cs : Array Value} (h : Digs w A xs) (_ : 0 < 1) (B : Blk w g t cs) (hd : ∀ v ∈ cs.toList, v ∉ xs.map vd) : Off A xs.length g := Sl.off h.sl (by omega) B hd
theorem Digs.far {w : World} {A : Option Addr} {g : Nat} {xs : List Nat} (h : Digs w A xs) (ho : Off A xs.length g) (i : Nat) (u : Value) : Digs (w.setCell ⟨g, i, none⟩ u) A xs :=
  ⟨Sl.far h.sl ho i u, fun hp ad e => by
    obtain ⟨cs, fz, hc⟩ := h.u32 hp ad e
    refine ⟨cs, fz, ?_⟩
    rw [Below.heap_setCell _ _ _ _ (ho hp ad e)]
    exact hc⟩
theorem Digs.put {w : World} {A : Option Addr} {xs : List Nat} (h : Digs w A xs) {p : Addr} {v : Value} (hp : w.cell? p = some v) (hv : v ∉ xs.map vd) (u : Value) : Digs (w.setCell p u) A xs :=
  ⟨Sl.put h.sl hp hv u, fun hl ad e => by
    obtain ⟨cs, fz, hc⟩ := h.u32 hl ad e
    by_cases hg : ad.block = p.block
    · refine ⟨if p.spot.isSome then cs else cs.setIfInBounds p.off u, fz, ?_⟩
      simp [World.setCell, Array.getElem?_modify, ← hg, hc]
    · exact ⟨cs, fz, by rw [Below.heap_setCell _ _ _ _ hg]; exact hc⟩⟩
/-- A block whose elements are of another type. -/
theorem Digs.off_ty {w : World} {A : Option Addr} {g : Nat} {t : TypeId} {xs : List Nat} {cs : Array Value} (h : Digs w A xs) (B : Blk w g t cs) (hne : t ≠ 99) : Off A xs.length g := by
  intro hp ad e hg
  obtain ⟨cs', fz, hc⟩ := h.u32 hp ad e
  rw [hg] at hc
  unfold Blk at B
  rw [B] at hc
  injection hc with hc
  injection hc with _ ht
  exact hne ht
/-- A row of the call's own that grows, of another type. -/
theorem Digs.grown {w w' : World} {A : Option Addr} {ys : List Value} {zs : List Nat} {b sz n : Nat} {t : TypeId} {v : Value} (h : Digs w A zs) (ho : w.ownsRow b t sz v n ys) (hg : w.grownBy w' v.ownBlock) (hne : t ≠ 99) : Digs w' A zs := by
  have key : 0 < zs.length → ∀ ad, A = some ad → some ad.block ≠ v.ownBlock := by
    intro hp ad e he
    obtain ⟨cs', fz, hc⟩ := h.u32 hp ad e
    rcases ho.2 with ⟨rfl, _⟩ | ⟨g, cap, cur, rfl, _, hg', _⟩
    · simp [Value.ownBlock] at he
    · have : ad.block = g := by simpa [Value.ownBlock] using he
      rw [this, hg'] at hc
      injection hc with hc
      injection hc with _ ht
      exact hne ht
  refine ⟨⟨h.sl.len, fun hp => ?_⟩, fun hp ad e => ?_⟩
  · obtain ⟨ad, e, hlt, ha⟩ := h.sl.lies hp
    refine ⟨ad, e, Nat.lt_of_lt_of_le hlt hg.size, fun j u hu => hg.cell (ha j u hu) (by rw [add_block]; exact key hp ad e)⟩
  · obtain ⟨cs, fz, hc⟩ := h.u32 hp ad e
    exact ⟨cs, fz, (hg.block _ (Array.getElem?_eq_some_iff.1 hc).1 (key hp ad e)).trans hc⟩
/-- How many digits are left of the first k when the leading zeros are struck. -/
def tzl (xs : List Nat) : Nat → Nat
  | 0 => 0
  | k + 1 => if xs.getD k 0 = 0 then tzl xs k else k + 1
theorem tzl_le (xs : List Nat) : ∀ k, tzl xs k ≤ k
  | 0 => Nat.le_refl _
  | k + 1 => by
    unfold tzl
    have := tzl_le xs k
    split <;> omega
theorem trim_any (A : Option Addr) (c : Nat) (xs : List Nat) (w : World) (hA : Digs w A xs) (hn : xs.length ≤ 1000) (hc : xs.length ≤ c) :
    Calls Tryz.prog 100 #[.slice A xs.length c] w fun e w' => e = .returned (.slice A (tzl xs xs.length) c) ∧ w = w' := by
  obtain ⟨r, hr⟩ : ∃ r, tzl xs xs.length = r := ⟨_, rfl⟩
  rw [hr]
  have HR : Hid (tzl xs xs.length = r) := Lib.hid hr
  clear hr
  go_enter Tryz.func100, Tryz.ntmps100
  go_wp2
  go_loop [0] (fun s0 => ∃ k : Nat, s0 = .slice A k c ∧ k ≤ xs.length ∧ Hid (tzl xs k = r)) (fun s0 => match s0 with | .slice _ k _ => k | _ => 0)
  case atStart => exact ⟨xs.length, rfl, Nat.le_refl _, HR⟩
  case round =>
    obtain ⟨k, rfl, hk, HK⟩ := hrel
    cases k with
    | zero =>
      obtain rfl : r = 0 := HK.out.symm
      go_wp2
      go_ret
      exact ⟨rfl, rfl⟩
    | succ k =>
      obtain ⟨ad, rfl, hck⟩ := Digs.at hA (k := k) (by omega)
      have HX : Hid (xs.getD k 0 = xs[k]) := Lib.hid (by simp [show k < xs.length by omega])
      generalize xs[k] = x at hck HX
      by_cases hx : x = 0
      · subst hx
        have HK2 : Hid (tzl xs k = r) := Lib.hid (by have := HK.out; unfold tzl at this; rwa [if_pos HX.out] at this)
        go_wp2
        go_round
        case rel => exact ⟨k, rfl, by omega, HK2⟩
        case measure => simp
      · have hb : ((x : Int) == 0) = false := by simp [hx]
        have hb' : (x == 0) = false := by simp [hx]
        obtain rfl : r = k + 1 := by have := HK.out; unfold tzl at this; rw [if_neg (by rw [HX.out]; exact hx)] at this; exact this.symm
        go_wp2
        go_ret
        exact ⟨rfl, rfl⟩
theorem make1_any (b : Bool) (A : Option Addr) (n c : Nat) (w : World) (v : Bool) (hv : (b && decide (0 < n)) = v) (hn : n ≤ 1000000) :
    Calls Tryz.prog 69 #[.bool b, .slice A n c] w fun e w' => e = .returned (.agg #[.bool v, .slice A n c]) ∧ Below w.heap.size w w' := by
  have hbA : Below w.heap.size w (w.alloc (.cells #[.bool v, .slice A n c] 80)) := (Below.refl _ _).alloc (Nat.le_refl _) _
  have hB := Blk.new w 80 #[.bool v, .slice A n c]
  cases b with
  | false =>
    obtain rfl : v = false := by rw [← hv]; rfl
    obtain ⟨a0, a1, _, _⟩ := hB.two
    go_enter Tryz.func69, Tryz.ntmps69
    go_wp2
    exact bodyPost_ret (v := .agg #[.bool false, .slice A n c]) (by simp [results, Tryz.results69, go_sem, a0, a1]) rfl ⟨rfl, hbA⟩
  | true =>
    obtain rfl : decide (0 < n) = v := by rw [← hv]; rfl
    obtain ⟨a0, a1, _, _⟩ := hB.two
    by_cases h0 : 0 < n
    · have hd : decide ((0 : Int) < (n : Int)) = true := by simp; omega
      have hd' : decide (0 < n) = true := by simp; omega
      rw [hd'] at a0 a1 hbA ⊢
      clear hv hB
      go_enter Tryz.func69, Tryz.ntmps69
      go_wp2
      exact bodyPost_ret (v := .agg #[.bool true, .slice A n c]) (by simp [results, Tryz.results69, go_sem, a0, a1]) rfl ⟨rfl, hbA⟩
    · have hd : decide ((0 : Int) < (n : Int)) = false := by simp; omega
      have hd' : decide (0 < n) = false := by simp; omega
      rw [hd'] at a0 a1 hbA ⊢
      clear hv hB
      go_enter Tryz.func69, Tryz.ntmps69
      go_wp2
      exact bodyPost_ret (v := .agg #[.bool false, .slice A n c]) (by simp [results, Tryz.results69, go_sem, a0, a1]) rfl ⟨rfl, hbA⟩
theorem sign_any (b : Bool) (A : Option Addr) (n c : Nat) (w : World) (hn : n ≤ 1000000) (s : Int) (hs : (if b = true then -1 else if n = 0 then 0 else 1) = s) :
    Calls Tryz.prog 80 #[.agg #[.bool b, .slice A n c]] w fun e w' => e = .returned (.int .i64 s) ∧ Below w.heap.size w w' := by
  have hbA : Below w.heap.size w (w.alloc (.cells #[.bool b, .slice A n c] 80)) := (Below.refl _ _).alloc (Nat.le_refl _) _
  cases b with
  | true =>
    obtain rfl : s = -1 := by rw [← hs]; rfl
    clear hs
    go_enter Tryz.func80, Tryz.ntmps80
    go_wp2
    go_ret
    exact ⟨rfl, hbA⟩
  | false =>
    by_cases h0 : n = 0
    · subst h0
      obtain rfl : s = 0 := by rw [← hs]; rfl
      clear hs
      go_enter Tryz.func80, Tryz.ntmps80
      go_wp2
      go_ret
      exact ⟨rfl, hbA⟩
    · obtain rfl : s = 1 := by rw [← hs, if_neg (by simp), if_neg h0]
      have hz : ((n : Int) == 0) = false := beq_eq_false_iff_ne.2 (by omega)
      have hz' : (n == 0) = false := beq_eq_false_iff_ne.2 h0
      clear h0 hs
      go_enter Tryz.func80, Tryz.ntmps80
      go_wp2
      go_ret
      exact ⟨rfl, hbA⟩
end Go.Proofs.Tg
end
section
/- The harness's numbers: the sign of a fraction. -/
namespace Go.Proofs.Tg
open Go.RowKit Go.Gr
set_option maxHeartbeats 1000000
set_option maxRecDepth 100000
theorem rsign_any (b b2 : Bool) (A A2 : Option Addr) (n c n2 c2 : Nat) (w : World) (hn : n ≤ 1000000) (s : Int) (hs : (if b = true then -1 else if n = 0 then 0 else 1) = s) :
    Calls Tryz.prog 66 #[.agg #[.bool b, .slice A n c, .bool b2, .slice A2 n2 c2]] w fun e w' => e = .returned (.int .i64 s) ∧ Below w.heap.size w w' := by
  have hbA : Below w.heap.size w (w.alloc (.cells #[.bool b, .slice A n c, .bool b2, .slice A2 n2 c2] 82)) := (Below.refl _ _).alloc (Nat.le_refl _) _
  have HS := Lib.hid (fun W => sign_any b A n c W hn s hs)
  clear hs
  go_enter Tryz.func66, Tryz.ntmps66
  go_wp2_with (fail)
  refine (HS.out _).mono ?_
  rintro e w2 ⟨rfl, hb2⟩
  go_wp2
  go_ret
  exact ⟨rfl, below_all hbA hb2⟩
/-- The product with an empty number is empty. -/
theorem mul_nil (B : Option Addr) (c m d : Nat) (A : Option Addr) (w : World) :
    Calls Tryz.prog 99 #[.slice A 0 c, .slice B m d] w fun e w' => e = .returned (.slice none 0 0) ∧ w = w' := by
  go_enter Tryz.func99, Tryz.ntmps99
  go_wp2
  go_ret
  exact ⟨rfl, rfl⟩
end Go.Proofs.Tg
end
section
/- The harness's numbers: the sum of nothing and one digit. -/
namespace Go.Proofs.Tg
open Go.RowKit Go.Gr
set_option maxHeartbeats 1000000
set_option maxRecDepth 100000
theorem dig_info : (Tryz.prog.info? 99).map (fun i => (i.zero, i.size, i.bytes)) = some (some (.int .u32 0), 1, 4) := by kernel_rfl
theorem make_digs (n : Nat) (hn : n ≤ 1000000) (w : World) : (Instr.makeSlice 78 (.int .i64 (n : Int)) (.int .i64 (n : Int))).run Tryz.prog w = .ok (.slice (some ⟨w.heap.size, 0, none⟩) n n) (w.alloc (.cells (madeCells #[.int .u32 0] n) 99)) := by
  obtain ⟨i0, hi, hz0, hz1, hz2⟩ := info_parts dig_info
  have hr := run_make (P := Tryz.prog) w 78 99 i0 (.int .u32 0) Tryz.underlying78 hi hz0 .i64 .i64 n n (by omega) (by omega) (by rw [hz2]; omega) (by omega)
  rw [hz1, Nat.mul_one, Int.toNat_natCast] at hr
  exact hr
theorem make_digs2 (w : World) : (Instr.makeSlice 78 (.int .i64 2) (.int .i64 2)).run Tryz.prog w = .ok (.slice (some ⟨w.heap.size, 0, none⟩) 2 2) (w.alloc (.cells #[.int .u32 0, .int .u32 0] 99)) := by
  have e : madeCells #[Value.int .u32 0] 2 = #[.int .u32 0, .int .u32 0] := by kernel_rfl
  have := make_digs 2 (by omega) w
  rw [e] at this
  exact this
theorem add_one (A : Option Addr) (c d g v : Nat) (w : World) (hB : Blk w g 99 #[.int .u32 (v : Nat)]) (hv : v < 4294967296) :
    Calls Tryz.prog 98 #[.slice A 0 c, .slice (some ⟨g, 0, none⟩) 1 d] w fun e w' => e = .returned (.slice (some ⟨w.heap.size, 0, none⟩) (tzl [v, 0] 2) 2) ∧ Blk w' w.heap.size 99 #[.int .u32 (v : Nat), .int .u32 0] ∧ Below w.heap.size w w' := by
  have hmk := fun W => make_digs2 W
  have hc := hB.cell 0
  simp at hc
  have hg := hB.lt
  go_enter Tryz.func98, Tryz.ntmps98
  have hdv : (v : Int) / 4294967296 = 0 := by omega
  have hB2 := Blk.new w 99 #[.int .u32 (v : Nat), .int .u32 0]
  have hbA : Below w.heap.size w (w.alloc (.cells #[.int .u32 (v : Nat), .int .u32 0] 99)) := (Below.refl _ _).alloc (Nat.le_refl _) _
  have hD : Digs (w.alloc (.cells #[.int .u32 (v : Nat), .int .u32 0] 99)) (some ⟨w.heap.size, 0, none⟩) [v, 0] := digs_of hB2
  have HT := Lib.hid (trim_any (some ⟨w.heap.size, 0, none⟩) 2 [v, 0] _ hD (by simp) (by simp))
  have HB2 := Lib.hid hB2
  clear hD hB2
  go_wp2
  refine wp_loop_rounds 2 ?_
  rw [rounds_succ]
  go_wp2_with (fail)
  rw [rounds_succ]
  go_wp2_with (fail)
  refine HT.out.mono ?_
  rintro e _ ⟨rfl, rfl⟩
  go_wp2
  go_ret
  exact ⟨rfl, HB2.out, hbA⟩
end Go.Proofs.Tg
end
section
/- The harness's numbers: one digit divided by one. -/
namespace Go.Proofs.Tg
open Go.RowKit Go.Gr
set_option maxHeartbeats 1000000
set_option maxRecDepth 100000
theorem make_digs1 (w : World) : (Instr.makeSlice 78 (.int .i64 1) (.int .i64 1)).run Tryz.prog w = .ok (.slice (some ⟨w.heap.size, 0, none⟩) 1 1) (w.alloc (.cells #[.int .u32 0] 99)) := by
  have e : madeCells #[Value.int .u32 0] 1 = #[.int .u32 0] := by kernel_rfl
  have := make_digs 1 (by omega) w
  rw [e] at this
  exact this
theorem sdiv_one (A : Option Addr) (c v d : Nat) (w : World) (hA : Digs w A [v]) (hv : v < 4294967296) (hd : d < 4294967296) (hd0 : 0 < d) :
    Calls Tryz.prog 82 #[.slice A 1 c, .int .u32 (d : Nat)] w fun e w' => e = .returned (.tuple #[.slice (some ⟨w.heap.size, 0, none⟩) (tzl [v / d] 1) 1, .int .u32 ((v % d : Nat))]) ∧ Blk w' w.heap.size 99 #[.int .u32 (v / d : Nat)] ∧ Below w.heap.size w w' := by
  have hmk := fun W => make_digs1 W
  obtain ⟨ad, rfl, hc⟩ := Digs.at hA (k := 0) (by simp)
  have hc : w.cell? ad = some (.int .u32 (v : Nat)) := by simpa [Addr.add] using hc
  have hlt : ad.block < w.heap.size := World.block_lt_of_cell? w _ hc
  have ho : bits BinOp.or IntKind.u64 0 (v : Int) = (v : Int) := by
    simp [bits]
    have e : (2 : Int) ^ IntKind.u64.bits = 18446744073709551616 := by decide
    rw [e, Int.emod_eq_of_lt (by omega) (by omega)]
    exact wrap_nat v (by omega)
  have hle : v / d ≤ v := Nat.div_le_self _ _
  have hml : v % d < d := Nat.mod_lt _ hd0
  obtain ⟨q, hq⟩ : ∃ q, v / d = q := ⟨_, rfl⟩
  obtain ⟨r, hr⟩ : ∃ r, v % d = r := ⟨_, rfl⟩
  have hq1 : (v : Int) / (d : Int) = (q : Int) := by rw [← hq]; simp
  have hr1 : (v : Int) % (d : Int) = (r : Int) := by rw [← hr]; simp
  rw [hq, hr]
  rw [hq] at hle
  rw [hr] at hml
  clear hq hr
  have hq2 : (q : Int) % 4294967296 = (q : Int) := Int.emod_eq_of_lt (by omega) (by omega)
  have hr2 : (r : Int) % 4294967296 = (r : Int) := Int.emod_eq_of_lt (by omega) (by omega)
  have hq3 := wrap_nat q (by omega)
  have hB2 := Blk.new w 99 #[.int .u32 (q : Nat)]
  have hbA : Below w.heap.size w (w.alloc (.cells #[.int .u32 (q : Nat)] 99)) := (Below.refl _ _).alloc (Nat.le_refl _) _
  have hD : Digs (w.alloc (.cells #[.int .u32 (q : Nat)] 99)) (some ⟨w.heap.size, 0, none⟩) [q] := digs_of hB2
  have HT := Lib.hid (trim_any (some ⟨w.heap.size, 0, none⟩) 1 [q] _ hD (by simp) (by simp))
  have HB2 := Lib.hid hB2
  clear hD hB2
  go_enter Tryz.func82, Tryz.ntmps82
  go_wp2
  refine wp_loop_rounds 2 ?_
  rw [rounds_succ]
  go_wp2_with (fail)
  rw [rounds_succ]
  go_wp2_with (fail)
  refine HT.out.mono ?_
  rintro e _ ⟨rfl, rfl⟩
  go_wp2
  go_ret2
  exact ⟨rfl, HB2.out, hbA⟩
end Go.Proofs.Tg
end
section
/- The harness's numbers: numbers of one digit compared. -/
namespace Go.Proofs.Tg
open Go.RowKit Go.Gr
set_option maxHeartbeats 1000000
set_option maxRecDepth 100000
theorem cmp_one (A B : Option Addr) (c d a b : Nat) (w : World) (hA : Digs w A [a]) (hB : Digs w B [b]) :
    Calls Tryz.prog 138 #[.slice A 1 c, .slice B 1 d] w fun e w' => e = .returned (.int .i64 (if a < b then -1 else if a = b then 0 else 1)) ∧ Dr w w' := by
  obtain ⟨ad, rfl, ha⟩ := Digs.at hA (k := 0) (by simp)
  obtain ⟨bd, rfl, hb⟩ := Digs.at hB (k := 0) (by simp)
  have ha : w.cell? ad = some (.int .u32 (a : Nat)) := by simpa [Addr.add] using ha
  have hb : w.cell? bd = some (.int .u32 (b : Nat)) := by simpa [Addr.add] using hb
  clear hA hB
  by_cases h1 : a = b
  · subst h1
    have hn : ((a : Int) != (a : Int)) = false := by simp
    rw [if_neg (by omega), if_pos rfl]
    go_enter Tryz.func138, Tryz.ntmps138
    go_wp2
    refine wp_loop_rounds 2 ?_
    rw [rounds_succ]
    go_wp2
    go_quiet (fail)
    go_wp2
    rw [rounds_succ]
    go_wp2
    go_ret
    exact ⟨rfl, (Dr.refl _).drewN _⟩
  · have hn : ((a : Int) != (b : Int)) = true := by simp; omega
    by_cases h2 : a < b
    · rw [if_pos h2]
      have hl : decide ((a : Int) < (b : Int)) = true := by simp; omega
      have hl' : decide (a < b) = true := by simp; omega
      go_enter Tryz.func138, Tryz.ntmps138
      go_wp2
      refine wp_loop_rounds 2 ?_
      rw [rounds_succ]
      go_wp2
      go_quiet (fail)
      generalize hW : w.drewN _ = W
      have HW := Lib.hid hW
      have ha' : W.cell? ad = some (.int .u32 (a : Nat)) := by rw [← hW]; exact ha
      have hb' : W.cell? bd = some (.int .u32 (b : Nat)) := by rw [← hW]; exact hb
      clear hW
      go_wp2
      go_quiet (fail)
      go_wp2
      go_ret
      refine ⟨rfl, ?_⟩
      rw [← HW.out]
      exact ((Dr.refl _).drewN _).drewN _
    · rw [if_neg h2, if_neg h1]
      have hl : decide ((a : Int) < (b : Int)) = false := by simp; omega
      have hl' : decide (a < b) = false := by simp; omega
      go_enter Tryz.func138, Tryz.ntmps138
      go_wp2
      refine wp_loop_rounds 2 ?_
      rw [rounds_succ]
      go_wp2
      go_quiet (fail)
      generalize hW : w.drewN _ = W
      have HW := Lib.hid hW
      have ha' : W.cell? ad = some (.int .u32 (a : Nat)) := by rw [← hW]; exact ha
      have hb' : W.cell? bd = some (.int .u32 (b : Nat)) := by rw [← hW]; exact hb
      clear hW
      go_wp2
      go_quiet (fail)
      go_wp2
      go_ret
      refine ⟨rfl, ?_⟩
      rw [← HW.out]
      exact ((Dr.refl _).drewN _).drewN _
end Go.Proofs.Tg
end
