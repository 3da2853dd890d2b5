/- Parts of the proof: XR2, XK3, XK4, E5. -/
import Derived.Deep.AppendLies
import Derived.Deep.RegionHeld3
import Derived.Test.YtodapfjmgnekkaaGreatDoorMU4
import Derived.Test.YtodapfjmgnekkaaGreatDoorMU15
import Derived.Test.YtodapfjmgnekkaaGreatDoorMU16
import Derived.Test.YtodapfjmgnekkaaGreatDoorMU17
section
/- The reference's reading of a polynomial: well-formed or not. -/
namespace Go.Proofs.Tg
open Go.RowKit Go.Gr Go.Mo Go.Qn
set_option maxHeartbeats 4000000
set_option maxRecDepth 100000
/-- An operation that the guard passes over is taken first. -/
theorem wpAny_skip {P : Program} {md : Region.Mode} {ops : Array Oper} {Q : Exit → Act → World → Prop} (i : Nat) (d : Option Tmp) {oi : Oper} {fuel : Nat} {listed : Array Bool} {a : Act} {w : World} (hi : ops[i]? = some oi) (hd : oi.dst = d)
    (hs : Region.noSelect ops = true) (hf : Region.free md ops listed i = true) (hr : (Region.ready md ops listed).contains i = true) (hQ : ∀ c a w, Q (.panic c) (a.put d undef) w → Q (.panic c) a w)
    (hw : Region.wanted oi (yielded ops a.tmps) = false) (h : wpAny P md ops Q fuel (listed.setIfInBounds i true) (a.put d undef) w) : wpAny P md ops Q (fuel + 1) listed a w := by
  subst hd
  exact wpAny_take hi hs hf hr hQ (.inr ⟨hw, rfl⟩) h
/-- An operation that yields v in whatever world is taken first. -/
theorem wpAny_get {P : Program} {md : Region.Mode} {ops : Array Oper} {Q : Exit → Act → World → Prop} (i : Nat) (d : Option Tmp) (v : Value) {oi : Oper} {fuel : Nat} {listed : Array Bool} {a : Act} {w : World} (hi : ops[i]? = some oi) (hd : oi.dst = d)
    (hs : Region.noSelect ops = true) (hf : Region.free md ops listed i = true) (hr : (Region.ready md ops listed).contains i = true) (hQ : ∀ c a w, Q (.panic c) (a.put d v) w → Q (.panic c) a w)
    (hw : Region.wanted oi (yielded ops a.tmps) = true) (hy : ∀ w, (execOp a.eval oi).run P w = .ok (.value v) w) (h : wpAny P md ops Q fuel (listed.setIfInBounds i true) (a.put d v) w) : wpAny P md ops Q (fuel + 1) listed a w := by
  subst hd
  exact wpAny_take hi hs hf hr hQ (.inl ⟨hw, hy⟩) h
/-- The same, where a condition on the world is held. -/
theorem wpAnyH_get {P : Program} {md : Region.Mode} {ops : Array Oper} {Q : Exit → Act → World → Prop} {S : World → Prop} (i : Nat) (d : Option Tmp) (v : Value) {oi : Oper} {fuel : Nat} {listed : Array Bool} {a : Act} {w : World} (hi : ops[i]? = some oi) (hd : oi.dst = d)
    (hs : Region.noSelect ops = true) (hf : Region.free md ops listed i = true) (hr : (Region.ready md ops listed).contains i = true) (hQ : ∀ c a w, Q (.panic c) (a.put d v) w → Q (.panic c) a w)
    (hw : Region.wanted oi (yielded ops a.tmps) = true) (hS : S w) (hy : ∀ w, S w → (execOp a.eval oi).run P w = .ok (.value v) w) (h : wpAnyH P md ops Q S fuel (listed.setIfInBounds i true) (a.put d v) w) : wpAnyH P md ops Q S (fuel + 1) listed a w := by
  subst hd
  exact wpAnyH_take hi hs hf hr hQ (.inl ⟨hw, hy⟩) hS h
/-- The coefficient's cells hold the number that the text says. -/
def RCo (w : World) (t : RT) (s : ByteArray) : Prop := ∃ b n m N cn D cd, rd s.data.toList = some (b, n, m) ∧ n < 1000000000 ∧ m < 1000000000 ∧ m ≠ 0 ∧ t.c0 = .bool b ∧ t.c1 = .slice N (mg n).length cn ∧ t.c2 = .bool false ∧ t.c3 = .slice D (dl m).length cd ∧ Digs w N (mg n) ∧ Digs w D (dl m)
theorem RCo.keep {w w' : World} {t : RT} {s : ByteArray} (h : RCo w t s) (hb : Below w.heap.size w w') : RCo w' t s := by
  obtain ⟨b, n, m, N, cn, D, cd, h1, h2, h3, h4, h5, h6, h7, h8, h9, h10⟩ := h
  exact ⟨b, n, m, N, cn, D, cd, h1, h2, h3, h4, h5, h6, h7, h8, h9.keep hb, h10.keep hb⟩
theorem RCo.grown {w w' : World} {t : RT} {s : ByteArray} {ys : List Value} {b sz n : Nat} {ty : TypeId} {v : Value} (h : RCo w t s) (ho : w.ownsRow b ty sz v n ys) (hg : w.grownBy w' v.ownBlock) (hne : ty ≠ 141) : RCo w' t s := by
  obtain ⟨b, n, m, N, cn, D, cd, h1, h2, h3, h4, h5, h6, h7, h8, h9, h10⟩ := h
  exact ⟨b, n, m, N, cn, D, cd, h1, h2, h3, h4, h5, h6, h7, h8, h9.grown ho hg hne, h10.grown ho hg hne⟩
theorem RCo.far {w : World} {t : RT} {s : ByteArray} {g : Nat} {ty : TypeId} {cs : Array Value} (h : RCo w t s) (B : Blk w g ty cs) (hne : ty ≠ 141) (i : Nat) (u : Value) : RCo (w.setCell ⟨g, i, none⟩ u) t s := by
  obtain ⟨b, n, m, N, cn, D, cd, h1, h2, h3, h4, h5, h6, h7, h8, h9, h10⟩ := h
  exact ⟨b, n, m, N, cn, D, cd, h1, h2, h3, h4, h5, h6, h7, h8, h9.far (h9.off_ty B hne) i u, h10.far (h10.off_ty B hne) i u⟩
def RT.core (t : RT) : Option Addr × Nat × List Int := (t.adr, t.cap, t.exps)
def TV.core (t : TV) : Option Addr × Nat × List Int := (t.adr, t.cap, t.exps)
/-- What the reading has made after k terms. -/
structure ReadSt (w : World) (v : Int) (T : Option Addr) (cT : Nat) (tv : List TV) (wr : World) (k : Nat) (O : Option Addr) (co : Nat) (ts : List RT) : Prop where
  core : ts.map RT.core = (tv.take k).map TV.core
  below : Below w.heap.size w wr
  b1 : Blk wr w.heap.size 24 #[.int .i64 v, .slice T tv.length cT]
  b2 : Blk wr (w.heap.size + 1) 47 #[.int .i64 0, .slice none 0 0]
  b4 : Blk wr (w.heap.size + 1 + 1) 47 #[.int .i64 v, .slice O ts.length co]
  own : wr.ownsRow (w.heap.size + 3) 58 5 (.slice O ts.length co) ts.length (ts.flatMap RT.cells)
  nums : ∀ (j : Nat) (h1 : j < ts.length) (h2 : j < tv.length), RCo wr ts[j] tv[j].coef
theorem rt_info : (Tryz.prog.info? 58).map (fun i => (i.zero, i.size, i.bytes)) = some (some (.agg #[.bool false, .slice none 0 0, .bool false, .slice none 0 0, .slice none 0 0]), 5, 88) := by kernel_rfl
def RetRead6 (v : Int) (tv : List TV) (w : World) (e : Ending) (w' : World) : Prop :=
  Below w.heap.size w w' ∧ ((¬ wfP v (tv.map TV.pl) ∧ e = .returned (.tuple #[.agg #[.int .i64 0, .slice none 0 0], .bool false])) ∨
    (wfP v (tv.map TV.pl) ∧ ∃ (O : Option Addr) (co : Nat) (ts : List RT), e = .returned (.tuple #[.agg #[.int .i64 v, .slice O ts.length co], .bool true]) ∧ w'.ownsRow w.heap.size 58 5 (.slice O ts.length co) ts.length (ts.flatMap RT.cells) ∧ ts.map RT.core = tv.map TV.core ∧ ∀ (j : Nat) (h1 : j < ts.length) (h2 : j < tv.length), RCo w' ts[j] tv[j].coef))
theorem wf_bad {v : Int} {ts : List Term} {k : Nat} (hk : k < ts.length) (h : ¬ (termOk v ts[k] = true ∧ (0 < k → 0 < Mo.ord (ts.getD (k - 1) default).2 ts[k].2))) : ¬ wfP v ts := fun hw => h (hw.2.2 k hk hk)
/-- A number read, flat: what it is as a sign, and whether it is a coefficient. -/
def RetRR (s : ByteArray) (w : World) (e : Ending) (w' : World) : Prop :=
  Below w.heap.size w w' ∧ ∃ x A n c y B m d ok, ∃ z : Int, (ok = true → n ≤ 1000000 ∧ (if x = true then -1 else if n = 0 then 0 else 1) = z) ∧ e = .returned (.tuple #[.agg #[.bool x, .slice A n c, .bool y, .slice B m d], .bool ok]) ∧ coefOk s = (ok && !(z == 0)) ∧ (ok = true → ∀ E ce el, RCo w' ⟨.bool x, .slice A n c, .bool y, .slice B m d, E, ce, el⟩ s)
theorem rread_flat (s : ByteArray) (w : World) (hs : s.size ≤ 8) : Calls Tryz.prog 76 #[.string s] w (RetRR s w) := by
  refine (rread_any s w hs).mono ?_
  rintro e w' ⟨hb, ⟨hr, x, A, n, c, y, B, m, d, rfl⟩ | ⟨b, n, m, hr, hn, hm, hm0, N, cn, D, cd, rfl, hN, hD⟩⟩
  · exact ⟨hb, x, A, n, c, y, B, m, d, false, 0, (fun h => by cases h), rfl, by unfold coefOk; rw [hr]; rfl, (fun h => by cases h)⟩
  · refine ⟨hb, b, N, _, cn, false, D, _, cd, true, _, fun _ => ⟨?_, rfl⟩, rfl, ?_, fun _ E ce el => ⟨b, n, m, N, cn, D, cd, hr, hn, hm, hm0, rfl, rfl, rfl, rfl, hN, hD⟩⟩
    · have := mg_le n; omega
    · unfold coefOk
      rw [hr]
      have hc := (rd_some hr).1.2.2
      by_cases h0 : n = 0
      · subst h0
        rw [hc rfl]; simp [mg]
      · rw [mg_pos h0]
        cases b <;> simp [h0]
theorem read6_any (v : Int) (T : Option Addr) (cT : Nat) (tv : List TV) (w : World) (hA : TermsAt w T tv) (hn : tv.length ≤ 4096) (hs : ∀ t ∈ tv, t.coef.size ≤ 8 ∧ t.exps.length ≤ 64) :
    Calls Tryz.prog 49 #[.agg #[.int .i64 v, .slice T tv.length cT]] w (RetRead6 v tv w) := by
  have HSM := Lib.hid hs
  clear hs
  obtain ⟨i0, hi, iz0, iz1, iz2⟩ := info_parts rt_info
  obtain ⟨W, hW⟩ : ∃ W, ((w.alloc (.cells #[.int .i64 v, .slice T tv.length cT] 24)).alloc (.cells #[.int .i64 0, .slice none 0 0] 47)).alloc (.cells #[.int .i64 v, .slice none 0 0] 47) = W := ⟨_, rfl⟩
  have B1 : Blk W w.heap.size 24 #[.int .i64 v, .slice T tv.length cT] := by rw [← hW]; exact ((Blk.new _ _ _).alloc _).alloc _
  have B2 : Blk W (w.heap.size + 1) 47 #[.int .i64 0, .slice none 0 0] := by
    rw [← hW]; have := (Blk.new (w.alloc (.cells #[.int .i64 v, .slice T tv.length cT] 24)) 47 #[.int .i64 0, .slice none 0 0]).alloc (.cells #[.int .i64 v, .slice none 0 0] 47)
    simpa using this
  have B4 : Blk W (w.heap.size + 1 + 1) 47 #[.int .i64 v, .slice none 0 0] := by
    rw [← hW]; have := (Blk.new ((w.alloc (.cells #[.int .i64 v, .slice T tv.length cT] 24)).alloc (.cells #[.int .i64 0, .slice none 0 0] 47)) 47 #[.int .i64 v, .slice none 0 0])
    simpa using this
  have hbW : Below w.heap.size w W := by rw [← hW]; exact (((Below.refl _ _).alloc (Nat.le_refl _) _).alloc (by simp) _).alloc (by simp; omega) _
  have hWs : W.heap.size = w.heap.size + 3 := by rw [← hW]; simp
  have HWW := Lib.hid hW
  clear hW
  obtain ⟨a0, a1, _, _⟩ := B1.two
  obtain ⟨d0, d1, d2, d3⟩ := B2.two
  by_cases hv : 0 ≤ v ∧ v ≤ 6
  · obtain ⟨hv0, hv6⟩ := hv
    obtain ⟨vn, rfl⟩ : ∃ vn : Nat, v = vn := ⟨v.toNat, by omega⟩
    have v1 : decide ((vn : Int) < 0) = false := decide_eq_false (by omega)
    have v2 : decide ((6 : Int) < (vn : Int)) = false := decide_eq_false (by omega)
    go_enter Tryz.func49, Tryz.ntmps49
    go_upto_region 2 with (fail)
    rw [HWW.out]
    go_wp2
    go_loopw [5] (fun s5 wr => ∃ (k : Nat) (O : Option Addr) (co : Nat) (ts : List RT), s5 = .int .i64 k ∧ k ≤ tv.length ∧ ReadSt w vn T cT tv wr k O co ts ∧ Hid (wfTo vn (tv.map TV.pl) k)) (fun s5 _ => tv.length - (intOf s5).toNat)
    case atStart => exact ⟨0, none, 0, [], rfl, Nat.zero_le _, ⟨rfl, hbW, B1, B2, B4, World.ownsRow_nil _ _ _ _, fun j h => absurd h (by simp)⟩, Lib.hid (wfTo_zero _ _)⟩
    case round =>
      clear a0 a1 d0 d1 d2 d3 B1 B2 B4
      obtain ⟨wo, rfl⟩ : ∃ wo : World, wo = wr := ⟨_, rfl⟩
      obtain ⟨k, O, co, ts, rfl, hk, hst, HWF⟩ := hrel
      obtain ⟨hcore, hbr, B1, B2, B4, hown, hnums⟩ := hst
      have HNS := Lib.hid hnums
      clear hnums
      have HCORE := Lib.hid hcore
      have htl : ts.length = k := by
        have := congrArg List.length hcore
        simpa [Nat.min_eq_left hk] using this
      have hz : w.heap.size + 3 ≤ wo.heap.size := by have := B4.lt; omega
      have HTL := Lib.hid htl
      have htl2 : ts.length ≤ 4096 := by omega
      clear hcore htl
      obtain ⟨a0, a1, _, _⟩ := B1.two
      by_cases hlt : k < tv.length
      · obtain ⟨ad, rfl, hc0, hc1, hI⟩ := TermsAt.at (hA.keep hbr) hlt
        have hadb : (ad.add (k * 2)).block < w.heap.size := by
          obtain ⟨ad', h1, h2, _⟩ := TermsAt.at hA hlt
          obtain rfl : ad = ad' := by simpa using h1
          exact World.block_lt_of_cell? _ _ h2
        have HPV : Hid (0 < k → ∃ A0 c0 el0, (∀ V, Below w.heap.size w V → V.cell? ⟨(ad.add ((k - 1) * 2)).block, (ad.add ((k - 1) * 2)).off + 1, none⟩ = some (.slice A0 el0.length c0) ∧ Ints V A0 el0) ∧ ((tv.map TV.pl).getD (k - 1) default).2 = el0 ∧ low20 el0 = true ∧ el0.length = vn) := Lib.hid (fun hk0 => by
          have hlt' : k - 1 < tv.length := by omega
          have ht := (HWF.out (k - 1) (by omega) (by simpa using hlt')).1
          rw [termOk_iff] at ht
          simp only [List.getElem_map, TV.pl] at ht
          refine ⟨tv[k - 1].adr, tv[k - 1].cap, tv[k - 1].exps, fun V hV => ?_, by simp [hlt', TV.pl], ht.2.2, by have := ht.2.1; omega⟩
          obtain ⟨ad', h1, _, h2, h3⟩ := TermsAt.at (hA.keep hV) hlt'
          obtain rfl : ad = ad' := by simpa using h1
          exact ⟨h2, h3⟩)
        have HPL : Hid ((tv.map TV.pl)[k]'(by simpa using hlt) = (tv[k].coef, tv[k].exps)) := Lib.hid (by simp [TV.pl])
        have HTK : Hid ((tv.take (k + 1)).map TV.core = (tv.take k).map TV.core ++ [TV.core tv[k]]) := Lib.hid (by rw [List.take_succ_eq_append_getElem hlt, List.map_append]; rfl)
        have HKC : Hid (∀ (h2 : k < tv.length), (tv[k]'h2).coef = (tv[k]'hlt).coef) := Lib.hid (fun _ => rfl)
        have hsm := HSM.out tv[k] (List.getElem_mem _)
        have hkm : k < (tv.map TV.pl).length := by simpa using hlt
        generalize tv[k] = t at *
        obtain ⟨s, E, ce, el⟩ := t
        simp only at *
        have HR := Lib.hid (fun V => rread_flat s V hsm.1)
        have hel := hsm.2
        have q0 : (0 : Int) ≤ (k : Int) := by omega
        have q1 : (k : Int) < (tv.length : Int) := by omega
        have q3 : ((k : Int)).toNat = k := by omega
        have HBADT : Hid (termOk vn (s, el) = false → ¬ wfP vn (tv.map TV.pl)) := Lib.hid (fun h => wf_bad hkm (fun h2 => by
          have h3 := h2.1
          rw [HPL.out, h] at h3
          cases h3))
        clear hsm
        go_wp2_with (fail)
        refine (HR.out _).mono ?_
        rintro e w1 ⟨hb1, x, A, n, c, y, B, m, d, ok, z, hsg, rfl, hco, hrc⟩
        have HRC := Lib.hid (fun h => hrc h E ce el)
        clear hrc
        have HCO := Lib.hid hco
        have HSG := Lib.hid hsg
        clear hco hsg
        go_upto_region 8 with (fail)
        obtain ⟨W1, hW1⟩ : ∃ W1, w1.alloc (.cells #[.bool x, .slice A n c, .bool y, .slice B m d] 55) = W1 := ⟨_, rfl⟩
        have C6 : Blk W1 w1.heap.size 55 #[.bool x, .slice A n c, .bool y, .slice B m d] := by rw [← hW1]; exact Blk.new _ _ _
        have hbW1 : Below w1.heap.size w1 W1 := by rw [← hW1]; exact (Below.refl _ _).alloc (Nat.le_refl _) _
        try rw [hW1]
        clear hW1
        have hb01 := below_all hb1 hbW1
        have C1 := B1.keep hb01 B1.lt
        have C2 := B2.keep hb01 B2.lt
        have C4 := B4.keep hb01 B4.lt
        have hownC := own_below hown hb01 (Nat.le_refl _)
        have hbC := below_all hbr hb01
        have e0 := keep_cell hb01 hc0
        have e1 := keep_cell hb01 hc1
        have hIC := hI.keep hb01
        have HNS := Lib.hid (fun j h1 h2 => (HNS.out j h1 h2).keep hb01)
        have HRC := Lib.hid (fun h => (HRC.out h).keep hbW1)
        have hz1 : wo.heap.size ≤ w1.heap.size := hb1.size
        clear B1 B2 B4 hown hbr hc0 hc1 hI hb1 hbW1 hb01 a0 a1
        obtain ⟨a0, a1, _, _⟩ := C1.two
        obtain ⟨r0, r1, r2, r3, _, _, _, _⟩ := C6.four
        obtain ⟨bad, hbad⟩ : ∃ bad : Bool, bad = true ↔ ¬ (ok = true ∧ z ≠ 0 ∧ el.length = vn) := ⟨decide (¬ (ok = true ∧ z ≠ 0 ∧ el.length = vn)), decide_eq_true_iff⟩
        have HBAD := Lib.hid hbad
        clear hbad
        have hbe : Below W1.heap.size W1 W1.drew := (Below.refl _ _).drew
        go_cut [56, 120] from 21 (fun s56 s120 wx => s56 = .bool bad ∧ s120 = undef ∧ Below W1.heap.size W1 wx)
        case first =>
          cases ok with
          | false =>
            obtain rfl : bad = true := HBAD.out.2 (fun h => by cases h.1)
            go_quiet (fail)
            go_wp2_with fail
            go_meet
            exact ⟨rfl, rfl, below_drewN (Below.refl _ _) _⟩
          | true =>
            have HSG := Lib.hid (HSG.out rfl)
            have HRS : Hid (∀ V, Below W1.heap.size W1 V → Calls Tryz.prog 77 #[.agg #[.bool x, .slice A n c, .bool y, .slice B m d]] V fun e w' => e = .returned (.int .i64 z) ∧ Below W1.heap.size W1 w') := Lib.hid (fun V h => (rsign_any x y A B n c m d V HSG.out.1 z HSG.out.2).mono fun e w' ⟨h1, h2⟩ => ⟨h1, below_all h h2⟩)
            by_cases hz0 : z = 0
            · obtain rfl : bad = true := HBAD.out.2 (fun h => h.2.1 hz0)
              subst hz0
              refine wp_region_any (by kernel_rfl) ?_
              try (change wpAny _ _ _ _ _ _ _ (World.drew _))
              refine wpAny_get 0 (some 38) (.bool true) rfl rfl (by kernel_rfl) (by kernel_rfl) (by kernel_rfl) (fun _ _ _ h => h) (by kernel_rfl) (fun _ => by kernel_rfl) ?_
              refine wpAny_get 1 (some 39) (.bool false) rfl rfl (by kernel_rfl) (by kernel_rfl) (by kernel_rfl) (fun _ _ _ h => h) (by kernel_rfl) (fun _ => by kernel_rfl) ?_
              refine wpAny_get 2 (some 40) (.bool false) rfl rfl (by kernel_rfl) (by kernel_rfl) (by kernel_rfl) (fun _ _ _ h => h) (by kernel_rfl) (fun _ => by kernel_rfl) ?_
              refine wpAny_ready (rs := [3]) (by kernel_rfl) (by simp) ?_
              refine AllReady.cons rfl (fun K hK => ?_) AllReady.nil
              go_simp
              refine hK _ _ ?_
              clear hK K
              refine wpAny_ready (rs := [4]) (by kernel_rfl) (by simp) ?_
              refine AllReady.cons rfl (fun K hK => ?_) AllReady.nil
              go_simp
              go_wp2_with (go_at_call 77; refine (HRS.out _ (by assumption)).mono ?_; rintro e w' ⟨rfl, hbe⟩)
              refine wpAny_get 5 (some 43) (.bool true) rfl rfl (by kernel_rfl) (by kernel_rfl) (by kernel_rfl) (fun _ _ _ h => h) (by kernel_rfl) (fun _ => by kernel_rfl) ?_
              refine wpAny_get 6 (some 44) (.bool true) rfl rfl (by kernel_rfl) (by kernel_rfl) (by kernel_rfl) (fun _ _ _ h => h) (by kernel_rfl) (fun _ => by kernel_rfl) ?_
              refine wpAny_get 7 (some 45) (.bool true) rfl rfl (by kernel_rfl) (by kernel_rfl) (by kernel_rfl) (fun _ _ _ h => h) (by kernel_rfl) (fun _ => by kernel_rfl) ?_
              refine wpAny_skip 8 (some 46) rfl rfl (by kernel_rfl) (by kernel_rfl) (by kernel_rfl) (fun _ _ _ h => h) (by kernel_rfl) ?_
              refine wpAny_skip 9 (some 47) rfl rfl (by kernel_rfl) (by kernel_rfl) (by kernel_rfl) (fun _ _ _ h => h) (by kernel_rfl) ?_
              refine wpAny_skip 10 (some 48) rfl rfl (by kernel_rfl) (by kernel_rfl) (by kernel_rfl) (fun _ _ _ h => h) (by kernel_rfl) ?_
              refine wpAny_skip 11 (some 49) rfl rfl (by kernel_rfl) (by kernel_rfl) (by kernel_rfl) (fun _ _ _ h => h) (by kernel_rfl) ?_
              refine wpAny_skip 12 (some 50) rfl rfl (by kernel_rfl) (by kernel_rfl) (by kernel_rfl) (fun _ _ _ h => h) (by kernel_rfl) ?_
              refine wpAny_skip 13 (some 51) rfl rfl (by kernel_rfl) (by kernel_rfl) (by kernel_rfl) (fun _ _ _ h => h) (by kernel_rfl) ?_
              refine wpAny_skip 14 (some 52) rfl rfl (by kernel_rfl) (by kernel_rfl) (by kernel_rfl) (fun _ _ _ h => h) (by kernel_rfl) ?_
              refine wpAny_skip 15 (some 53) rfl rfl (by kernel_rfl) (by kernel_rfl) (by kernel_rfl) (fun _ _ _ h => h) (by kernel_rfl) ?_
              refine wpAny_skip 16 (some 54) rfl rfl (by kernel_rfl) (by kernel_rfl) (by kernel_rfl) (fun _ _ _ h => h) (by kernel_rfl) ?_
              refine wpAny_skip 17 (some 55) rfl rfl (by kernel_rfl) (by kernel_rfl) (by kernel_rfl) (fun _ _ _ h => h) (by kernel_rfl) ?_
              refine wpAny_get 18 (some 56) (.bool true) rfl rfl (by kernel_rfl) (by kernel_rfl) (by kernel_rfl) (fun _ _ _ h => h) (by kernel_rfl) (fun _ => by kernel_rfl) ?_
              refine wpAny_done (by kernel_rfl) ?_ _
              go_simp
              all_goals
                go_wp2_with fail
                go_meet
                exact ⟨rfl, rfl, hbe⟩
            · have hzb : (z == 0) = false := by simp [hz0]
              by_cases hlv : el.length = vn
              · obtain rfl : bad = false := by
                  apply eq_false_of_ne_true
                  rw [HBAD.out]
                  exact fun h => h ⟨rfl, hz0, hlv⟩
                have hne : ((el.length : Int) != (vn : Int)) = false := by simp [hlv]
                have hne' : (el.length != vn) = false := by simp [hlv]
                clear hz0 hlv
                go_region_with (go_at_call 77; refine (HRS.out _ (by assumption)).mono ?_; rintro e w' ⟨rfl, hbe⟩; have D1 := C1.keep hbe C1.lt; obtain ⟨a0, a1, _, _⟩ := D1.two; have e0 := keep_cell hbe e0; have e1 := keep_cell hbe e1)
                all_goals
                  go_wp2_with fail
                  go_meet
                  exact ⟨rfl, rfl, hbe⟩
              · obtain rfl : bad = true := HBAD.out.2 (fun h => hlv h.2.2)
                have hne : ((el.length : Int) != (vn : Int)) = true := by simp; omega
                have hne' : (el.length != vn) = true := by simp [hlv]
                clear hz0 hlv
                go_region_with (go_at_call 77; refine (HRS.out _ (by assumption)).mono ?_; rintro e w' ⟨rfl, hbe⟩; have D1 := C1.keep hbe C1.lt; obtain ⟨a0, a1, _, _⟩ := D1.two; have e0 := keep_cell hbe e0; have e1 := keep_cell hbe e1)
                all_goals
                  go_wp2_with fail
                  go_meet
                  exact ⟨rfl, rfl, hbe⟩
        case rest =>
          obtain ⟨rfl, rfl, hbx⟩ := hcut
          have D1 := C1.keep hbx C1.lt
          have D2 := C2.keep hbx C2.lt
          have D4 := C4.keep hbx C4.lt
          have D6 := C6.keep hbx C6.lt
          have hownD := own_below hownC hbx (Nat.le_refl _)
          have hbD := below_all hbC hbx
          have g0 := keep_cell hbx e0
          have g1 := keep_cell hbx e1
          have hID := hIC.keep hbx
          have HNS := Lib.hid (fun j h1 h2 => (HNS.out j h1 h2).keep hbx)
          have HRC := Lib.hid (fun h => (HRC.out h).keep hbx)
          have hz2 : W1.heap.size ≤ wc.heap.size := hbx.size
          have hz3 := C6.lt
          clear C1 C2 C4 C6 hownC hbC e0 e1 hIC hbx hbe a0 a1 r0 r1 r2 r3
          obtain ⟨a0, a1, _, _⟩ := D1.two
          obtain ⟨d0, d1, d2, d3⟩ := D2.two
          cases bad with
          | true =>
            have HNO : Hid (¬ wfP vn (tv.map TV.pl)) := Lib.hid (HBADT.out (by
              apply eq_false_of_ne_true
              rw [termOk_iff]
              intro h
              refine HBAD.out.1 rfl ?_
              have h1 := h.1
              simp only at h1
              rw [HCO.out] at h1
              simp at h1
              exact ⟨h1.1, h1.2, by have := h.2.1; simp only at this; omega⟩))
            go_wp2
            refine bodyPost_ret (v := .tuple #[.agg #[.int .i64 0, .slice none 0 0], .bool false]) (by simp [results, Tryz.results49, go_sem, d0, d1]) rfl ⟨?_, .inl ⟨HNO.out, rfl⟩⟩
            exact below_far (below_far hbD (by omega) _ _) (by omega) _ _
          | false =>
            have hgood : ok = true ∧ z ≠ 0 ∧ el.length = vn := by
              apply Classical.byContradiction
              intro h
              have := HBAD.out.2 h
              cases this
            have HLV := Lib.hid hgood.2.2
            have HRG := Lib.hid (HRC.out hgood.1)
            clear HRC
            have HCF : Hid (coefOk s = true) := Lib.hid (by rw [HCO.out, hgood.1]; simp [hgood.2.1])
            clear hgood HBAD
            go_wp2
            go_loop [8] (fun s8 => ∃ j : Nat, s8 = .int .i64 j ∧ j ≤ vn ∧ Hid (∀ e ∈ el.take j, 0 ≤ e ∧ e ≤ 1048576)) (fun s8 => vn - (intOf s8).toNat)
            case atStart => exact ⟨0, rfl, Nat.zero_le _, Lib.hid (by simp)⟩
            case round =>
              obtain ⟨j, rfl, hj, HJ⟩ := hrel
              by_cases hjl : j < vn
              · have hje : j < el.length := by have := HLV.out; omega
                obtain ⟨ed, rfl, hcj⟩ := Ints.at hID hje
                have HT0 : Hid (el.take (j + 1) = el.take j ++ [el[j]]) := Lib.hid (List.take_succ_eq_append_getElem hje)
                have HMEM : Hid (el[j] ∈ el) := Lib.hid (List.getElem_mem _)
                have q4 : (j : Int) < (el.length : Int) := by omega
                generalize el[j] = ej at *
                by_cases hb0 : ej < 0
                · have hbd : decide (ej < 0) = true := by simpa using hb0
                  have HNO : Hid (¬ wfP vn (tv.map TV.pl)) := Lib.hid (HBADT.out (by
                    apply eq_false_of_ne_true
                    rw [termOk_iff, low20_iff]
                    intro h
                    have := h.2.2 ej HMEM.out
                    omega))
                  go_wp2
                  refine bodyPost_ret (v := .tuple #[.agg #[.int .i64 0, .slice none 0 0], .bool false]) (by simp [results, Tryz.results49, go_sem, d0, d1]) rfl ⟨?_, .inl ⟨HNO.out, rfl⟩⟩
                  exact below_far (below_far hbD (by omega) _ _) (by omega) _ _
                · have hbd : decide (ej < 0) = false := by simpa using hb0
                  by_cases hb9 : 1048576 < ej
                  · have hbd9 : decide (1048576 < ej) = true := by simpa using hb9
                    have HNO : Hid (¬ wfP vn (tv.map TV.pl)) := Lib.hid (HBADT.out (by
                      apply eq_false_of_ne_true
                      rw [termOk_iff, low20_iff]
                      intro h
                      have := h.2.2 ej HMEM.out
                      omega))
                    go_wp2
                    refine bodyPost_ret (v := .tuple #[.agg #[.int .i64 0, .slice none 0 0], .bool false]) (by simp [results, Tryz.results49, go_sem, d0, d1]) rfl ⟨?_, .inl ⟨HNO.out, rfl⟩⟩
                    exact below_far (below_far hbD (by omega) _ _) (by omega) _ _
                  · have hbd9 : decide (1048576 < ej) = false := by simpa using hb9
                    have HJ2 : Hid (∀ e ∈ el.take (j + 1), 0 ≤ e ∧ e ≤ 1048576) := Lib.hid (by
                      rw [HT0.out]
                      intro e he
                      rcases List.mem_append.1 he with h | h
                      · exact HJ.out e h
                      · simp at h; omega)
                    go_wp2
                    go_round
                    case rel => exact ⟨j + 1, by go_num, by omega, HJ2⟩
                    case measure => simp [intOf]; omega
              · obtain rfl : j = vn := by omega
                have HLOW : Hid (low20 el = true) := Lib.hid (by
                  rw [low20_iff]
                  have h := HJ.out
                  rwa [List.take_of_length_le (by rw [HLV.out]; exact Nat.le_refl _)] at h)
                have dd : decide (j < j) = false := by simp
                go_upto_region 15 with (fail)
                obtain ⟨wd, rfl⟩ : ∃ wd : World, wd = wc := ⟨_, rfl⟩
                obtain ⟨bad2, hbad2⟩ : ∃ bad2 : Bool, bad2 = true ↔ ¬ (0 < k → 0 < Mo.ord ((tv.map TV.pl).getD (k - 1) default).2 el) := ⟨decide (¬ (0 < k → 0 < Mo.ord ((tv.map TV.pl).getD (k - 1) default).2 el)), decide_eq_true_iff⟩
                have HBAD2 := Lib.hid hbad2
                clear hbad2
                go_cut [105, 120] from 21 (fun s105 s120 wx => s105 = .bool bad2 ∧ s120 = undef ∧ Below wd.heap.size wd wx)
                case first =>
                  by_cases hk0 : k = 0
                  · subst hk0
                    obtain rfl : bad2 = false := by
                      apply eq_false_of_ne_true
                      rw [HBAD2.out]
                      exact fun h => h (fun h => absurd h (by omega))
                    have hd0 : decide ((0 : Int) < ((0 : Nat) : Int)) = false := by decide
                    go_quiet (fail)
                    go_wp2_with fail
                    go_meet
                    exact ⟨rfl, rfl, below_drewN (Below.refl _ _) _⟩
                  · obtain ⟨A0, c0, el0, hp, hpe, hlow, hlen⟩ := HPV.out (by omega)
                    obtain ⟨p1, p2⟩ := hp wd hbD
                    have hdk : decide ((0 : Int) < (k : Int)) = true := by simp; omega
                    have hdk' : decide (0 < k) = true := by simp; omega
                    have HO : Hid (∀ W', Dr wd W' → Calls Tryz.prog 78 #[.slice A0 el0.length c0, .slice E el.length ce] W' fun e w' => e = .returned (.int .i64 (Mo.ord el0 el)) ∧ ∃ m, w' = W'.drewN m) := Lib.hid (fun W' hd => rord_any A0 E c0 ce el0 el W' (p2.keep hd.below) (hID.keep hd.below) (by have := HLV.out; omega) (by omega) hlow HLOW.out)
                    have hbad2 : bad2 = decide (Mo.ord el0 el ≤ 0) := by
                      have h1 := HBAD2.out
                      rw [hpe] at h1
                      by_cases ho : Mo.ord el0 el ≤ 0
                      · rw [decide_eq_true ho]
                        exact h1.2 (fun h => by have := h (by omega); omega)
                      · rw [decide_eq_false ho]
                        apply eq_false_of_ne_true
                        rw [h1]
                        exact fun h => h (fun _ => by omega)
                    subst hbad2
                    have i1 : (0 : Int) ≤ (k : Int) - 1 := by omega
                    have i2 : (k : Int) - 1 < (tv.length : Int) := by omega
                    have i3 : ((k : Int) - 1).toNat = k - 1 := by omega
                    have i4 : IntKind.i64.wrap ((k : Int) - 1) = (k : Int) - 1 := IntWalk.i64_in _ (by omega)
                    clear HBAD2 hpe hlow hlen hp
                    generalize Mo.ord el0 el = oz at *
                    go_quiet ((go_at_call 78; exact Calls.quiet_of (HO.out _ ⟨_, rfl⟩)))
                    go_wp2_with fail
                    go_meet
                    exact ⟨rfl, rfl, below_drewN (Below.refl _ _) _⟩
                case rest =>
                  obtain ⟨rfl, rfl, hbx⟩ := hcut
                  have F1 := D1.keep hbx D1.lt
                  have F2 := D2.keep hbx D2.lt
                  have F4 := D4.keep hbx D4.lt
                  have F6 := D6.keep hbx D6.lt
                  have hownF := own_below hownD hbx (Nat.le_refl _)
                  have HNS := Lib.hid (fun j h1 h2 => (HNS.out j h1 h2).keep hbx)
                  have HRG := Lib.hid (HRG.out.keep hbx)
                  have hbF := below_all hbD hbx
                  have k0 := keep_cell hbx g0
                  have k1 := keep_cell hbx g1
                  have hz4 : wd.heap.size ≤ wc.heap.size := hbx.size
                  clear D1 D2 D4 D6 hownD hbD g0 g1 hID hbx a0 a1 d0 d1 d2 d3
                  obtain ⟨a0, a1, _, _⟩ := F1.two
                  obtain ⟨d0, d1, d2, d3⟩ := F2.two
                  cases bad2 with
                  | true =>
                    have HNO : Hid (¬ wfP j (tv.map TV.pl)) := Lib.hid (wf_bad hkm (fun h => HBAD2.out.1 rfl (fun hk => by
                      have := h.2 hk
                      rw [HPL.out] at this
                      exact this)))
                    go_wp2
                    refine bodyPost_ret (v := .tuple #[.agg #[.int .i64 0, .slice none 0 0], .bool false]) (by simp [results, Tryz.results49, go_sem, d0, d1]) rfl ⟨?_, .inl ⟨HNO.out, rfl⟩⟩
                    exact below_far (below_far hbF (by omega) _ _) (by omega) _ _
                  | false =>
                    have HW2 : Hid (wfTo j (tv.map TV.pl) (k + 1)) := Lib.hid (wfTo_succ HWF.out hkm (by
                      rw [HPL.out, termOk_iff]
                      exact ⟨HCF.out, by have := HLV.out; simp only; omega, HLOW.out⟩) (fun hk => by
                      rw [HPL.out]
                      apply Classical.byContradiction
                      intro h
                      have := HBAD2.out.2 (fun h2 => h (h2 hk))
                      cases this))
                    clear HBAD2
                    obtain ⟨b0, b1, b2, b3⟩ := F4.two
                    obtain ⟨r0, r1, r2, r3, _, _, _, _⟩ := F6.four
                    obtain ⟨we, rfl⟩ : ∃ we : World, we = wc := ⟨_, rfl⟩
                    have HNW := Lib.hid (cells_new we 58 [.bool x, .slice A n c, .bool y, .slice B m d, .slice E el.length ce])
                    have l1 := F1.lt
                    have l4 := F4.lt
                    have l6 := F6.lt
                    have l7 := World.block_lt_of_cell? _ _ k1; simp only at l7
                    have k1' := cell_alloc k1 (.cells #[.bool x, .slice A n c, .bool y, .slice B m d, .slice E el.length ce] 58)
                    have b1' := cell_alloc b1 (.cells #[.bool x, .slice A n c, .bool y, .slice B m d, .slice E el.length ce] 58)
                    go_upto_region 17 with (fail)
                    clear d0 d1 d2 d3 HPV HPL HBADT HCO HSG HR HCF hkm hel k0 a0 HLOW
                    have f1 : w1.heap.size ≠ w.heap.size + 1 + 1 := by omega
                    have f2 : w.heap.size ≠ w.heap.size + 1 + 1 := by omega
                    have f3 : (ad.add (k * 2)).block ≠ w.heap.size + 1 + 1 := by omega
                    have hoa : some (ad.add (k * 2)).block ≠ (Value.slice O ts.length co).ownBlock := fun e => by have := (hownF.lt _ e.symm).1; omega
                    have ho1 := own_blk_ne hownF F1 (by decide)
                    have ho6 := own_blk_ne hownF F6 (by decide)
                    have far : ∀ (V : World) (p : Addr) (u u' : Value), V.cell? p = some u → p.block ≠ w.heap.size + 1 + 1 → (V.setCell ⟨w.heap.size + 1 + 1, 1, none⟩ u').cell? p = some u := fun V p u u' h hne => (World.cell?_setCell_other _ _ _ _ (fun e => hne (by rw [← e]))).trans h
                    have FAR := Lib.hid far
                    clear far
                    refine wp_region_held_drew (S := (fun w' => w'.cell? ⟨w1.heap.size, 0, none⟩ = some (.bool x) ∧ w'.cell? ⟨w1.heap.size, 1, none⟩ = some (.slice A n c) ∧ w'.cell? ⟨w1.heap.size, 2, none⟩ = some (.bool y) ∧ w'.cell? ⟨w1.heap.size, 3, none⟩ = some (.slice B m d) ∧ w'.cell? ⟨w.heap.size, 1, none⟩ = some (.slice (some ad) tv.length cT) ∧ w'.cell? ⟨(ad.add (k * 2)).block, (ad.add (k * 2)).off + 1, none⟩ = some (.slice E el.length ce))) (by kernel_rfl) ⟨r0, r1, r2, r3, a1, k1⟩ (fun hHeld => ?_)
                    refine wpAnyH_get 0 (some 107) (.pointer (some ⟨w.heap.size + 1 + 1, 1, none⟩)) rfl rfl (by kernel_rfl) (by kernel_rfl) (by kernel_rfl) (fun _ _ _ h => h) (by rfl) hHeld ?_ ?_
                    · (intro w hSw; (try dsimp only at hSw); go_simp; all_goals (try with_reducible rfl))
                    simp only [Act.put, List.setIfInBounds_toArray, List.set_cons_zero, List.set_cons_succ]
                    refine wpAnyH_get 2 (some 109) (.agg #[.bool x, .slice A n c, .bool y, .slice B m d]) rfl rfl (by kernel_rfl) (by kernel_rfl) (by kernel_rfl) (fun _ _ _ h => h) (by rfl) hHeld ?_ ?_
                    · (intro w hSw; (try dsimp only at hSw); go_simp; all_goals (try with_reducible rfl))
                    simp only [Act.put, List.setIfInBounds_toArray, List.set_cons_zero, List.set_cons_succ]
                    refine wpAnyH_get 3 (some 110) (.pointer (some ⟨w.heap.size, 1, none⟩)) rfl rfl (by kernel_rfl) (by kernel_rfl) (by kernel_rfl) (fun _ _ _ h => h) (by rfl) hHeld ?_ ?_
                    · (intro w hSw; (try dsimp only at hSw); go_simp; all_goals (try with_reducible rfl))
                    simp only [Act.put, List.setIfInBounds_toArray, List.set_cons_zero, List.set_cons_succ]
                    refine wpAnyH_get 4 (some 111) (.slice (some ad) tv.length cT) rfl rfl (by kernel_rfl) (by kernel_rfl) (by kernel_rfl) (fun _ _ _ h => h) (by rfl) hHeld ?_ ?_
                    · (intro w hSw; (try dsimp only at hSw); go_simp; all_goals (try with_reducible rfl))
                    simp only [Act.put, List.setIfInBounds_toArray, List.set_cons_zero, List.set_cons_succ]
                    refine wpAnyH_get 5 (some 112) (.int .i64 k) rfl rfl (by kernel_rfl) (by kernel_rfl) (by kernel_rfl) (fun _ _ _ h => h) (by rfl) hHeld ?_ ?_
                    · (intro w hSw; (try dsimp only at hSw); go_simp; all_goals (try with_reducible rfl))
                    simp only [Act.put, List.setIfInBounds_toArray, List.set_cons_zero, List.set_cons_succ]
                    refine wpAnyH_get 6 (some 113) (.pointer (some (ad.add (k * 2)))) rfl rfl (by kernel_rfl) (by kernel_rfl) (by kernel_rfl) (fun _ _ _ h => h) (by rfl) hHeld ?_ ?_
                    · (intro w hSw; (try dsimp only at hSw); go_simp; all_goals (try with_reducible rfl))
                    simp only [Act.put, List.setIfInBounds_toArray, List.set_cons_zero, List.set_cons_succ]
                    refine wpAnyH_get 7 (some 114) (.pointer (some ⟨(ad.add (k * 2)).block, (ad.add (k * 2)).off + 1, none⟩)) rfl rfl (by kernel_rfl) (by kernel_rfl) (by kernel_rfl) (fun _ _ _ h => h) (by rfl) hHeld ?_ ?_
                    · (intro w hSw; (try dsimp only at hSw); go_simp; all_goals (try with_reducible rfl))
                    simp only [Act.put, List.setIfInBounds_toArray, List.set_cons_zero, List.set_cons_succ]
                    refine wpAnyH_get 8 (some 115) (.slice E el.length ce) rfl rfl (by kernel_rfl) (by kernel_rfl) (by kernel_rfl) (fun _ _ _ h => h) (by rfl) hHeld ?_ ?_
                    · (intro w hSw; (try dsimp only at hSw); go_simp; all_goals (try with_reducible rfl))
                    simp only [Act.put, List.setIfInBounds_toArray, List.set_cons_zero, List.set_cons_succ]
                    refine wpAnyH_get 9 (some 116) (.agg #[.bool x, .slice A n c, .bool y, .slice B m d, .slice E el.length ce]) rfl rfl (by kernel_rfl) (by kernel_rfl) (by kernel_rfl) (fun _ _ _ h => h) (by rfl) hHeld ?_ ?_
                    · (intro w hSw; (try dsimp only at hSw); go_simp; all_goals (try with_reducible rfl))
                    simp only [Act.put, List.setIfInBounds_toArray, List.set_cons_zero, List.set_cons_succ]
                    refine wpAnyH_ready (rs := [1, 10]) (by kernel_rfl) (by simp) ?_
                    refine AllReadyH.cons rfl (fun K hK => ?_) (AllReadyH.cons rfl (fun K hK => ?_) AllReadyH.nil)
                    · go_simp
                      refine hK.out _ _ ⟨r0, r1, r2, r3, a1, k1⟩ (fun hHeld => ?_)
                      clear hK K
                      (try simp only [Act.put, List.setIfInBounds_toArray, List.set_cons_zero, List.set_cons_succ])
                      refine wpAnyH_ready (rs := [10]) (by kernel_rfl) (by simp) ?_
                      refine AllReadyH.cons rfl (fun K hK => ?_) AllReadyH.nil
                      go_simp
                      refine hK.out _ _ ⟨cell_alloc r0 _, cell_alloc r1 _, cell_alloc r2 _, cell_alloc r3 _, cell_alloc a1 _, cell_alloc k1 _⟩ (fun hHeld => ?_)
                      clear hK K
                      (try simp only [Act.put, List.setIfInBounds_toArray, List.set_cons_zero, List.set_cons_succ])
                      refine wpAnyH_ready (rs := [11]) (by kernel_rfl) (by simp) ?_
                      refine AllReadyH.cons rfl (fun K hK => ?_) AllReadyH.nil
                      refine step_append_lies _ (by rfl) _ _ 45 (by rfl) (w.heap.size + 3) 58 i0 _ 5 88 Tryz.underlying45 hi iz0 iz1 iz2 rfl (by decide) (.slice O ts.length co) ts.length (ts.flatMap RT.cells) (by simp [Act.eval]) (World.ownsRow.drew (hownF.alloc _)) ⟨we.heap.size, 0, none⟩ 1 1 [.bool x, .slice A n c, .bool y, .slice B m d, .slice E el.length ce] (by simp [Act.eval]) rfl HNW.out (by simp [Value.oneCell']) (by omega) (by simp only [maxLen]; omega) (by omega) (by simp; omega) (we.heap.size + 1) (by simp) ?_
                      intro g cap w3 hown' hgrow _ _
                      have K4 := Blk.grown (Blk.drew (Blk.alloc F4 _)) hgrow (own_blk_ne hownF F4 (by decide))
                      obtain ⟨b0, b1, b2, b3⟩ := K4.two
                      have t0 := hgrow.cell (cell_alloc r0 _) ho6
                      have t1 := hgrow.cell (cell_alloc r1 _) ho6
                      have t2 := hgrow.cell (cell_alloc r2 _) ho6
                      have t3 := hgrow.cell (cell_alloc r3 _) ho6
                      have t4 := hgrow.cell (cell_alloc a1 _) ho1
                      have t5 := hgrow.cell (cell_alloc k1 _) hoa
                      refine hK.out _ _ ⟨t0, t1, t2, t3, t4, t5⟩ (fun hHeld => ?_)
                      clear hK K
                      (try simp only [Act.put, List.setIfInBounds_toArray])
                      refine wpAnyH_get 12 (some 119) (.pointer (some ⟨w.heap.size + 1 + 1, 1, none⟩)) rfl rfl (by kernel_rfl) (by kernel_rfl) (by kernel_rfl) (fun _ _ _ h => h) (by rfl) hHeld ?_ ?_
                      · (intro w hSw; (try dsimp only at hSw); go_simp; all_goals (try with_reducible rfl))
                      simp only [Act.put]
                      refine wpAnyH_ready (rs := [13]) (by kernel_rfl) (by simp) ?_
                      refine AllReadyH.cons rfl (fun K hK => ?_) AllReadyH.nil
                      go_simp
                      refine hK.out _ _ ⟨FAR.out _ _ _ _ t0 f1, FAR.out _ _ _ _ t1 f1, FAR.out _ _ _ _ t2 f1, FAR.out _ _ _ _ t3 f1, FAR.out _ _ _ _ t4 f2, FAR.out _ _ _ _ t5 f3⟩ (fun hHeld => ?_)
                      clear hK K
                      (try simp only [Act.put, List.setIfInBounds_toArray, List.set_cons_zero, List.set_cons_succ])
                      refine wpAnyH_done (by kernel_rfl) ?_ _
                      have G1 := Blk.grown (Blk.drew (Blk.alloc F1 _)) hgrow (own_blk_ne hownF F1 (by decide))
                      have G2 := Blk.grown (Blk.drew (Blk.alloc F2 _)) hgrow (own_blk_ne hownF F2 (by decide))
                      have hbG := Below.grown (Below.drew (hbF.alloc hbF.size _)) hgrow (by simp; omega) (fun j hj => by have := (hownF.lt j hj).1; omega)
                      have hoG := own_far (p := ⟨w.heap.size + 1 + 1, 1, none⟩) hown' (own_blk_ne hown' K4 (by decide)) (.slice (some ⟨g, 0, none⟩) (ts.length + 1) cap)
                      have HNX : Hid (∀ t s0, RCo we t s0 → RCo (w3.setCell ⟨w.heap.size + 1 + 1, 1, none⟩ (.slice (some ⟨g, 0, none⟩) (ts.length + 1) cap)) t s0) := Lib.hid (fun t s0 h => RCo.far (RCo.grown (h.keep (((Below.refl _ _).alloc (Nat.le_refl _) _).drew)) (World.ownsRow.drew (hownF.alloc _)) hgrow (by decide)) K4 (by decide) _ _)
                      clear b0 b1 b2 b3 k1' b1' HNW hownF F1 F2 F4 F6 r0 r1 r2 r3 t0 t1 t2 t3 t4 t5 FAR
                      go_wp2
                      go_roundw
                      case rel =>
                        refine ⟨k + 1, some ⟨g, 0, none⟩, cap, ts ++ [⟨.bool x, .slice A n c, .bool y, .slice B m d, E, ce, el⟩], by go_num, by omega, ⟨?_, below_far hbG (by omega) _ _, G1.far (by show w.heap.size ≠ w.heap.size + 1 + 1; omega) _, G2.far (by show w.heap.size + 1 ≠ w.heap.size + 1 + 1; omega) _, ?_, ?_, ?_⟩, HW2⟩
                        · rw [List.map_append, HCORE.out, HTK.out]; rfl
                        · rw [List.length_append]; exact K4.set 1 _
                        · rw [List.length_append, List.flatMap_append]; exact hoG
                        · intro q h1 h2
                          by_cases hq : q < ts.length
                          · rw [List.getElem_append_left hq]; exact HNX.out _ _ (HNS.out q hq h2)
                          · obtain rfl : q = k := by have := HTL.out; simp at h1; omega
                            rw [List.getElem_concat_length HTL.out.symm, HKC.out h2]
                            exact HNX.out _ _ HRG.out
                      case measure => simp [intOf]; omega
                    · go_simp
                      refine hK.out _ _ ⟨cell_alloc r0 _, cell_alloc r1 _, cell_alloc r2 _, cell_alloc r3 _, cell_alloc a1 _, cell_alloc k1 _⟩ (fun hHeld => ?_)
                      clear hK K
                      (try simp only [Act.put, List.setIfInBounds_toArray, List.set_cons_zero, List.set_cons_succ])
                      refine wpAnyH_ready (rs := [1]) (by kernel_rfl) (by simp) ?_
                      refine AllReadyH.cons rfl (fun K hK => ?_) AllReadyH.nil
                      go_simp
                      refine hK.out _ _ ⟨cell_alloc r0 _, cell_alloc r1 _, cell_alloc r2 _, cell_alloc r3 _, cell_alloc a1 _, cell_alloc k1 _⟩ (fun hHeld => ?_)
                      clear hK K
                      (try simp only [Act.put, List.setIfInBounds_toArray, List.set_cons_zero, List.set_cons_succ])
                      refine wpAnyH_ready (rs := [11]) (by kernel_rfl) (by simp) ?_
                      refine AllReadyH.cons rfl (fun K hK => ?_) AllReadyH.nil
                      refine step_append_lies _ (by rfl) _ _ 45 (by rfl) (w.heap.size + 3) 58 i0 _ 5 88 Tryz.underlying45 hi iz0 iz1 iz2 rfl (by decide) (.slice O ts.length co) ts.length (ts.flatMap RT.cells) (by simp [Act.eval]) (World.ownsRow.drew (hownF.alloc _)) ⟨we.heap.size, 0, none⟩ 1 1 [.bool x, .slice A n c, .bool y, .slice B m d, .slice E el.length ce] (by simp [Act.eval]) rfl HNW.out (by simp [Value.oneCell']) (by omega) (by simp only [maxLen]; omega) (by omega) (by simp; omega) (we.heap.size + 1) (by simp) ?_
                      intro g cap w3 hown' hgrow _ _
                      have K4 := Blk.grown (Blk.drew (Blk.alloc F4 _)) hgrow (own_blk_ne hownF F4 (by decide))
                      obtain ⟨b0, b1, b2, b3⟩ := K4.two
                      have t0 := hgrow.cell (cell_alloc r0 _) ho6
                      have t1 := hgrow.cell (cell_alloc r1 _) ho6
                      have t2 := hgrow.cell (cell_alloc r2 _) ho6
                      have t3 := hgrow.cell (cell_alloc r3 _) ho6
                      have t4 := hgrow.cell (cell_alloc a1 _) ho1
                      have t5 := hgrow.cell (cell_alloc k1 _) hoa
                      refine hK.out _ _ ⟨t0, t1, t2, t3, t4, t5⟩ (fun hHeld => ?_)
                      clear hK K
                      (try simp only [Act.put, List.setIfInBounds_toArray])
                      refine wpAnyH_get 12 (some 119) (.pointer (some ⟨w.heap.size + 1 + 1, 1, none⟩)) rfl rfl (by kernel_rfl) (by kernel_rfl) (by kernel_rfl) (fun _ _ _ h => h) (by rfl) hHeld ?_ ?_
                      · (intro w hSw; (try dsimp only at hSw); go_simp; all_goals (try with_reducible rfl))
                      simp only [Act.put]
                      refine wpAnyH_ready (rs := [13]) (by kernel_rfl) (by simp) ?_
                      refine AllReadyH.cons rfl (fun K hK => ?_) AllReadyH.nil
                      go_simp
                      refine hK.out _ _ ⟨FAR.out _ _ _ _ t0 f1, FAR.out _ _ _ _ t1 f1, FAR.out _ _ _ _ t2 f1, FAR.out _ _ _ _ t3 f1, FAR.out _ _ _ _ t4 f2, FAR.out _ _ _ _ t5 f3⟩ (fun hHeld => ?_)
                      clear hK K
                      (try simp only [Act.put, List.setIfInBounds_toArray, List.set_cons_zero, List.set_cons_succ])
                      refine wpAnyH_done (by kernel_rfl) ?_ _
                      have G1 := Blk.grown (Blk.drew (Blk.alloc F1 _)) hgrow (own_blk_ne hownF F1 (by decide))
                      have G2 := Blk.grown (Blk.drew (Blk.alloc F2 _)) hgrow (own_blk_ne hownF F2 (by decide))
                      have hbG := Below.grown (Below.drew (hbF.alloc hbF.size _)) hgrow (by simp; omega) (fun j hj => by have := (hownF.lt j hj).1; omega)
                      have hoG := own_far (p := ⟨w.heap.size + 1 + 1, 1, none⟩) hown' (own_blk_ne hown' K4 (by decide)) (.slice (some ⟨g, 0, none⟩) (ts.length + 1) cap)
                      have HNX : Hid (∀ t s0, RCo we t s0 → RCo (w3.setCell ⟨w.heap.size + 1 + 1, 1, none⟩ (.slice (some ⟨g, 0, none⟩) (ts.length + 1) cap)) t s0) := Lib.hid (fun t s0 h => RCo.far (RCo.grown (h.keep (((Below.refl _ _).alloc (Nat.le_refl _) _).drew)) (World.ownsRow.drew (hownF.alloc _)) hgrow (by decide)) K4 (by decide) _ _)
                      clear b0 b1 b2 b3 k1' b1' HNW hownF F1 F2 F4 F6 r0 r1 r2 r3 t0 t1 t2 t3 t4 t5 FAR
                      go_wp2
                      go_roundw
                      case rel =>
                        refine ⟨k + 1, some ⟨g, 0, none⟩, cap, ts ++ [⟨.bool x, .slice A n c, .bool y, .slice B m d, E, ce, el⟩], by go_num, by omega, ⟨?_, below_far hbG (by omega) _ _, G1.far (by show w.heap.size ≠ w.heap.size + 1 + 1; omega) _, G2.far (by show w.heap.size + 1 ≠ w.heap.size + 1 + 1; omega) _, ?_, ?_, ?_⟩, HW2⟩
                        · rw [List.map_append, HCORE.out, HTK.out]; rfl
                        · rw [List.length_append]; exact K4.set 1 _
                        · rw [List.length_append, List.flatMap_append]; exact hoG
                        · intro q h1 h2
                          by_cases hq : q < ts.length
                          · rw [List.getElem_append_left hq]; exact HNX.out _ _ (HNS.out q hq h2)
                          · obtain rfl : q = k := by have := HTL.out; simp at h1; omega
                            rw [List.getElem_concat_length HTL.out.symm, HKC.out h2]
                            exact HNX.out _ _ HRG.out
                      case measure => simp [intOf]; omega
      · obtain rfl : k = tv.length := by omega
        rw [List.take_length] at HCORE
        obtain ⟨b0, b1, b2, b3⟩ := B4.two
        obtain ⟨d0, d1, d2, d3⟩ := B2.two
        have HOK : Hid (wfP vn (tv.map TV.pl)) := Lib.hid ⟨hv0, hv6, by rw [List.length_map]; exact HWF.out⟩
        have o1 : some (w.heap.size + 1) ≠ (Value.slice O ts.length co).ownBlock := own_blk_ne hown B2 (by decide)
        go_wp2
        refine bodyPost_ret (v := .tuple #[.agg #[.int .i64 vn, .slice O ts.length co], .bool true]) (by simp [results, Tryz.results49, go_sem, d0, d1]) rfl ⟨?_, .inr ⟨HOK.out, O, co, ts, rfl, ?_, HCORE.out, fun j h1 h2 => RCo.far (RCo.far (HNS.out j h1 h2) B2 (by decide) _ _) (B2.set 0 _) (by decide) _ _⟩⟩
        · exact below_far (below_far hbr (by omega) _ _) (by omega) _ _
        · exact own_base (own_far (own_far hown o1 _) o1 _) (by omega)
  · have HF : Hid (¬ wfP v (tv.map TV.pl)) := Lib.hid (fun h => hv ⟨h.1, h.2.1⟩)
    by_cases hv0 : v < 0
    · have b1 : decide (v < 0) = true := by simpa using hv0
      go_enter Tryz.func49, Tryz.ntmps49
      go_upto_region 2 with (fail)
      rw [HWW.out]
      go_wp2
      refine bodyPost_ret (v := .tuple #[.agg #[.int .i64 0, .slice none 0 0], .bool false]) (by simp [results, Tryz.results49, go_sem, d0, d1]) rfl ⟨?_, .inl ⟨HF.out, rfl⟩⟩
      exact below_far (below_far hbW (by omega) _ _) (by omega) _ _
    · have b1 : decide (v < 0) = false := by simpa using hv0
      have b2 : decide ((6 : Int) < v) = true := by simp; omega
      go_enter Tryz.func49, Tryz.ntmps49
      go_upto_region 2 with (fail)
      rw [HWW.out]
      go_wp2
      refine bodyPost_ret (v := .tuple #[.agg #[.int .i64 0, .slice none 0 0], .bool false]) (by simp [results, Tryz.results49, go_sem, d0, d1]) rfl ⟨?_, .inl ⟨HF.out, rfl⟩⟩
      exact below_far (below_far hbW (by omega) _ _) (by omega) _ _
end Go.Proofs.Tg
end
section
/- The reference's reducedWith. -/
namespace Go.Ev
/-- The vector of a number, the greatest bit first. -/
def ov (n t : Nat) : List Int := unp (rev n t) n
theorem ov_len (n t : Nat) : (ov n t).length = n := unp_len _ _
def badT (rs : List (List Int)) (n : Nat) (v : List Int) (t : Nat) : Bool := decide (v.findIdx (· == 1) < (ov n t).findIdx (· == 1)) && (v.getD ((ov n t).findIdx (· == 1)) 0 == 1) && orth rs (ov n t)
def redR (rs : List (List Int)) (n : Nat) (v : List Int) : Bool := (List.range (2 ^ n)).all fun t => t == 0 || !badT rs n v t
theorem ov_hit {n t : Nat} (h0 : 0 < t) (hn : t < 2 ^ n) : (ov n t).findIdx (· == 1) < n := by
  have hr : rev n t ≠ 0 := fun h => by have := (rev_zero hn).1 h; omega
  obtain ⟨k, hk⟩ := lead_exists hr
  have hkn := lead_lt (rev_lt n t) hk
  have : (ov n t).findIdx (· == 1) < (ov n t).length := by
    rw [List.findIdx_lt_length]
    refine ⟨(ov n t)[k]'(by rw [ov_len]; exact hkn), List.getElem_mem _, ?_⟩
    have e := unp_getD (rev n t) n k hkn
    rw [if_pos hk.1] at e
    have e2 : (ov n t).getD k 0 = (ov n t)[k]'(by rw [ov_len]; exact hkn) := by simp [ov_len, hkn]
    rw [← e2]
    unfold ov
    rw [e]; rfl
  rwa [ov_len] at this
end Go.Ev
namespace Go.Proofs.Tg
open Go.RowKit Go.Gr Go.Ev Go.Mo
set_option maxHeartbeats 4000000
set_option maxRecDepth 100000
end Go.Proofs.Tg
end
section
/- The reference's Kernel. -/
namespace Go.Ev
def keepR (rs : List (List Int)) (n x : Nat) : Bool := orth rs (unp x n) && redR rs n (unp x n)
theorem kern_len (keep : Nat → Bool) (n k : Nat) : (kern keep n k).length ≤ k := by
  unfold kern
  exact Nat.le_trans (List.length_filter_le _ _) (by simp)
end Go.Ev
namespace Go.Proofs.Tg
open Go.RowKit Go.Gr Go.Ev Go.Mo
set_option maxHeartbeats 4000000
set_option maxRecDepth 100000
end Go.Proofs.Tg
end
section
/- What the reference's search keeps is what the plain search keeps. Plain numbers. -/
namespace Go.Ev
theorem orth_Vb {rs : List (List Int)} {n x : Nat} (hx : x < 2 ^ n) (ha : ∀ r ∈ rs, ∀ y ∈ r, 0 ≤ y) : orth rs (unp x n) = Vb rs n x := by
  unfold orth Vb
  rw [decide_eq_true hx, Bool.true_and]
  rw [Bool.eq_iff_iff, List.all_eq_true, List.all_eq_true]
  have key : ∀ r ∈ rs, dotN r (unp x n) (unp x n).length = (pr r x n : Nat) := by
    intro r hr
    have := dotN_pr r (unp x n) n (unp_bit x n) (unp_len x n).symm (ha r hr) n (Nat.le_refl _)
    rw [pk_unp hx] at this
    rw [unp_len]; exact this
  constructor
  · intro h r hr
    have := h r hr
    rw [key r hr, beq_iff_eq] at this
    rw [beq_iff_eq]; omega
  · intro h r hr
    have := h r hr
    rw [beq_iff_eq] at this
    rw [key r hr, beq_iff_eq]; omega
theorem fidx_lead {x n l : Nat} (hx : x < 2 ^ n) (h : Lead x l) : (unp x n).findIdx (· == 1) = l := by
  have hl := lead_lt hx h
  have hlen := unp_len x n
  have hg : ∀ i (hi : i < n), (unp x n)[i]'(by rw [hlen]; exact hi) = if x.testBit i = true then 1 else 0 := by
    intro i hi
    have := unp_getD x n i hi
    rw [← this]; simp [hlen, hi]
  have h1 : ¬ l < (unp x n).findIdx (· == 1) := by
    intro hlt
    have := List.not_of_lt_findIdx hlt
    rw [hg l hl, if_pos h.1] at this
    cases this
  by_cases e : (unp x n).findIdx (· == 1) = l
  · exact e
  · exfalso
    have hlt : (unp x n).findIdx (· == 1) < l := by omega
    have hin : (unp x n).findIdx (· == 1) < (unp x n).length := by omega
    have := List.findIdx_getElem (w := hin)
    rw [hg _ (by omega), h.2 _ hlt] at this
    cases this
theorem fidx_zero (n : Nat) : (unp 0 n).findIdx (· == 1) = n := by
  have hlen := unp_len 0 n
  by_cases e : (unp 0 n).findIdx (· == 1) < (unp 0 n).length
  · exfalso
    have h := List.findIdx_getElem (w := e)
    have hg : ∀ i (hi : i < n), (unp 0 n)[i]'(by rw [hlen]; exact hi) = 0 := by
      intro i hi
      have := unp_getD 0 n i hi
      simp at this
      simp [unp]
    rw [hg _ (by omega)] at h
    cases h
  · have := List.findIdx_le_length (xs := unp 0 n) (p := (· == 1))
    omega
theorem redR_redB {rs : List (List Int)} {n x : Nat} (hx : x < 2 ^ n) (ha : ∀ r ∈ rs, ∀ y ∈ r, 0 ≤ y) : redR rs n (unp x n) = redB rs n x := by
  rw [Bool.eq_iff_iff, redB_iff hx]
  unfold redR
  rw [List.all_eq_true]
  constructor
  · intro h t k l ht hk hl hlk
    have htn : t < 2 ^ n := ht.1
    have ht0 : t ≠ 0 := by
      intro e
      subst e
      have := hk.1
      simp at this
    have hkn := lead_lt htn hk
    have h0 := h (rev n t) (List.mem_range.2 (rev_lt n t))
    have hr0 : rev n t ≠ 0 := fun e => ht0 ((rev_zero htn).1 e)
    have e1 : ov n (rev n t) = unp t n := by unfold ov; rw [rev_rev htn]
    unfold badT at h0
    rw [e1, fidx_lead htn hk, fidx_lead hx hl, orth_Vb htn ha, Vb_iff.2 ht, unp_getD x n k hkn] at h0
    cases hb : x.testBit k with
    | false => rfl
    | true => rw [hb] at h0; simp [hr0, hlk] at h0
  · intro h t htm
    have htn := List.mem_range.1 htm
    by_cases ht0 : t = 0
    · simp [ht0]
    · have hr0 : rev n t ≠ 0 := fun e => ht0 ((rev_zero htn).1 e)
      obtain ⟨k, hk⟩ := lead_exists hr0
      have hkn := lead_lt (rev_lt n t) hk
      unfold badT
      have e1 : ov n t = unp (rev n t) n := rfl
      rw [e1, fidx_lead (rev_lt n t) hk, orth_Vb (rev_lt n t) ha, unp_getD x n k hkn]
      by_cases hx0 : x = 0
      · subst hx0
        rw [fidx_zero, decide_eq_false (by omega)]; simp
      · obtain ⟨l, hl⟩ := lead_exists hx0
        rw [fidx_lead hx hl]
        by_cases hlk : l < k
        · by_cases hV : V rs n (rev n t)
          · rw [h (rev n t) k l hV hk hl hlk]; simp
          · have : Vb rs n (rev n t) = false := by
              cases hv : Vb rs n (rev n t) with
              | false => rfl
              | true => exact absurd (Vb_iff.1 hv) hV
            rw [this]; simp
        · rw [decide_eq_false hlk]; simp
/-- The reference's kernel is the plain one. -/
theorem kern_same {rs : List (List Int)} {n k : Nat} (ha : ∀ r ∈ rs, ∀ y ∈ r, 0 ≤ y) : kern (keepR rs n) n k = kern (keepB rs n) n k := by
  unfold kern
  apply List.filter_congr
  intro x hx
  obtain ⟨t, _, rfl⟩ := List.mem_map.1 hx
  unfold keepR keepB
  rw [orth_Vb (rev_lt _ _) ha, redR_redB (rev_lt _ _) ha]
end Go.Ev
end
