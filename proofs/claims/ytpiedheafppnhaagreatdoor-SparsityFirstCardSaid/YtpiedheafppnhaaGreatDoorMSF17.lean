/- Parts of the proof: XR2, FN5. -/
import Derived.Deep.AppendLies
import Derived.Deep.RegionHeld3
import Derived.Test.YtpiedheafppnhaaGreatDoorMSF14
import Derived.Test.YtpiedheafppnhaaGreatDoorMSF16
section
/- The reference's reading of a polynomial: well-formed or not. -/
namespace Go.Proofs.Tg
open Go.RowKit Go.Gr Go.Mo Go.Qn
set_option maxHeartbeats 4000000
set_option maxRecDepth 100000
/-- An operation that the guard passes over is taken first. -/
theorem wpAny_skip {P : Program} {md : Region.Mode} {ops : Array Oper} {Q : Exit → Act → World → Prop} (i : Nat) (d : Option Tmp) {oi : Oper} {fuel : Nat} {listed : Array Bool} {a : Act} {w : World} (hi : ops[i]? = some oi) (hd : oi.dst = d)
    (hs : Region.noSelect ops = true) (hf : Region.free md ops listed i = true) (hr : (Region.ready md ops listed).contains i = true) (hQ : ∀ c a w, Q (.panic c) (a.put d undef) w → Q (.panic c) a w)
    (hw : Region.wanted oi (yielded ops a.tmps) = false) (h : wpAny P md ops Q fuel (listed.setIfInBounds i true) (a.put d undef) w) : wpAny P md ops Q (fuel + 1) listed a w := by
  subst hd
  exact wpAny_take hi hs hf hr hQ (.inr ⟨hw, rfl⟩) h
/-- An operation that yields v in whatever world is taken first. -/
theorem wpAny_get {P : Program} {md : Region.Mode} {ops : Array Oper} {Q : Exit → Act → World → Prop} (i : Nat) (d : Option Tmp) (v : Value) {oi : Oper} {fuel : Nat} {listed : Array Bool} {a : Act} {w : World} (hi : ops[i]? = some oi) (hd : oi.dst = d)
    (hs : Region.noSelect ops = true) (hf : Region.free md ops listed i = true) (hr : (Region.ready md ops listed).contains i = true) (hQ : ∀ c a w, Q (.panic c) (a.put d v) w → Q (.panic c) a w)
    (hw : Region.wanted oi (yielded ops a.tmps) = true) (hy : ∀ w, (execOp a.eval oi).run P w = .ok (.value v) w) (h : wpAny P md ops Q fuel (listed.setIfInBounds i true) (a.put d v) w) : wpAny P md ops Q (fuel + 1) listed a w := by
  subst hd
  exact wpAny_take hi hs hf hr hQ (.inl ⟨hw, hy⟩) h
/-- The same, where a condition on the world is held. -/
theorem wpAnyH_get {P : Program} {md : Region.Mode} {ops : Array Oper} {Q : Exit → Act → World → Prop} {S : World → Prop} (i : Nat) (d : Option Tmp) (v : Value) {oi : Oper} {fuel : Nat} {listed : Array Bool} {a : Act} {w : World} (hi : ops[i]? = some oi) (hd : oi.dst = d)
    (hs : Region.noSelect ops = true) (hf : Region.free md ops listed i = true) (hr : (Region.ready md ops listed).contains i = true) (hQ : ∀ c a w, Q (.panic c) (a.put d v) w → Q (.panic c) a w)
    (hw : Region.wanted oi (yielded ops a.tmps) = true) (hS : S w) (hy : ∀ w, S w → (execOp a.eval oi).run P w = .ok (.value v) w) (h : wpAnyH P md ops Q S fuel (listed.setIfInBounds i true) (a.put d v) w) : wpAnyH P md ops Q S (fuel + 1) listed a w := by
  subst hd
  exact wpAnyH_take hi hs hf hr hQ (.inl ⟨hw, hy⟩) hS h
/-- The coefficient's cells hold the number that the text says. -/
def RCo (w : World) (t : RT) (s : ByteArray) : Prop := ∃ b n m N cn D cd, rd s.data.toList = some (b, n, m) ∧ n < 1000000000 ∧ m < 1000000000 ∧ m ≠ 0 ∧ t.c0 = .bool b ∧ t.c1 = .slice N (mg n).length cn ∧ t.c2 = .bool false ∧ t.c3 = .slice D (dl m).length cd ∧ Digs w N (mg n) ∧ Digs w D (dl m)
theorem RCo.keep {w w' : World} {t : RT} {s : ByteArray} (h : RCo w t s) (hb : Below w.heap.size w w') : RCo w' t s := by
  obtain ⟨b, n, m, N, cn, D, cd, h1, h2, h3, h4, h5, h6, h7, h8, h9, h10⟩ := h
  exact ⟨b, n, m, N, cn, D, cd, h1, h2, h3, h4, h5, h6, h7, h8, h9.keep hb, h10.keep hb⟩
theorem RCo.grown {w w' : World} {t : RT} {s : ByteArray} {ys : List Value} {b sz n : Nat} {ty : TypeId} {v : Value} (h : RCo w t s) (ho : w.ownsRow b ty sz v n ys) (hg : w.grownBy w' v.ownBlock) (hne : ty ≠ 117) : RCo w' t s := by
  obtain ⟨b, n, m, N, cn, D, cd, h1, h2, h3, h4, h5, h6, h7, h8, h9, h10⟩ := h
  exact ⟨b, n, m, N, cn, D, cd, h1, h2, h3, h4, h5, h6, h7, h8, h9.grown ho hg hne, h10.grown ho hg hne⟩
theorem RCo.far {w : World} {t : RT} {s : ByteArray} {g : Nat} {ty : TypeId} {cs : Array Value} (h : RCo w t s) (B : Blk w g ty cs) (hne : ty ≠ 117) (i : Nat) (u : Value) : RCo (w.setCell ⟨g, i, none⟩ u) t s := by
  obtain ⟨b, n, m, N, cn, D, cd, h1, h2, h3, h4, h5, h6, h7, h8, h9, h10⟩ := h
  exact ⟨b, n, m, N, cn, D, cd, h1, h2, h3, h4, h5, h6, h7, h8, h9.far (h9.off_ty B hne) i u, h10.far (h10.off_ty B hne) i u⟩
def RT.core (t : RT) : Option Addr × Nat × List Int := (t.adr, t.cap, t.exps)
def TV.core (t : TV) : Option Addr × Nat × List Int := (t.adr, t.cap, t.exps)
/-- What the reading has made after k terms. -/
structure ReadSt (w : World) (v : Int) (T : Option Addr) (cT : Nat) (tv : List TV) (wr : World) (k : Nat) (O : Option Addr) (co : Nat) (ts : List RT) : Prop where
  core : ts.map RT.core = (tv.take k).map TV.core
  below : Below w.heap.size w wr
  b1 : Blk wr w.heap.size 24 #[.int .i64 v, .slice T tv.length cT]
  b2 : Blk wr (w.heap.size + 1) 39 #[.int .i64 0, .slice none 0 0]
  b4 : Blk wr (w.heap.size + 1 + 1) 39 #[.int .i64 v, .slice O ts.length co]
  own : wr.ownsRow (w.heap.size + 3) 52 5 (.slice O ts.length co) ts.length (ts.flatMap RT.cells)
  nums : ∀ (j : Nat) (h1 : j < ts.length) (h2 : j < tv.length), RCo wr ts[j] tv[j].coef
theorem rt_info : (Tryz.prog.info? 52).map (fun i => (i.zero, i.size, i.bytes)) = some (some (.agg #[.bool false, .slice none 0 0, .bool false, .slice none 0 0, .slice none 0 0]), 5, 88) := by kernel_rfl
def RetRead6 (v : Int) (tv : List TV) (w : World) (e : Ending) (w' : World) : Prop :=
  Below w.heap.size w w' ∧ ((¬ wfP v (tv.map TV.pl) ∧ e = .returned (.tuple #[.agg #[.int .i64 0, .slice none 0 0], .bool false])) ∨
    (wfP v (tv.map TV.pl) ∧ ∃ (O : Option Addr) (co : Nat) (ts : List RT), e = .returned (.tuple #[.agg #[.int .i64 v, .slice O ts.length co], .bool true]) ∧ w'.ownsRow w.heap.size 52 5 (.slice O ts.length co) ts.length (ts.flatMap RT.cells) ∧ ts.map RT.core = tv.map TV.core ∧ ∀ (j : Nat) (h1 : j < ts.length) (h2 : j < tv.length), RCo w' ts[j] tv[j].coef))
theorem wf_bad {v : Int} {ts : List Term} {k : Nat} (hk : k < ts.length) (h : ¬ (termOk v ts[k] = true ∧ (0 < k → 0 < Mo.ord (ts.getD (k - 1) default).2 ts[k].2))) : ¬ wfP v ts := fun hw => h (hw.2.2 k hk hk)
/-- A number read, flat: what it is as a sign, and whether it is a coefficient. -/
def RetRR (s : ByteArray) (w : World) (e : Ending) (w' : World) : Prop :=
  Below w.heap.size w w' ∧ ∃ x A n c y B m d ok, ∃ z : Int, (ok = true → n ≤ 1000000 ∧ (if x = true then -1 else if n = 0 then 0 else 1) = z) ∧ e = .returned (.tuple #[.agg #[.bool x, .slice A n c, .bool y, .slice B m d], .bool ok]) ∧ coefOk s = (ok && !(z == 0)) ∧ (ok = true → ∀ E ce el, RCo w' ⟨.bool x, .slice A n c, .bool y, .slice B m d, E, ce, el⟩ s)
theorem rread_flat (s : ByteArray) (w : World) (hs : s.size ≤ 8) : Calls Tryz.prog 49 #[.string s] w (RetRR s w) := by
  refine (rread_any s w hs).mono ?_
  rintro e w' ⟨hb, ⟨hr, x, A, n, c, y, B, m, d, rfl⟩ | ⟨b, n, m, hr, hn, hm, hm0, N, cn, D, cd, rfl, hN, hD⟩⟩
  · exact ⟨hb, x, A, n, c, y, B, m, d, false, 0, (fun h => by cases h), rfl, by unfold coefOk; rw [hr]; rfl, (fun h => by cases h)⟩
  · refine ⟨hb, b, N, _, cn, false, D, _, cd, true, _, fun _ => ⟨?_, rfl⟩, rfl, ?_, fun _ E ce el => ⟨b, n, m, N, cn, D, cd, hr, hn, hm, hm0, rfl, rfl, rfl, rfl, hN, hD⟩⟩
    · have := mg_le n; omega
    · unfold coefOk
      rw [hr]
      have hc := (rd_some hr).1.2.2
      by_cases h0 : n = 0
      · subst h0
        rw [hc rfl]; simp [mg]
      · rw [mg_pos h0]
        cases b <;> simp [h0]
theorem read6_any (v : Int) (T : Option Addr) (cT : Nat) (tv : List TV) (w : World) (hA : TermsAt w T tv) (hn : tv.length ≤ 4096) (hs : ∀ t ∈ tv, t.coef.size ≤ 8 ∧ t.exps.length ≤ 64) :
    Calls Tryz.prog 31 #[.agg #[.int .i64 v, .slice T tv.length cT]] w (RetRead6 v tv w) := by
  have HSM := Lib.hid hs
  clear hs
  obtain ⟨i0, hi, iz0, iz1, iz2⟩ := info_parts rt_info
  obtain ⟨W, hW⟩ : ∃ W, ((w.alloc (.cells #[.int .i64 v, .slice T tv.length cT] 24)).alloc (.cells #[.int .i64 0, .slice none 0 0] 39)).alloc (.cells #[.int .i64 v, .slice none 0 0] 39) = W := ⟨_, rfl⟩
  have B1 : Blk W w.heap.size 24 #[.int .i64 v, .slice T tv.length cT] := by rw [← hW]; exact ((Blk.new _ _ _).alloc _).alloc _
  have B2 : Blk W (w.heap.size + 1) 39 #[.int .i64 0, .slice none 0 0] := by
    rw [← hW]; have := (Blk.new (w.alloc (.cells #[.int .i64 v, .slice T tv.length cT] 24)) 39 #[.int .i64 0, .slice none 0 0]).alloc (.cells #[.int .i64 v, .slice none 0 0] 39)
    simpa using this
  have B4 : Blk W (w.heap.size + 1 + 1) 39 #[.int .i64 v, .slice none 0 0] := by
    rw [← hW]; have := (Blk.new ((w.alloc (.cells #[.int .i64 v, .slice T tv.length cT] 24)).alloc (.cells #[.int .i64 0, .slice none 0 0] 39)) 39 #[.int .i64 v, .slice none 0 0])
    simpa using this
  have hbW : Below w.heap.size w W := by rw [← hW]; exact (((Below.refl _ _).alloc (Nat.le_refl _) _).alloc (by simp) _).alloc (by simp; omega) _
  have hWs : W.heap.size = w.heap.size + 3 := by rw [← hW]; simp
  have HWW := Lib.hid hW
  clear hW
  obtain ⟨a0, a1, _, _⟩ := B1.two
  obtain ⟨d0, d1, d2, d3⟩ := B2.two
  by_cases hv : 0 ≤ v ∧ v ≤ 6
  · obtain ⟨hv0, hv6⟩ := hv
    obtain ⟨vn, rfl⟩ : ∃ vn : Nat, v = vn := ⟨v.toNat, by omega⟩
    have v1 : decide ((vn : Int) < 0) = false := decide_eq_false (by omega)
    have v2 : decide ((6 : Int) < (vn : Int)) = false := decide_eq_false (by omega)
    go_enter Tryz.func31, Tryz.ntmps31
    go_upto_region 2 with (fail)
    rw [HWW.out]
    go_wp2
    go_loopw [5] (fun s5 wr => ∃ (k : Nat) (O : Option Addr) (co : Nat) (ts : List RT), s5 = .int .i64 k ∧ k ≤ tv.length ∧ ReadSt w vn T cT tv wr k O co ts ∧ Hid (wfTo vn (tv.map TV.pl) k)) (fun s5 _ => tv.length - (intOf s5).toNat)
    case atStart => exact ⟨0, none, 0, [], rfl, Nat.zero_le _, ⟨rfl, hbW, B1, B2, B4, World.ownsRow_nil _ _ _ _, fun j h => absurd h (by simp)⟩, Lib.hid (wfTo_zero _ _)⟩
    case round =>
      clear a0 a1 d0 d1 d2 d3 B1 B2 B4
      obtain ⟨wo, rfl⟩ : ∃ wo : World, wo = wr := ⟨_, rfl⟩
      obtain ⟨k, O, co, ts, rfl, hk, hst, HWF⟩ := hrel
      obtain ⟨hcore, hbr, B1, B2, B4, hown, hnums⟩ := hst
      have HNS := Lib.hid hnums
      clear hnums
      have HCORE := Lib.hid hcore
      have htl : ts.length = k := by
        have := congrArg List.length hcore
        simpa [Nat.min_eq_left hk] using this
      have hz : w.heap.size + 3 ≤ wo.heap.size := by have := B4.lt; omega
      have HTL := Lib.hid htl
      have htl2 : ts.length ≤ 4096 := by omega
      clear hcore htl
      obtain ⟨a0, a1, _, _⟩ := B1.two
      by_cases hlt : k < tv.length
      · obtain ⟨ad, rfl, hc0, hc1, hI⟩ := TermsAt.at (hA.keep hbr) hlt
        have hadb : (ad.add (k * 2)).block < w.heap.size := by
          obtain ⟨ad', h1, h2, _⟩ := TermsAt.at hA hlt
          obtain rfl : ad = ad' := by simpa using h1
          exact World.block_lt_of_cell? _ _ h2
        have HPV : Hid (0 < k → ∃ A0 c0 el0, (∀ V, Below w.heap.size w V → V.cell? ⟨(ad.add ((k - 1) * 2)).block, (ad.add ((k - 1) * 2)).off + 1, none⟩ = some (.slice A0 el0.length c0) ∧ Ints V A0 el0) ∧ ((tv.map TV.pl).getD (k - 1) default).2 = el0 ∧ low20 el0 = true ∧ el0.length = vn) := Lib.hid (fun hk0 => by
          have hlt' : k - 1 < tv.length := by omega
          have ht := (HWF.out (k - 1) (by omega) (by simpa using hlt')).1
          rw [termOk_iff] at ht
          simp only [List.getElem_map, TV.pl] at ht
          refine ⟨tv[k - 1].adr, tv[k - 1].cap, tv[k - 1].exps, fun V hV => ?_, by simp [hlt', TV.pl], ht.2.2, by have := ht.2.1; omega⟩
          obtain ⟨ad', h1, _, h2, h3⟩ := TermsAt.at (hA.keep hV) hlt'
          obtain rfl : ad = ad' := by simpa using h1
          exact ⟨h2, h3⟩)
        have HPL : Hid ((tv.map TV.pl)[k]'(by simpa using hlt) = (tv[k].coef, tv[k].exps)) := Lib.hid (by simp [TV.pl])
        have HTK : Hid ((tv.take (k + 1)).map TV.core = (tv.take k).map TV.core ++ [TV.core tv[k]]) := Lib.hid (by rw [List.take_succ_eq_append_getElem hlt, List.map_append]; rfl)
        have HKC : Hid (∀ (h2 : k < tv.length), (tv[k]'h2).coef = (tv[k]'hlt).coef) := Lib.hid (fun _ => rfl)
        have hsm := HSM.out tv[k] (List.getElem_mem _)
        have hkm : k < (tv.map TV.pl).length := by simpa using hlt
        generalize tv[k] = t at *
        obtain ⟨s, E, ce, el⟩ := t
        simp only at *
        have HR := Lib.hid (fun V => rread_flat s V hsm.1)
        have hel := hsm.2
        have q0 : (0 : Int) ≤ (k : Int) := by omega
        have q1 : (k : Int) < (tv.length : Int) := by omega
        have q3 : ((k : Int)).toNat = k := by omega
        have HBADT : Hid (termOk vn (s, el) = false → ¬ wfP vn (tv.map TV.pl)) := Lib.hid (fun h => wf_bad hkm (fun h2 => by
          have h3 := h2.1
          rw [HPL.out, h] at h3
          cases h3))
        clear hsm
        go_wp2_with (fail)
        refine (HR.out _).mono ?_
        rintro e w1 ⟨hb1, x, A, n, c, y, B, m, d, ok, z, hsg, rfl, hco, hrc⟩
        have HRC := Lib.hid (fun h => hrc h E ce el)
        clear hrc
        have HCO := Lib.hid hco
        have HSG := Lib.hid hsg
        clear hco hsg
        go_upto_region 8 with (fail)
        obtain ⟨W1, hW1⟩ : ∃ W1, w1.alloc (.cells #[.bool x, .slice A n c, .bool y, .slice B m d] 48) = W1 := ⟨_, rfl⟩
        have C6 : Blk W1 w1.heap.size 48 #[.bool x, .slice A n c, .bool y, .slice B m d] := by rw [← hW1]; exact Blk.new _ _ _
        have hbW1 : Below w1.heap.size w1 W1 := by rw [← hW1]; exact (Below.refl _ _).alloc (Nat.le_refl _) _
        try rw [hW1]
        clear hW1
        have hb01 := below_all hb1 hbW1
        have C1 := B1.keep hb01 B1.lt
        have C2 := B2.keep hb01 B2.lt
        have C4 := B4.keep hb01 B4.lt
        have hownC := own_below hown hb01 (Nat.le_refl _)
        have hbC := below_all hbr hb01
        have e0 := keep_cell hb01 hc0
        have e1 := keep_cell hb01 hc1
        have hIC := hI.keep hb01
        have HNS := Lib.hid (fun j h1 h2 => (HNS.out j h1 h2).keep hb01)
        have HRC := Lib.hid (fun h => (HRC.out h).keep hbW1)
        have hz1 : wo.heap.size ≤ w1.heap.size := hb1.size
        clear B1 B2 B4 hown hbr hc0 hc1 hI hb1 hbW1 hb01 a0 a1
        obtain ⟨a0, a1, _, _⟩ := C1.two
        obtain ⟨r0, r1, r2, r3, _, _, _, _⟩ := C6.four
        obtain ⟨bad, hbad⟩ : ∃ bad : Bool, bad = true ↔ ¬ (ok = true ∧ z ≠ 0 ∧ el.length = vn) := ⟨decide (¬ (ok = true ∧ z ≠ 0 ∧ el.length = vn)), decide_eq_true_iff⟩
        have HBAD := Lib.hid hbad
        clear hbad
        have hbe : Below W1.heap.size W1 W1.drew := (Below.refl _ _).drew
        go_cut [56, 120] from 21 (fun s56 s120 wx => s56 = .bool bad ∧ s120 = undef ∧ Below W1.heap.size W1 wx)
        case first =>
          cases ok with
          | false =>
            obtain rfl : bad = true := HBAD.out.2 (fun h => by cases h.1)
            go_quiet (fail)
            go_wp2_with fail
            go_meet
            exact ⟨rfl, rfl, below_drewN (Below.refl _ _) _⟩
          | true =>
            have HSG := Lib.hid (HSG.out rfl)
            have HRS : Hid (∀ V, Below W1.heap.size W1 V → Calls Tryz.prog 50 #[.agg #[.bool x, .slice A n c, .bool y, .slice B m d]] V fun e w' => e = .returned (.int .i64 z) ∧ Below W1.heap.size W1 w') := Lib.hid (fun V h => (rsign_any x y A B n c m d V HSG.out.1 z HSG.out.2).mono fun e w' ⟨h1, h2⟩ => ⟨h1, below_all h h2⟩)
            by_cases hz0 : z = 0
            · obtain rfl : bad = true := HBAD.out.2 (fun h => h.2.1 hz0)
              subst hz0
              refine wp_region_any (by kernel_rfl) ?_
              try (change wpAny _ _ _ _ _ _ _ (World.drew _))
              refine wpAny_get 0 (some 38) (.bool true) rfl rfl (by kernel_rfl) (by kernel_rfl) (by kernel_rfl) (fun _ _ _ h => h) (by kernel_rfl) (fun _ => by kernel_rfl) ?_
              refine wpAny_get 1 (some 39) (.bool false) rfl rfl (by kernel_rfl) (by kernel_rfl) (by kernel_rfl) (fun _ _ _ h => h) (by kernel_rfl) (fun _ => by kernel_rfl) ?_
              refine wpAny_get 2 (some 40) (.bool false) rfl rfl (by kernel_rfl) (by kernel_rfl) (by kernel_rfl) (fun _ _ _ h => h) (by kernel_rfl) (fun _ => by kernel_rfl) ?_
              refine wpAny_ready (rs := [3]) (by kernel_rfl) (by simp) ?_
              refine AllReady.cons rfl (fun K hK => ?_) AllReady.nil
              go_simp
              refine hK _ _ ?_
              clear hK K
              refine wpAny_ready (rs := [4]) (by kernel_rfl) (by simp) ?_
              refine AllReady.cons rfl (fun K hK => ?_) AllReady.nil
              go_simp
              go_wp2_with (go_at_call 50; refine (HRS.out _ (by assumption)).mono ?_; rintro e w' ⟨rfl, hbe⟩)
              refine wpAny_get 5 (some 43) (.bool true) rfl rfl (by kernel_rfl) (by kernel_rfl) (by kernel_rfl) (fun _ _ _ h => h) (by kernel_rfl) (fun _ => by kernel_rfl) ?_
              refine wpAny_get 6 (some 44) (.bool true) rfl rfl (by kernel_rfl) (by kernel_rfl) (by kernel_rfl) (fun _ _ _ h => h) (by kernel_rfl) (fun _ => by kernel_rfl) ?_
              refine wpAny_get 7 (some 45) (.bool true) rfl rfl (by kernel_rfl) (by kernel_rfl) (by kernel_rfl) (fun _ _ _ h => h) (by kernel_rfl) (fun _ => by kernel_rfl) ?_
              refine wpAny_skip 8 (some 46) rfl rfl (by kernel_rfl) (by kernel_rfl) (by kernel_rfl) (fun _ _ _ h => h) (by kernel_rfl) ?_
              refine wpAny_skip 9 (some 47) rfl rfl (by kernel_rfl) (by kernel_rfl) (by kernel_rfl) (fun _ _ _ h => h) (by kernel_rfl) ?_
              refine wpAny_skip 10 (some 48) rfl rfl (by kernel_rfl) (by kernel_rfl) (by kernel_rfl) (fun _ _ _ h => h) (by kernel_rfl) ?_
              refine wpAny_skip 11 (some 49) rfl rfl (by kernel_rfl) (by kernel_rfl) (by kernel_rfl) (fun _ _ _ h => h) (by kernel_rfl) ?_
              refine wpAny_skip 12 (some 50) rfl rfl (by kernel_rfl) (by kernel_rfl) (by kernel_rfl) (fun _ _ _ h => h) (by kernel_rfl) ?_
              refine wpAny_skip 13 (some 51) rfl rfl (by kernel_rfl) (by kernel_rfl) (by kernel_rfl) (fun _ _ _ h => h) (by kernel_rfl) ?_
              refine wpAny_skip 14 (some 52) rfl rfl (by kernel_rfl) (by kernel_rfl) (by kernel_rfl) (fun _ _ _ h => h) (by kernel_rfl) ?_
              refine wpAny_skip 15 (some 53) rfl rfl (by kernel_rfl) (by kernel_rfl) (by kernel_rfl) (fun _ _ _ h => h) (by kernel_rfl) ?_
              refine wpAny_skip 16 (some 54) rfl rfl (by kernel_rfl) (by kernel_rfl) (by kernel_rfl) (fun _ _ _ h => h) (by kernel_rfl) ?_
              refine wpAny_skip 17 (some 55) rfl rfl (by kernel_rfl) (by kernel_rfl) (by kernel_rfl) (fun _ _ _ h => h) (by kernel_rfl) ?_
              refine wpAny_get 18 (some 56) (.bool true) rfl rfl (by kernel_rfl) (by kernel_rfl) (by kernel_rfl) (fun _ _ _ h => h) (by kernel_rfl) (fun _ => by kernel_rfl) ?_
              refine wpAny_done (by kernel_rfl) ?_ _
              go_simp
              all_goals
                go_wp2_with fail
                go_meet
                exact ⟨rfl, rfl, hbe⟩
            · have hzb : (z == 0) = false := by simp [hz0]
              by_cases hlv : el.length = vn
              · obtain rfl : bad = false := by
                  apply eq_false_of_ne_true
                  rw [HBAD.out]
                  exact fun h => h ⟨rfl, hz0, hlv⟩
                have hne : ((el.length : Int) != (vn : Int)) = false := by simp [hlv]
                have hne' : (el.length != vn) = false := by simp [hlv]
                clear hz0 hlv
                go_region_with (go_at_call 50; refine (HRS.out _ (by assumption)).mono ?_; rintro e w' ⟨rfl, hbe⟩; have D1 := C1.keep hbe C1.lt; obtain ⟨a0, a1, _, _⟩ := D1.two; have e0 := keep_cell hbe e0; have e1 := keep_cell hbe e1)
                all_goals
                  go_wp2_with fail
                  go_meet
                  exact ⟨rfl, rfl, hbe⟩
              · obtain rfl : bad = true := HBAD.out.2 (fun h => hlv h.2.2)
                have hne : ((el.length : Int) != (vn : Int)) = true := by simp; omega
                have hne' : (el.length != vn) = true := by simp [hlv]
                clear hz0 hlv
                go_region_with (go_at_call 50; refine (HRS.out _ (by assumption)).mono ?_; rintro e w' ⟨rfl, hbe⟩; have D1 := C1.keep hbe C1.lt; obtain ⟨a0, a1, _, _⟩ := D1.two; have e0 := keep_cell hbe e0; have e1 := keep_cell hbe e1)
                all_goals
                  go_wp2_with fail
                  go_meet
                  exact ⟨rfl, rfl, hbe⟩
        case rest =>
          obtain ⟨rfl, rfl, hbx⟩ := hcut
          have D1 := C1.keep hbx C1.lt
          have D2 := C2.keep hbx C2.lt
          have D4 := C4.keep hbx C4.lt
          have D6 := C6.keep hbx C6.lt
          have hownD := own_below hownC hbx (Nat.le_refl _)
          have hbD := below_all hbC hbx
          have g0 := keep_cell hbx e0
          have g1 := keep_cell hbx e1
          have hID := hIC.keep hbx
          have HNS := Lib.hid (fun j h1 h2 => (HNS.out j h1 h2).keep hbx)
          have HRC := Lib.hid (fun h => (HRC.out h).keep hbx)
          have hz2 : W1.heap.size ≤ wc.heap.size := hbx.size
          have hz3 := C6.lt
          clear C1 C2 C4 C6 hownC hbC e0 e1 hIC hbx hbe a0 a1 r0 r1 r2 r3
          obtain ⟨a0, a1, _, _⟩ := D1.two
          obtain ⟨d0, d1, d2, d3⟩ := D2.two
          cases bad with
          | true =>
            have HNO : Hid (¬ wfP vn (tv.map TV.pl)) := Lib.hid (HBADT.out (by
              apply eq_false_of_ne_true
              rw [termOk_iff]
              intro h
              refine HBAD.out.1 rfl ?_
              have h1 := h.1
              simp only at h1
              rw [HCO.out] at h1
              simp at h1
              exact ⟨h1.1, h1.2, by have := h.2.1; simp only at this; omega⟩))
            go_wp2
            refine bodyPost_ret (v := .tuple #[.agg #[.int .i64 0, .slice none 0 0], .bool false]) (by simp [results, Tryz.results31, go_sem, d0, d1]) rfl ⟨?_, .inl ⟨HNO.out, rfl⟩⟩
            exact below_far (below_far hbD (by omega) _ _) (by omega) _ _
          | false =>
            have hgood : ok = true ∧ z ≠ 0 ∧ el.length = vn := by
              apply Classical.byContradiction
              intro h
              have := HBAD.out.2 h
              cases this
            have HLV := Lib.hid hgood.2.2
            have HRG := Lib.hid (HRC.out hgood.1)
            clear HRC
            have HCF : Hid (coefOk s = true) := Lib.hid (by rw [HCO.out, hgood.1]; simp [hgood.2.1])
            clear hgood HBAD
            go_wp2
            go_loop [8] (fun s8 => ∃ j : Nat, s8 = .int .i64 j ∧ j ≤ vn ∧ Hid (∀ e ∈ el.take j, 0 ≤ e ∧ e ≤ 1048576)) (fun s8 => vn - (intOf s8).toNat)
            case atStart => exact ⟨0, rfl, Nat.zero_le _, Lib.hid (by simp)⟩
            case round =>
              obtain ⟨j, rfl, hj, HJ⟩ := hrel
              by_cases hjl : j < vn
              · have hje : j < el.length := by have := HLV.out; omega
                obtain ⟨ed, rfl, hcj⟩ := Ints.at hID hje
                have HT0 : Hid (el.take (j + 1) = el.take j ++ [el[j]]) := Lib.hid (List.take_succ_eq_append_getElem hje)
                have HMEM : Hid (el[j] ∈ el) := Lib.hid (List.getElem_mem _)
                have q4 : (j : Int) < (el.length : Int) := by omega
                generalize el[j] = ej at *
                by_cases hb0 : ej < 0
                · have hbd : decide (ej < 0) = true := by simpa using hb0
                  have HNO : Hid (¬ wfP vn (tv.map TV.pl)) := Lib.hid (HBADT.out (by
                    apply eq_false_of_ne_true
                    rw [termOk_iff, low20_iff]
                    intro h
                    have := h.2.2 ej HMEM.out
                    omega))
                  go_wp2
                  refine bodyPost_ret (v := .tuple #[.agg #[.int .i64 0, .slice none 0 0], .bool false]) (by simp [results, Tryz.results31, go_sem, d0, d1]) rfl ⟨?_, .inl ⟨HNO.out, rfl⟩⟩
                  exact below_far (below_far hbD (by omega) _ _) (by omega) _ _
                · have hbd : decide (ej < 0) = false := by simpa using hb0
                  by_cases hb9 : 1048576 < ej
                  · have hbd9 : decide (1048576 < ej) = true := by simpa using hb9
                    have HNO : Hid (¬ wfP vn (tv.map TV.pl)) := Lib.hid (HBADT.out (by
                      apply eq_false_of_ne_true
                      rw [termOk_iff, low20_iff]
                      intro h
                      have := h.2.2 ej HMEM.out
                      omega))
                    go_wp2
                    refine bodyPost_ret (v := .tuple #[.agg #[.int .i64 0, .slice none 0 0], .bool false]) (by simp [results, Tryz.results31, go_sem, d0, d1]) rfl ⟨?_, .inl ⟨HNO.out, rfl⟩⟩
                    exact below_far (below_far hbD (by omega) _ _) (by omega) _ _
                  · have hbd9 : decide (1048576 < ej) = false := by simpa using hb9
                    have HJ2 : Hid (∀ e ∈ el.take (j + 1), 0 ≤ e ∧ e ≤ 1048576) := Lib.hid (by
                      rw [HT0.out]
                      intro e he
                      rcases List.mem_append.1 he with h | h
                      · exact HJ.out e h
                      · simp at h; omega)
                    go_wp2
                    go_round
                    case rel => exact ⟨j + 1, by go_num, by omega, HJ2⟩
                    case measure => simp [intOf]; omega
              · obtain rfl : j = vn := by omega
                have HLOW : Hid (low20 el = true) := Lib.hid (by
                  rw [low20_iff]
                  have h := HJ.out
                  rwa [List.take_of_length_le (by rw [HLV.out]; exact Nat.le_refl _)] at h)
                have dd : decide (j < j) = false := by simp
                go_upto_region 15 with (fail)
                obtain ⟨wd, rfl⟩ : ∃ wd : World, wd = wc := ⟨_, rfl⟩
                obtain ⟨bad2, hbad2⟩ : ∃ bad2 : Bool, bad2 = true ↔ ¬ (0 < k → 0 < Mo.ord ((tv.map TV.pl).getD (k - 1) default).2 el) := ⟨decide (¬ (0 < k → 0 < Mo.ord ((tv.map TV.pl).getD (k - 1) default).2 el)), decide_eq_true_iff⟩
                have HBAD2 := Lib.hid hbad2
                clear hbad2
                go_cut [105, 120] from 21 (fun s105 s120 wx => s105 = .bool bad2 ∧ s120 = undef ∧ Below wd.heap.size wd wx)
                case first =>
                  by_cases hk0 : k = 0
                  · subst hk0
                    obtain rfl : bad2 = false := by
                      apply eq_false_of_ne_true
                      rw [HBAD2.out]
                      exact fun h => h (fun h => absurd h (by omega))
                    have hd0 : decide ((0 : Int) < ((0 : Nat) : Int)) = false := by decide
                    go_quiet (fail)
                    go_wp2_with fail
                    go_meet
                    exact ⟨rfl, rfl, below_drewN (Below.refl _ _) _⟩
                  · obtain ⟨A0, c0, el0, hp, hpe, hlow, hlen⟩ := HPV.out (by omega)
                    obtain ⟨p1, p2⟩ := hp wd hbD
                    have hdk : decide ((0 : Int) < (k : Int)) = true := by simp; omega
                    have hdk' : decide (0 < k) = true := by simp; omega
                    have HO : Hid (∀ W', Dr wd W' → Calls Tryz.prog 51 #[.slice A0 el0.length c0, .slice E el.length ce] W' fun e w' => e = .returned (.int .i64 (Mo.ord el0 el)) ∧ ∃ m, w' = W'.drewN m) := Lib.hid (fun W' hd => rord_any A0 E c0 ce el0 el W' (p2.keep hd.below) (hID.keep hd.below) (by have := HLV.out; omega) (by omega) hlow HLOW.out)
                    have hbad2 : bad2 = decide (Mo.ord el0 el ≤ 0) := by
                      have h1 := HBAD2.out
                      rw [hpe] at h1
                      by_cases ho : Mo.ord el0 el ≤ 0
                      · rw [decide_eq_true ho]
                        exact h1.2 (fun h => by have := h (by omega); omega)
                      · rw [decide_eq_false ho]
                        apply eq_false_of_ne_true
                        rw [h1]
                        exact fun h => h (fun _ => by omega)
                    subst hbad2
                    have i1 : (0 : Int) ≤ (k : Int) - 1 := by omega
                    have i2 : (k : Int) - 1 < (tv.length : Int) := by omega
                    have i3 : ((k : Int) - 1).toNat = k - 1 := by omega
                    have i4 : IntKind.i64.wrap ((k : Int) - 1) = (k : Int) - 1 := IntWalk.i64_in _ (by omega)
                    clear HBAD2 hpe hlow hlen hp
                    generalize Mo.ord el0 el = oz at *
                    go_quiet ((go_at_call 51; exact Calls.quiet_of (HO.out _ ⟨_, rfl⟩)))
                    go_wp2_with fail
                    go_meet
                    exact ⟨rfl, rfl, below_drewN (Below.refl _ _) _⟩
                case rest =>
                  obtain ⟨rfl, rfl, hbx⟩ := hcut
                  have F1 := D1.keep hbx D1.lt
                  have F2 := D2.keep hbx D2.lt
                  have F4 := D4.keep hbx D4.lt
                  have F6 := D6.keep hbx D6.lt
                  have hownF := own_below hownD hbx (Nat.le_refl _)
                  have HNS := Lib.hid (fun j h1 h2 => (HNS.out j h1 h2).keep hbx)
                  have HRG := Lib.hid (HRG.out.keep hbx)
                  have hbF := below_all hbD hbx
                  have k0 := keep_cell hbx g0
                  have k1 := keep_cell hbx g1
                  have hz4 : wd.heap.size ≤ wc.heap.size := hbx.size
                  clear D1 D2 D4 D6 hownD hbD g0 g1 hID hbx a0 a1 d0 d1 d2 d3
                  obtain ⟨a0, a1, _, _⟩ := F1.two
                  obtain ⟨d0, d1, d2, d3⟩ := F2.two
                  cases bad2 with
                  | true =>
                    have HNO : Hid (¬ wfP j (tv.map TV.pl)) := Lib.hid (wf_bad hkm (fun h => HBAD2.out.1 rfl (fun hk => by
                      have := h.2 hk
                      rw [HPL.out] at this
                      exact this)))
                    go_wp2
                    refine bodyPost_ret (v := .tuple #[.agg #[.int .i64 0, .slice none 0 0], .bool false]) (by simp [results, Tryz.results31, go_sem, d0, d1]) rfl ⟨?_, .inl ⟨HNO.out, rfl⟩⟩
                    exact below_far (below_far hbF (by omega) _ _) (by omega) _ _
                  | false =>
                    have HW2 : Hid (wfTo j (tv.map TV.pl) (k + 1)) := Lib.hid (wfTo_succ HWF.out hkm (by
                      rw [HPL.out, termOk_iff]
                      exact ⟨HCF.out, by have := HLV.out; simp only; omega, HLOW.out⟩) (fun hk => by
                      rw [HPL.out]
                      apply Classical.byContradiction
                      intro h
                      have := HBAD2.out.2 (fun h2 => h (h2 hk))
                      cases this))
                    clear HBAD2
                    obtain ⟨b0, b1, b2, b3⟩ := F4.two
                    obtain ⟨r0, r1, r2, r3, _, _, _, _⟩ := F6.four
                    obtain ⟨we, rfl⟩ : ∃ we : World, we = wc := ⟨_, rfl⟩
                    have HNW := Lib.hid (cells_new we 52 [.bool x, .slice A n c, .bool y, .slice B m d, .slice E el.length ce])
                    have l1 := F1.lt
                    have l4 := F4.lt
                    have l6 := F6.lt
                    have l7 := World.block_lt_of_cell? _ _ k1; simp only at l7
                    have k1' := cell_alloc k1 (.cells #[.bool x, .slice A n c, .bool y, .slice B m d, .slice E el.length ce] 52)
                    have b1' := cell_alloc b1 (.cells #[.bool x, .slice A n c, .bool y, .slice B m d, .slice E el.length ce] 52)
                    go_upto_region 17 with (fail)
                    clear d0 d1 d2 d3 HPV HPL HBADT HCO HSG HR HCF hkm hel k0 a0 HLOW
                    have f1 : w1.heap.size ≠ w.heap.size + 1 + 1 := by omega
                    have f2 : w.heap.size ≠ w.heap.size + 1 + 1 := by omega
                    have f3 : (ad.add (k * 2)).block ≠ w.heap.size + 1 + 1 := by omega
                    have hoa : some (ad.add (k * 2)).block ≠ (Value.slice O ts.length co).ownBlock := fun e => by have := (hownF.lt _ e.symm).1; omega
                    have ho1 := own_blk_ne hownF F1 (by decide)
                    have ho6 := own_blk_ne hownF F6 (by decide)
                    have far : ∀ (V : World) (p : Addr) (u u' : Value), V.cell? p = some u → p.block ≠ w.heap.size + 1 + 1 → (V.setCell ⟨w.heap.size + 1 + 1, 1, none⟩ u').cell? p = some u := fun V p u u' h hne => (World.cell?_setCell_other _ _ _ _ (fun e => hne (by rw [← e]))).trans h
                    have FAR := Lib.hid far
                    clear far
                    refine wp_region_held_drew (S := (fun w' => w'.cell? ⟨w1.heap.size, 0, none⟩ = some (.bool x) ∧ w'.cell? ⟨w1.heap.size, 1, none⟩ = some (.slice A n c) ∧ w'.cell? ⟨w1.heap.size, 2, none⟩ = some (.bool y) ∧ w'.cell? ⟨w1.heap.size, 3, none⟩ = some (.slice B m d) ∧ w'.cell? ⟨w.heap.size, 1, none⟩ = some (.slice (some ad) tv.length cT) ∧ w'.cell? ⟨(ad.add (k * 2)).block, (ad.add (k * 2)).off + 1, none⟩ = some (.slice E el.length ce))) (by kernel_rfl) ⟨r0, r1, r2, r3, a1, k1⟩ (fun hHeld => ?_)
                    refine wpAnyH_get 0 (some 107) (.pointer (some ⟨w.heap.size + 1 + 1, 1, none⟩)) rfl rfl (by kernel_rfl) (by kernel_rfl) (by kernel_rfl) (fun _ _ _ h => h) (by rfl) hHeld ?_ ?_
                    · (intro w hSw; (try dsimp only at hSw); go_simp; all_goals (try with_reducible rfl))
                    simp only [Act.put, List.setIfInBounds_toArray, List.set_cons_zero, List.set_cons_succ]
                    refine wpAnyH_get 2 (some 109) (.agg #[.bool x, .slice A n c, .bool y, .slice B m d]) rfl rfl (by kernel_rfl) (by kernel_rfl) (by kernel_rfl) (fun _ _ _ h => h) (by rfl) hHeld ?_ ?_
                    · (intro w hSw; (try dsimp only at hSw); go_simp; all_goals (try with_reducible rfl))
                    simp only [Act.put, List.setIfInBounds_toArray, List.set_cons_zero, List.set_cons_succ]
                    refine wpAnyH_get 3 (some 110) (.pointer (some ⟨w.heap.size, 1, none⟩)) rfl rfl (by kernel_rfl) (by kernel_rfl) (by kernel_rfl) (fun _ _ _ h => h) (by rfl) hHeld ?_ ?_
                    · (intro w hSw; (try dsimp only at hSw); go_simp; all_goals (try with_reducible rfl))
                    simp only [Act.put, List.setIfInBounds_toArray, List.set_cons_zero, List.set_cons_succ]
                    refine wpAnyH_get 4 (some 111) (.slice (some ad) tv.length cT) rfl rfl (by kernel_rfl) (by kernel_rfl) (by kernel_rfl) (fun _ _ _ h => h) (by rfl) hHeld ?_ ?_
                    · (intro w hSw; (try dsimp only at hSw); go_simp; all_goals (try with_reducible rfl))
                    simp only [Act.put, List.setIfInBounds_toArray, List.set_cons_zero, List.set_cons_succ]
                    refine wpAnyH_get 5 (some 112) (.int .i64 k) rfl rfl (by kernel_rfl) (by kernel_rfl) (by kernel_rfl) (fun _ _ _ h => h) (by rfl) hHeld ?_ ?_
                    · (intro w hSw; (try dsimp only at hSw); go_simp; all_goals (try with_reducible rfl))
                    simp only [Act.put, List.setIfInBounds_toArray, List.set_cons_zero, List.set_cons_succ]
                    refine wpAnyH_get 6 (some 113) (.pointer (some (ad.add (k * 2)))) rfl rfl (by kernel_rfl) (by kernel_rfl) (by kernel_rfl) (fun _ _ _ h => h) (by rfl) hHeld ?_ ?_
                    · (intro w hSw; (try dsimp only at hSw); go_simp; all_goals (try with_reducible rfl))
                    simp only [Act.put, List.setIfInBounds_toArray, List.set_cons_zero, List.set_cons_succ]
                    refine wpAnyH_get 7 (some 114) (.pointer (some ⟨(ad.add (k * 2)).block, (ad.add (k * 2)).off + 1, none⟩)) rfl rfl (by kernel_rfl) (by kernel_rfl) (by kernel_rfl) (fun _ _ _ h => h) (by rfl) hHeld ?_ ?_
                    · (intro w hSw; (try dsimp only at hSw); go_simp; all_goals (try with_reducible rfl))
                    simp only [Act.put, List.setIfInBounds_toArray, List.set_cons_zero, List.set_cons_succ]
                    refine wpAnyH_get 8 (some 115) (.slice E el.length ce) rfl rfl (by kernel_rfl) (by kernel_rfl) (by kernel_rfl) (fun _ _ _ h => h) (by rfl) hHeld ?_ ?_
                    · (intro w hSw; (try dsimp only at hSw); go_simp; all_goals (try with_reducible rfl))
                    simp only [Act.put, List.setIfInBounds_toArray, List.set_cons_zero, List.set_cons_succ]
                    refine wpAnyH_get 9 (some 116) (.agg #[.bool x, .slice A n c, .bool y, .slice B m d, .slice E el.length ce]) rfl rfl (by kernel_rfl) (by kernel_rfl) (by kernel_rfl) (fun _ _ _ h => h) (by rfl) hHeld ?_ ?_
                    · (intro w hSw; (try dsimp only at hSw); go_simp; all_goals (try with_reducible rfl))
                    simp only [Act.put, List.setIfInBounds_toArray, List.set_cons_zero, List.set_cons_succ]
                    refine wpAnyH_ready (rs := [1, 10]) (by kernel_rfl) (by simp) ?_
                    refine AllReadyH.cons rfl (fun K hK => ?_) (AllReadyH.cons rfl (fun K hK => ?_) AllReadyH.nil)
                    · go_simp
                      refine hK.out _ _ ⟨r0, r1, r2, r3, a1, k1⟩ (fun hHeld => ?_)
                      clear hK K
                      (try simp only [Act.put, List.setIfInBounds_toArray, List.set_cons_zero, List.set_cons_succ])
                      refine wpAnyH_ready (rs := [10]) (by kernel_rfl) (by simp) ?_
                      refine AllReadyH.cons rfl (fun K hK => ?_) AllReadyH.nil
                      go_simp
                      refine hK.out _ _ ⟨cell_alloc r0 _, cell_alloc r1 _, cell_alloc r2 _, cell_alloc r3 _, cell_alloc a1 _, cell_alloc k1 _⟩ (fun hHeld => ?_)
                      clear hK K
                      (try simp only [Act.put, List.setIfInBounds_toArray, List.set_cons_zero, List.set_cons_succ])
                      refine wpAnyH_ready (rs := [11]) (by kernel_rfl) (by simp) ?_
                      refine AllReadyH.cons rfl (fun K hK => ?_) AllReadyH.nil
                      refine step_append_lies _ (by rfl) _ _ 37 (by rfl) (w.heap.size + 3) 52 i0 _ 5 88 Tryz.underlying37 hi iz0 iz1 iz2 rfl (by decide) (.slice O ts.length co) ts.length (ts.flatMap RT.cells) (by simp [Act.eval]) (World.ownsRow.drew (hownF.alloc _)) ⟨we.heap.size, 0, none⟩ 1 1 [.bool x, .slice A n c, .bool y, .slice B m d, .slice E el.length ce] (by simp [Act.eval]) rfl HNW.out (by simp [Value.oneCell']) (by omega) (by simp only [maxLen]; omega) (by omega) (by simp; omega) (we.heap.size + 1) (by simp) ?_
                      intro g cap w3 hown' hgrow _ _
                      have K4 := Blk.grown (Blk.drew (Blk.alloc F4 _)) hgrow (own_blk_ne hownF F4 (by decide))
                      obtain ⟨b0, b1, b2, b3⟩ := K4.two
                      have t0 := hgrow.cell (cell_alloc r0 _) ho6
                      have t1 := hgrow.cell (cell_alloc r1 _) ho6
                      have t2 := hgrow.cell (cell_alloc r2 _) ho6
                      have t3 := hgrow.cell (cell_alloc r3 _) ho6
                      have t4 := hgrow.cell (cell_alloc a1 _) ho1
                      have t5 := hgrow.cell (cell_alloc k1 _) hoa
                      refine hK.out _ _ ⟨t0, t1, t2, t3, t4, t5⟩ (fun hHeld => ?_)
                      clear hK K
                      (try simp only [Act.put, List.setIfInBounds_toArray])
                      refine wpAnyH_get 12 (some 119) (.pointer (some ⟨w.heap.size + 1 + 1, 1, none⟩)) rfl rfl (by kernel_rfl) (by kernel_rfl) (by kernel_rfl) (fun _ _ _ h => h) (by rfl) hHeld ?_ ?_
                      · (intro w hSw; (try dsimp only at hSw); go_simp; all_goals (try with_reducible rfl))
                      simp only [Act.put]
                      refine wpAnyH_ready (rs := [13]) (by kernel_rfl) (by simp) ?_
                      refine AllReadyH.cons rfl (fun K hK => ?_) AllReadyH.nil
                      go_simp
                      refine hK.out _ _ ⟨FAR.out _ _ _ _ t0 f1, FAR.out _ _ _ _ t1 f1, FAR.out _ _ _ _ t2 f1, FAR.out _ _ _ _ t3 f1, FAR.out _ _ _ _ t4 f2, FAR.out _ _ _ _ t5 f3⟩ (fun hHeld => ?_)
                      clear hK K
                      (try simp only [Act.put, List.setIfInBounds_toArray, List.set_cons_zero, List.set_cons_succ])
                      refine wpAnyH_done (by kernel_rfl) ?_ _
                      have G1 := Blk.grown (Blk.drew (Blk.alloc F1 _)) hgrow (own_blk_ne hownF F1 (by decide))
                      have G2 := Blk.grown (Blk.drew (Blk.alloc F2 _)) hgrow (own_blk_ne hownF F2 (by decide))
                      have hbG := Below.grown (Below.drew (hbF.alloc hbF.size _)) hgrow (by simp; omega) (fun j hj => by have := (hownF.lt j hj).1; omega)
                      have hoG := own_far (p := ⟨w.heap.size + 1 + 1, 1, none⟩) hown' (own_blk_ne hown' K4 (by decide)) (.slice (some ⟨g, 0, none⟩) (ts.length + 1) cap)
                      have HNX : Hid (∀ t s0, RCo we t s0 → RCo (w3.setCell ⟨w.heap.size + 1 + 1, 1, none⟩ (.slice (some ⟨g, 0, none⟩) (ts.length + 1) cap)) t s0) := Lib.hid (fun t s0 h => RCo.far (RCo.grown (h.keep (((Below.refl _ _).alloc (Nat.le_refl _) _).drew)) (World.ownsRow.drew (hownF.alloc _)) hgrow (by decide)) K4 (by decide) _ _)
                      clear b0 b1 b2 b3 k1' b1' HNW hownF F1 F2 F4 F6 r0 r1 r2 r3 t0 t1 t2 t3 t4 t5 FAR
                      go_wp2
                      go_roundw
                      case rel =>
                        refine ⟨k + 1, some ⟨g, 0, none⟩, cap, ts ++ [⟨.bool x, .slice A n c, .bool y, .slice B m d, E, ce, el⟩], by go_num, by omega, ⟨?_, below_far hbG (by omega) _ _, G1.far (by show w.heap.size ≠ w.heap.size + 1 + 1; omega) _, G2.far (by show w.heap.size + 1 ≠ w.heap.size + 1 + 1; omega) _, ?_, ?_, ?_⟩, HW2⟩
                        · rw [List.map_append, HCORE.out, HTK.out]; rfl
                        · rw [List.length_append]; exact K4.set 1 _
                        · rw [List.length_append, List.flatMap_append]; exact hoG
                        · intro q h1 h2
                          by_cases hq : q < ts.length
                          · rw [List.getElem_append_left hq]; exact HNX.out _ _ (HNS.out q hq h2)
                          · obtain rfl : q = k := by have := HTL.out; simp at h1; omega
                            rw [List.getElem_concat_length HTL.out.symm, HKC.out h2]
                            exact HNX.out _ _ HRG.out
                      case measure => simp [intOf]; omega
                    · go_simp
                      refine hK.out _ _ ⟨cell_alloc r0 _, cell_alloc r1 _, cell_alloc r2 _, cell_alloc r3 _, cell_alloc a1 _, cell_alloc k1 _⟩ (fun hHeld => ?_)
                      clear hK K
                      (try simp only [Act.put, List.setIfInBounds_toArray, List.set_cons_zero, List.set_cons_succ])
                      refine wpAnyH_ready (rs := [1]) (by kernel_rfl) (by simp) ?_
                      refine AllReadyH.cons rfl (fun K hK => ?_) AllReadyH.nil
                      go_simp
                      refine hK.out _ _ ⟨cell_alloc r0 _, cell_alloc r1 _, cell_alloc r2 _, cell_alloc r3 _, cell_alloc a1 _, cell_alloc k1 _⟩ (fun hHeld => ?_)
                      clear hK K
                      (try simp only [Act.put, List.setIfInBounds_toArray, List.set_cons_zero, List.set_cons_succ])
                      refine wpAnyH_ready (rs := [11]) (by kernel_rfl) (by simp) ?_
                      refine AllReadyH.cons rfl (fun K hK => ?_) AllReadyH.nil
                      refine step_append_lies _ (by rfl) _ _ 37 (by rfl) (w.heap.size + 3) 52 i0 _ 5 88 Tryz.underlying37 hi iz0 iz1 iz2 rfl (by decide) (.slice O ts.length co) ts.length (ts.flatMap RT.cells) (by simp [Act.eval]) (World.ownsRow.drew (hownF.alloc _)) ⟨we.heap.size, 0, none⟩ 1 1 [.bool x, .slice A n c, .bool y, .slice B m d, .slice E el.length ce] (by simp [Act.eval]) rfl HNW.out (by simp [Value.oneCell']) (by omega) (by simp only [maxLen]; omega) (by omega) (by simp; omega) (we.heap.size + 1) (by simp) ?_
                      intro g cap w3 hown' hgrow _ _
                      have K4 := Blk.grown (Blk.drew (Blk.alloc F4 _)) hgrow (own_blk_ne hownF F4 (by decide))
                      obtain ⟨b0, b1, b2, b3⟩ := K4.two
                      have t0 := hgrow.cell (cell_alloc r0 _) ho6
                      have t1 := hgrow.cell (cell_alloc r1 _) ho6
                      have t2 := hgrow.cell (cell_alloc r2 _) ho6
                      have t3 := hgrow.cell (cell_alloc r3 _) ho6
                      have t4 := hgrow.cell (cell_alloc a1 _) ho1
                      have t5 := hgrow.cell (cell_alloc k1 _) hoa
                      refine hK.out _ _ ⟨t0, t1, t2, t3, t4, t5⟩ (fun hHeld => ?_)
                      clear hK K
                      (try simp only [Act.put, List.setIfInBounds_toArray])
                      refine wpAnyH_get 12 (some 119) (.pointer (some ⟨w.heap.size + 1 + 1, 1, none⟩)) rfl rfl (by kernel_rfl) (by kernel_rfl) (by kernel_rfl) (fun _ _ _ h => h) (by rfl) hHeld ?_ ?_
                      · (intro w hSw; (try dsimp only at hSw); go_simp; all_goals (try with_reducible rfl))
                      simp only [Act.put]
                      refine wpAnyH_ready (rs := [13]) (by kernel_rfl) (by simp) ?_
                      refine AllReadyH.cons rfl (fun K hK => ?_) AllReadyH.nil
                      go_simp
                      refine hK.out _ _ ⟨FAR.out _ _ _ _ t0 f1, FAR.out _ _ _ _ t1 f1, FAR.out _ _ _ _ t2 f1, FAR.out _ _ _ _ t3 f1, FAR.out _ _ _ _ t4 f2, FAR.out _ _ _ _ t5 f3⟩ (fun hHeld => ?_)
                      clear hK K
                      (try simp only [Act.put, List.setIfInBounds_toArray, List.set_cons_zero, List.set_cons_succ])
                      refine wpAnyH_done (by kernel_rfl) ?_ _
                      have G1 := Blk.grown (Blk.drew (Blk.alloc F1 _)) hgrow (own_blk_ne hownF F1 (by decide))
                      have G2 := Blk.grown (Blk.drew (Blk.alloc F2 _)) hgrow (own_blk_ne hownF F2 (by decide))
                      have hbG := Below.grown (Below.drew (hbF.alloc hbF.size _)) hgrow (by simp; omega) (fun j hj => by have := (hownF.lt j hj).1; omega)
                      have hoG := own_far (p := ⟨w.heap.size + 1 + 1, 1, none⟩) hown' (own_blk_ne hown' K4 (by decide)) (.slice (some ⟨g, 0, none⟩) (ts.length + 1) cap)
                      have HNX : Hid (∀ t s0, RCo we t s0 → RCo (w3.setCell ⟨w.heap.size + 1 + 1, 1, none⟩ (.slice (some ⟨g, 0, none⟩) (ts.length + 1) cap)) t s0) := Lib.hid (fun t s0 h => RCo.far (RCo.grown (h.keep (((Below.refl _ _).alloc (Nat.le_refl _) _).drew)) (World.ownsRow.drew (hownF.alloc _)) hgrow (by decide)) K4 (by decide) _ _)
                      clear b0 b1 b2 b3 k1' b1' HNW hownF F1 F2 F4 F6 r0 r1 r2 r3 t0 t1 t2 t3 t4 t5 FAR
                      go_wp2
                      go_roundw
                      case rel =>
                        refine ⟨k + 1, some ⟨g, 0, none⟩, cap, ts ++ [⟨.bool x, .slice A n c, .bool y, .slice B m d, E, ce, el⟩], by go_num, by omega, ⟨?_, below_far hbG (by omega) _ _, G1.far (by show w.heap.size ≠ w.heap.size + 1 + 1; omega) _, G2.far (by show w.heap.size + 1 ≠ w.heap.size + 1 + 1; omega) _, ?_, ?_, ?_⟩, HW2⟩
                        · rw [List.map_append, HCORE.out, HTK.out]; rfl
                        · rw [List.length_append]; exact K4.set 1 _
                        · rw [List.length_append, List.flatMap_append]; exact hoG
                        · intro q h1 h2
                          by_cases hq : q < ts.length
                          · rw [List.getElem_append_left hq]; exact HNX.out _ _ (HNS.out q hq h2)
                          · obtain rfl : q = k := by have := HTL.out; simp at h1; omega
                            rw [List.getElem_concat_length HTL.out.symm, HKC.out h2]
                            exact HNX.out _ _ HRG.out
                      case measure => simp [intOf]; omega
      · obtain rfl : k = tv.length := by omega
        rw [List.take_length] at HCORE
        obtain ⟨b0, b1, b2, b3⟩ := B4.two
        obtain ⟨d0, d1, d2, d3⟩ := B2.two
        have HOK : Hid (wfP vn (tv.map TV.pl)) := Lib.hid ⟨hv0, hv6, by rw [List.length_map]; exact HWF.out⟩
        have o1 : some (w.heap.size + 1) ≠ (Value.slice O ts.length co).ownBlock := own_blk_ne hown B2 (by decide)
        go_wp2
        refine bodyPost_ret (v := .tuple #[.agg #[.int .i64 vn, .slice O ts.length co], .bool true]) (by simp [results, Tryz.results31, go_sem, d0, d1]) rfl ⟨?_, .inr ⟨HOK.out, O, co, ts, rfl, ?_, HCORE.out, fun j h1 h2 => RCo.far (RCo.far (HNS.out j h1 h2) B2 (by decide) _ _) (B2.set 0 _) (by decide) _ _⟩⟩
        · exact below_far (below_far hbr (by omega) _ _) (by omega) _ _
        · exact own_base (own_far (own_far hown o1 _) o1 _) (by omega)
  · have HF : Hid (¬ wfP v (tv.map TV.pl)) := Lib.hid (fun h => hv ⟨h.1, h.2.1⟩)
    by_cases hv0 : v < 0
    · have b1 : decide (v < 0) = true := by simpa using hv0
      go_enter Tryz.func31, Tryz.ntmps31
      go_upto_region 2 with (fail)
      rw [HWW.out]
      go_wp2
      refine bodyPost_ret (v := .tuple #[.agg #[.int .i64 0, .slice none 0 0], .bool false]) (by simp [results, Tryz.results31, go_sem, d0, d1]) rfl ⟨?_, .inl ⟨HF.out, rfl⟩⟩
      exact below_far (below_far hbW (by omega) _ _) (by omega) _ _
    · have b1 : decide (v < 0) = false := by simpa using hv0
      have b2 : decide ((6 : Int) < v) = true := by simp; omega
      go_enter Tryz.func31, Tryz.ntmps31
      go_upto_region 2 with (fail)
      rw [HWW.out]
      go_wp2
      refine bodyPost_ret (v := .tuple #[.agg #[.int .i64 0, .slice none 0 0], .bool false]) (by simp [results, Tryz.results31, go_sem, d0, d1]) rfl ⟨?_, .inl ⟨HF.out, rfl⟩⟩
      exact below_far (below_far hbW (by omega) _ _) (by omega) _ _
end Go.Proofs.Tg
end
section
/- The reference's sum of one term, walked (printed by wip/tools/mk_sum1.py). -/
namespace Go.Proofs.Tg.Sx
open Go.RowKit Go.Gr Go.Sp Go.Ev Go.Mo Go.Bn Go.Qn
set_option maxHeartbeats 8000000
set_option maxRecDepth 100000
theorem rt5_info : (Tryz.prog.info? 52).map (fun i => (i.zero, i.size, i.bytes)) = some (some (.agg #[.bool false, .slice none 0 0, .bool false, .slice none 0 0, .slice none 0 0]), 5, 88) := by kernel_rfl
theorem rt5_at {w : World} {T : Option Addr} {ts : List RT} (h : Sl w T ts.length 5 (ts.flatMap RT.cells)) {k : Nat} (hk : k < ts.length) :
    ∃ ad, T = some ad ∧ ad.block < w.heap.size ∧ w.cell? (ad.add (k * 5)) = some ts[k].c0 ∧ w.cell? ⟨(ad.add (k * 5)).block, (ad.add (k * 5)).off + 1, none⟩ = some ts[k].c1 ∧ w.cell? ⟨(ad.add (k * 5)).block, (ad.add (k * 5)).off + 2, none⟩ = some ts[k].c2 ∧
      w.cell? ⟨(ad.add (k * 5)).block, (ad.add (k * 5)).off + 3, none⟩ = some ts[k].c3 ∧ w.cell? ⟨(ad.add (k * 5)).block, (ad.add (k * 5)).off + 4, none⟩ = some (.slice ts[k].adr ts[k].exps.length ts[k].cap) := by
  obtain ⟨ad, rfl, hlt, ha⟩ := h.lies (by omega)
  have off : ∀ i, (⟨(ad.add (k * 5)).block, (ad.add (k * 5)).off + (i + 1), none⟩ : Addr) = ad.add (k * 5 + (i + 1)) := fun i => by rw [← add_add]; simp [Addr.add]
  have g := fun j hj => flat_get RT.cells 5 (fun _ => rfl) ts k j hk hj
  refine ⟨ad, rfl, hlt, ha _ _ ?_, (congrArg w.cell? (off 0)).trans (ha _ _ ?_), (congrArg w.cell? (off 1)).trans (ha _ _ ?_), (congrArg w.cell? (off 2)).trans (ha _ _ ?_), (congrArg w.cell? (off 3)).trans (ha _ _ ?_)⟩
  · have := g 0 (by omega); rw [Nat.add_zero] at this; exact this
  · exact g 1 (by omega)
  · exact g 2 (by omega)
  · exact g 3 (by omega)
  · exact g 4 (by omega)
/-- A term with the coefficient one. -/
def one1 (A : Option Addr) (ca : Nat) (E : Option Addr) (ce : Nat) (el : List Int) : RT := ⟨.bool false, .slice A 1 ca, .bool false, .slice none 0 0, E, ce, el⟩
/-- What Sum's loop holds. -/
structure SmSt (w : World) (V : Int) (t : RT) (wr : World) (k : Nat) (R : Option Addr) (c : Nat) : Prop where
  below : Below w.heap.size w wr
  b4 : Blk wr w.heap.size 39 #[.int .i64 0, .slice none 0 0]
  b6 : Blk wr (w.heap.size + 1) 39 #[.int .i64 V, .slice R k c]
  own : wr.ownsRow (w.heap.size + 2) 52 5 (.slice R k c) k ((List.replicate k t).flatMap RT.cells)
theorem SmSt.keep {w wr wz : World} {V : Int} {t : RT} {k c : Nat} {R : Option Addr} (h : SmSt w V t wr k R c) (hb : Below wr.heap.size wr wz) : SmSt w V t wz k R c :=
  ⟨below_all h.below hb, h.b4.keep hb h.b4.lt, h.b6.keep hb h.b6.lt, own_below h.own hb (Nat.le_refl _)⟩
theorem rsum1_any (V : Int) (L : Option Addr) (cL : Nat) (A : Option Addr) (ca : Nat) (E : Option Addr) (ce : Nat) (el : List Int) (w : World) (hL : Sl w L 1 5 (one1 A ca E ce el).cells) :
    Calls Tryz.prog 34 #[.int .i64 V, .slice L 1 cL] w fun e w' => ∃ R c, e = .returned (.agg #[.int .i64 V, .slice R 1 c]) ∧ w'.ownsRow w.heap.size 52 5 (.slice R 1 c) 1 (one1 A ca E ce el).cells ∧ Below w.heap.size w w' := by
  have hL1 : Sl w L ([one1 A ca E ce el]).length 5 (([one1 A ca E ce el]).flatMap RT.cells) := by simpa using hL
  obtain ⟨od, rfl, hob, k0, k1, k2, k3, k4⟩ := rt5_at hL1 (k := 0) (by simp)
  have HT : Hid ((one1 A ca E ce el).cells = [.bool false, .slice A 1 ca, .bool false, .slice none 0 0, .slice E el.length ce]) := Lib.hid rfl
  have c0 : w.cell? (od.add (0 * 5)) = some (.bool false) := k0
  have c1 : w.cell? ⟨(od.add (0 * 5)).block, (od.add (0 * 5)).off + 1, none⟩ = some (.slice A 1 ca) := k1
  have c2 : w.cell? ⟨(od.add (0 * 5)).block, (od.add (0 * 5)).off + 2, none⟩ = some (.bool false) := k2
  have c3 : w.cell? ⟨(od.add (0 * 5)).block, (od.add (0 * 5)).off + 3, none⟩ = some (.slice none 0 0) := k3
  have c4 : w.cell? ⟨(od.add (0 * 5)).block, (od.add (0 * 5)).off + 4, none⟩ = some (.slice E el.length ce) := k4
  have HC : Hid (∀ k : Nat, k < 1 → w.cell? (od.add (k * 5)) = some (.bool false) ∧ w.cell? ⟨(od.add (k * 5)).block, (od.add (k * 5)).off + 1, none⟩ = some (.slice A 1 ca) ∧ w.cell? ⟨(od.add (k * 5)).block, (od.add (k * 5)).off + 2, none⟩ = some (.bool false) ∧ w.cell? ⟨(od.add (k * 5)).block, (od.add (k * 5)).off + 3, none⟩ = some (.slice none 0 0) ∧ w.cell? ⟨(od.add (k * 5)).block, (od.add (k * 5)).off + 4, none⟩ = some (.slice E el.length ce)) := Lib.hid (fun k hk => by
    obtain rfl : k = 0 := by omega
    exact ⟨c0, c1, c2, c3, c4⟩)
  clear k0 k1 k2 k3 k4 c0 c1 c2 c3 c4 hL hL1
  generalize one1 A ca E ce el = t at *
  obtain ⟨i0, hi, iz0, iz1, iz2⟩ := info_parts rt5_info
  obtain ⟨W, hW⟩ : ∃ W, (w.alloc (.cells #[.int .i64 0, .slice none 0 0] 39)).alloc (.cells #[.int .i64 V, .slice none 0 0] 39) = W := ⟨_, rfl⟩
  have B4 : Blk W w.heap.size 39 #[.int .i64 0, .slice none 0 0] := by rw [← hW]; exact (Blk.new _ _ _).alloc _
  have B6 : Blk W (w.heap.size + 1) 39 #[.int .i64 V, .slice none 0 0] := by
    rw [← hW]; have := Blk.new (w.alloc (.cells #[.int .i64 0, .slice none 0 0] 39)) 39 #[.int .i64 V, .slice none 0 0]
    simpa using this
  have hbW : Below w.heap.size w W := by rw [← hW]; exact ((Below.refl _ _).alloc (Nat.le_refl _) _).alloc (by simp) _
  have HWW := Lib.hid hW
  clear hW
  go_enter Tryz.func34, Tryz.ntmps34
  go_upto_region 3 with (go_at_call 56; refine (sorted_one _ _ _).mono ?_; rintro e w1 ⟨rfl, rfl⟩)
  rw [HWW.out]
  go_wp2
  go_loopw [7] (fun s7 wr => ∃ (k : Nat) (R : Option Addr) (c : Nat), s7 = .int .i64 k ∧ k ≤ 1 ∧ Hid (SmSt w V t wr k R c)) (fun s7 _ => 1 - (intOf s7).toNat)
  case atStart => exact ⟨0, none, 0, rfl, by omega, Lib.hid ⟨hbW, B4, B6, World.ownsRow_nil _ _ _ _⟩⟩
  case round =>
    clear B4 B6 hbW
    obtain ⟨wo, rfl⟩ : ∃ wo : World, wo = wr := ⟨_, rfl⟩
    obtain ⟨k, R, c, rfl, hk, HST⟩ := hrel
    have hbr := HST.out.below
    have hz : w.heap.size + 2 ≤ wo.heap.size := by have := HST.out.b6.lt; omega
    by_cases hlt : k < 1
    · obtain ⟨k0, k1, k2, k3, k4⟩ := HC.out k hlt
      have k0 := keep_cell hbr k0
      have k1 := keep_cell hbr k1
      have k2 := keep_cell hbr k2
      have k3 := keep_cell hbr k3
      have k4 := keep_cell hbr k4
      have q0 : (0 : Int) ≤ (k : Int) := by omega
      have q1 : (k : Int) < 1 := by omega
      have q3 : ((k : Int)).toNat = k := by omega
      have q4 : decide ((k : Int) + 1 < 1) = false := decide_eq_false (by omega)
      go_upto_region 6 with (fail)
      obtain ⟨W3, hW3⟩ : ∃ W3, wo.alloc (.cells #[.bool false, .slice A 1 ca, .bool false, .slice none 0 0] 48) = W3 := ⟨_, rfl⟩
      have F8 : Blk W3 wo.heap.size 48 #[.bool false, .slice A 1 ca, .bool false, .slice none 0 0] := by rw [← hW3]; exact Blk.new _ _ _
      have hbF : Below wo.heap.size wo W3 := by rw [← hW3]; exact (Below.refl _ _).alloc (Nat.le_refl _) _
      rw [hW3]
      have HS3 := Lib.hid (HST.out.keep hbF)
      clear hW3 k0 k1 k2 k3 k4
      go_wp2
      go_loopw [9] (fun s9 wr => s9 = .int .i64 ((k : Int) + 1) ∧ Below wo.heap.size wo wr ∧ Blk wr wo.heap.size 48 #[.bool false, .slice A 1 ca, .bool false, .slice none 0 0]) (fun _ _ => 0)
      case atStart => exact ⟨by go_num, hbF, F8⟩
      case round =>
        clear F8 hbF HS3
        obtain ⟨wi, rfl⟩ : ∃ wi : World, wi = wr := ⟨_, rfl⟩
        obtain ⟨rfl, hbi, F8⟩ := hrel
        go_upto_region 7 with (fail)
        go_quiet (fail)
        have hbd : Below wo.heap.size wo (wi.drewN nq) := below_all hbi (below_drewN (Below.refl _ _) _)
        have G8 : Blk (wi.drewN nq) wo.heap.size 48 #[.bool false, .slice A 1 ca, .bool false, .slice none 0 0] := F8.keep (below_drewN (Below.refl _ _) _) F8.lt
        generalize wi.drewN nq = wd at *
        clear F8 hbi
        obtain ⟨y0, y1, y2, y3, z0, z1, z2, z3⟩ := G8.four
        have HRS := Lib.hid (fun V => rsign_any false false A none 1 ca 0 0 V (by omega) 1 (by simp))
        go_upto_region 11 with (go_at_call 50; refine (HRS.out _).mono ?_; rintro e we ⟨rfl, hbs⟩)
        have H8 := G8.keep hbs G8.lt
        have hbe := below_all hbd hbs
        clear y0 y1 y2 y3 z0 z1 z2 z3 G8 hbd hbs HRS
        have HS4 := Lib.hid (HST.out.keep hbe)
        obtain ⟨y0, y1, y2, y3, _, _, _, _⟩ := H8.four
        obtain ⟨k0, k1, k2, k3, k4⟩ := HC.out k hlt
        have k4 := keep_cell (below_all hbr hbe) k4
        clear k0 k1 k2 k3
        have hz8 := H8.lt
        have f8 : wo.heap.size ≠ w.heap.size + 1 := by omega
        have f4 : (od.add (k * 5)).block ≠ w.heap.size + 1 := by rw [add_block]; omega
        have hoa : some (od.add (k * 5)).block ≠ (Value.slice R k c).ownBlock := fun e => by have := (HST.out.own.lt _ e.symm).1; rw [add_block] at this; omega
        have ho8 : some wo.heap.size ≠ (Value.slice R k c).ownBlock := fun e => by have := (HST.out.own.lt _ e.symm).2; omega
        have FAR : Hid (∀ (V : World) (p : Addr) (u u' : Value), V.cell? p = some u → p.block ≠ w.heap.size + 1 → (V.setCell ⟨w.heap.size + 1, 1, none⟩ u').cell? p = some u) := Lib.hid (fun V p u u' h hne => (World.cell?_setCell_other _ _ _ _ (fun e => hne (by rw [← e]))).trans h)
        have BZ : Below we.heap.size we we.drew := (Below.refl _ _).drew
        have hzw : wo.heap.size < we.heap.size := hz8
        clear H8
        refine wp_region_held_drew (S := (fun w' => w'.cell? ⟨wo.heap.size, 0, none⟩ = some (.bool false) ∧ w'.cell? ⟨wo.heap.size, 1, none⟩ = some (.slice A 1 ca) ∧ w'.cell? ⟨wo.heap.size, 2, none⟩ = some (.bool false) ∧ w'.cell? ⟨wo.heap.size, 3, none⟩ = some (.slice none 0 0) ∧ w'.cell? ⟨(od.add (k * 5)).block, (od.add (k * 5)).off + 4, none⟩ = some (.slice E el.length ce))) (by kernel_rfl) ⟨y0, y1, y2, y3, k4⟩ (fun hHeld => ?_)
        generalize we.drew = Z at *
        refine wpAnyH_get 0 (some 55) (.pointer (some ⟨w.heap.size + 1, 1, none⟩)) rfl rfl (by kernel_rfl) (by kernel_rfl) (by kernel_rfl) (fun _ _ _ h => h) (by rfl) hHeld ?_ ?_
        · (intro w hSw; (try dsimp only at hSw); go_simp; all_goals (try with_reducible rfl))
        simp only [Act.put, List.setIfInBounds_toArray, List.set_cons_zero, List.set_cons_succ]
        refine wpAnyH_get 2 (some 57) (.agg #[.bool false, .slice A 1 ca, .bool false, .slice none 0 0]) rfl rfl (by kernel_rfl) (by kernel_rfl) (by kernel_rfl) (fun _ _ _ h => h) (by rfl) hHeld ?_ ?_
        · (intro w hSw; (try dsimp only at hSw); go_simp; all_goals (try with_reducible rfl))
        simp only [Act.put, List.setIfInBounds_toArray, List.set_cons_zero, List.set_cons_succ]
        refine wpAnyH_get 3 (some 58) (.slice (some od) 1 cL) rfl rfl (by kernel_rfl) (by kernel_rfl) (by kernel_rfl) (fun _ _ _ h => h) (by rfl) hHeld ?_ ?_
        · (intro w hSw; (try dsimp only at hSw); go_simp; all_goals (try with_reducible rfl))
        simp only [Act.put, List.setIfInBounds_toArray, List.set_cons_zero, List.set_cons_succ]
        refine wpAnyH_get 4 (some 59) (.int .i64 k) rfl rfl (by kernel_rfl) (by kernel_rfl) (by kernel_rfl) (fun _ _ _ h => h) (by rfl) hHeld ?_ ?_
        · (intro w hSw; (try dsimp only at hSw); go_simp; all_goals (try with_reducible rfl))
        simp only [Act.put, List.setIfInBounds_toArray, List.set_cons_zero, List.set_cons_succ]
        refine wpAnyH_get 5 (some 60) (.pointer (some (od.add (k * 5)))) rfl rfl (by kernel_rfl) (by kernel_rfl) (by kernel_rfl) (fun _ _ _ h => h) (by rfl) hHeld ?_ ?_
        · (intro w hSw; (try dsimp only at hSw); go_simp; all_goals (try with_reducible rfl))
        simp only [Act.put, List.setIfInBounds_toArray, List.set_cons_zero, List.set_cons_succ]
        refine wpAnyH_get 6 (some 61) (.pointer (some ⟨(od.add (k * 5)).block, (od.add (k * 5)).off + 4, none⟩)) rfl rfl (by kernel_rfl) (by kernel_rfl) (by kernel_rfl) (fun _ _ _ h => h) (by rfl) hHeld ?_ ?_
        · (intro w hSw; (try dsimp only at hSw); go_simp; all_goals (try with_reducible rfl))
        simp only [Act.put, List.setIfInBounds_toArray, List.set_cons_zero, List.set_cons_succ]
        refine wpAnyH_get 7 (some 62) (.slice E el.length ce) rfl rfl (by kernel_rfl) (by kernel_rfl) (by kernel_rfl) (fun _ _ _ h => h) (by rfl) hHeld ?_ ?_
        · (intro w hSw; (try dsimp only at hSw); go_simp; all_goals (try with_reducible rfl))
        simp only [Act.put, List.setIfInBounds_toArray, List.set_cons_zero, List.set_cons_succ]
        refine wpAnyH_get 8 (some 63) (.agg #[.bool false, .slice A 1 ca, .bool false, .slice none 0 0, .slice E el.length ce]) rfl rfl (by kernel_rfl) (by kernel_rfl) (by kernel_rfl) (fun _ _ _ h => h) (by rfl) hHeld ?_ ?_
        · (intro w hSw; (try dsimp only at hSw); go_simp; all_goals (try with_reducible rfl))
        simp only [Act.put, List.setIfInBounds_toArray, List.set_cons_zero, List.set_cons_succ]
        refine wpAnyH_ready (rs := [1, 9]) (by kernel_rfl) (by simp) ?_
        refine AllReadyH.cons rfl (fun K hK => ?_) (AllReadyH.cons rfl (fun K hK => ?_) AllReadyH.nil)
        · obtain ⟨x0, x1, x2, x3⟩ := (HS4.out.b6.keep BZ HS4.out.b6.lt).two
          go_simp
          refine hK.out _ _ ⟨keep_cell BZ y0, keep_cell BZ y1, keep_cell BZ y2, keep_cell BZ y3, keep_cell BZ k4⟩ (fun hHeld => ?_)
          clear hK K x0 x1 x2 x3
          (try simp only [Act.put, List.setIfInBounds_toArray, List.set_cons_zero, List.set_cons_succ])
          refine wpAnyH_ready (rs := [9]) (by kernel_rfl) (by simp) ?_
          refine AllReadyH.cons rfl (fun K hK => ?_) AllReadyH.nil
          go_simp
          have BY : Below we.heap.size we (Z.alloc (.cells #[.bool false, .slice A 1 ca, .bool false, .slice none 0 0, .slice E el.length ce] 52)) := BZ.alloc BZ.size _
          have HNW := Lib.hid (cells_new Z 52 [.bool false, .slice A 1 ca, .bool false, .slice none 0 0, .slice E el.length ce])
          refine hK.out _ _ ⟨keep_cell BY y0, keep_cell BY y1, keep_cell BY y2, keep_cell BY y3, keep_cell BY k4⟩ (fun hHeld => ?_)
          clear hK K
          (try simp only [Act.put, List.setIfInBounds_toArray, List.set_cons_zero, List.set_cons_succ])
          have hzz : we.heap.size ≤ Z.heap.size := BZ.size
          have hz1 : (Z.alloc (.cells #[.bool false, .slice A 1 ca, .bool false, .slice none 0 0, .slice E el.length ce] 52)).heap.size = Z.heap.size + 1 := by simp
          generalize Z.alloc (.cells [.bool false, .slice A 1 ca, .bool false, .slice none 0 0, .slice E el.length ce].toArray 52) = Y at *
          generalize Z.heap.size = g9 at *
          refine wpAnyH_ready (rs := [10]) (by kernel_rfl) (by simp) ?_
          refine AllReadyH.cons rfl (fun K hK => ?_) AllReadyH.nil
          have hownY := own_below HS4.out.own BY (Nat.le_refl _)
          refine step_append_lies _ (by rfl) _ _ 37 (by rfl) (w.heap.size + 2) 52 i0 _ 5 88 Tryz.underlying37 hi iz0 iz1 iz2 rfl (by decide) (.slice R k c) k ((List.replicate k t).flatMap RT.cells) (by simp [Act.eval]) hownY ⟨g9, 0, none⟩ 1 1 [.bool false, .slice A 1 ca, .bool false, .slice none 0 0, .slice E el.length ce] (by simp [Act.eval]) rfl HNW.out (by simp [Value.oneCell']) (by omega) (by simp only [maxLen]; omega) (by omega) (by omega) (g9 + 1) hz1 ?_
          intro g cap w3 hown' hgrow _ _
          have K4 := Blk.grown (HS4.out.b4.keep BY HS4.out.b4.lt) hgrow (own_blk_ne hownY (HS4.out.b4.keep BY HS4.out.b4.lt) (by decide))
          have K6 := Blk.grown (HS4.out.b6.keep BY HS4.out.b6.lt) hgrow (own_blk_ne hownY (HS4.out.b6.keep BY HS4.out.b6.lt) (by decide))
          have t0 := hgrow.cell (keep_cell BY y0) ho8
          have t1 := hgrow.cell (keep_cell BY y1) ho8
          have t2 := hgrow.cell (keep_cell BY y2) ho8
          have t3 := hgrow.cell (keep_cell BY y3) ho8
          have t4 := hgrow.cell (keep_cell BY k4) hoa
          refine hK.out _ _ ⟨t0, t1, t2, t3, t4⟩ (fun hHeld => ?_)
          clear hK K
          (try simp only [Act.put, List.setIfInBounds_toArray])
          refine wpAnyH_get 11 (some 66) (.pointer (some ⟨w.heap.size + 1, 1, none⟩)) rfl rfl (by kernel_rfl) (by kernel_rfl) (by kernel_rfl) (fun _ _ _ h => h) (by rfl) hHeld ?_ ?_
          · (intro w hSw; (try dsimp only at hSw); go_simp; all_goals (try with_reducible rfl))
          simp only [Act.put]
          refine wpAnyH_ready (rs := [12]) (by kernel_rfl) (by simp) ?_
          refine AllReadyH.cons rfl (fun K hK => ?_) AllReadyH.nil
          obtain ⟨x0, x1, x2, x3⟩ := K6.two
          have hbG := Below.grown (below_all (below_all hbr hbe) BY) hgrow (by omega) (fun j hj => by have := (hownY.lt j hj).1; omega)
          go_simp
          refine hK.out _ _ ⟨FAR.out _ _ _ _ t0 f8, FAR.out _ _ _ _ t1 f8, FAR.out _ _ _ _ t2 f8, FAR.out _ _ _ _ t3 f8, FAR.out _ _ _ _ t4 f4⟩ (fun hHeld => ?_)
          clear hK K
          (try simp only [Act.put, List.setIfInBounds_toArray, List.set_cons_zero, List.set_cons_succ])
          refine wpAnyH_done (by kernel_rfl) ?_ _
          clear t0 t1 t2 t3 t4 x0 x1 x2 x3
          go_wp2
          go_roundw
          case rel =>
            refine ⟨k + 1, some ⟨g, 0, none⟩, cap, by go_num, by omega, Lib.hid ⟨below_far hbG (by omega) _ _, K4.far (by show w.heap.size ≠ w.heap.size + 1; omega) _, K6.set 1 _, ?_⟩⟩
            rw [List.replicate_succ', List.flatMap_append]
            have e : [t].flatMap RT.cells = [.bool false, .slice A 1 ca, .bool false, .slice none 0 0, .slice E el.length ce] := by simp [HT.out]
            rw [e]
            exact own_far hown' (own_blk_ne hown' K6 (by decide)) _
          case measure => simp [intOf]; omega
        · go_simp
          have BY : Below we.heap.size we (Z.alloc (.cells #[.bool false, .slice A 1 ca, .bool false, .slice none 0 0, .slice E el.length ce] 52)) := BZ.alloc BZ.size _
          have HNW := Lib.hid (cells_new Z 52 [.bool false, .slice A 1 ca, .bool false, .slice none 0 0, .slice E el.length ce])
          refine hK.out _ _ ⟨keep_cell BY y0, keep_cell BY y1, keep_cell BY y2, keep_cell BY y3, keep_cell BY k4⟩ (fun hHeld => ?_)
          clear hK K
          (try simp only [Act.put, List.setIfInBounds_toArray, List.set_cons_zero, List.set_cons_succ])
          have hzz : we.heap.size ≤ Z.heap.size := BZ.size
          have hz1 : (Z.alloc (.cells #[.bool false, .slice A 1 ca, .bool false, .slice none 0 0, .slice E el.length ce] 52)).heap.size = Z.heap.size + 1 := by simp
          generalize Z.alloc (.cells [.bool false, .slice A 1 ca, .bool false, .slice none 0 0, .slice E el.length ce].toArray 52) = Y at *
          generalize Z.heap.size = g9 at *
          refine wpAnyH_ready (rs := [1]) (by kernel_rfl) (by simp) ?_
          refine AllReadyH.cons rfl (fun K hK => ?_) AllReadyH.nil
          obtain ⟨x0, x1, x2, x3⟩ := (HS4.out.b6.keep BY HS4.out.b6.lt).two
          go_simp
          refine hK.out _ _ ⟨keep_cell BY y0, keep_cell BY y1, keep_cell BY y2, keep_cell BY y3, keep_cell BY k4⟩ (fun hHeld => ?_)
          clear hK K x0 x1 x2 x3
          (try simp only [Act.put, List.setIfInBounds_toArray, List.set_cons_zero, List.set_cons_succ])
          refine wpAnyH_ready (rs := [10]) (by kernel_rfl) (by simp) ?_
          refine AllReadyH.cons rfl (fun K hK => ?_) AllReadyH.nil
          have hownY := own_below HS4.out.own BY (Nat.le_refl _)
          refine step_append_lies _ (by rfl) _ _ 37 (by rfl) (w.heap.size + 2) 52 i0 _ 5 88 Tryz.underlying37 hi iz0 iz1 iz2 rfl (by decide) (.slice R k c) k ((List.replicate k t).flatMap RT.cells) (by simp [Act.eval]) hownY ⟨g9, 0, none⟩ 1 1 [.bool false, .slice A 1 ca, .bool false, .slice none 0 0, .slice E el.length ce] (by simp [Act.eval]) rfl HNW.out (by simp [Value.oneCell']) (by omega) (by simp only [maxLen]; omega) (by omega) (by omega) (g9 + 1) hz1 ?_
          intro g cap w3 hown' hgrow _ _
          have K4 := Blk.grown (HS4.out.b4.keep BY HS4.out.b4.lt) hgrow (own_blk_ne hownY (HS4.out.b4.keep BY HS4.out.b4.lt) (by decide))
          have K6 := Blk.grown (HS4.out.b6.keep BY HS4.out.b6.lt) hgrow (own_blk_ne hownY (HS4.out.b6.keep BY HS4.out.b6.lt) (by decide))
          have t0 := hgrow.cell (keep_cell BY y0) ho8
          have t1 := hgrow.cell (keep_cell BY y1) ho8
          have t2 := hgrow.cell (keep_cell BY y2) ho8
          have t3 := hgrow.cell (keep_cell BY y3) ho8
          have t4 := hgrow.cell (keep_cell BY k4) hoa
          refine hK.out _ _ ⟨t0, t1, t2, t3, t4⟩ (fun hHeld => ?_)
          clear hK K
          (try simp only [Act.put, List.setIfInBounds_toArray])
          refine wpAnyH_get 11 (some 66) (.pointer (some ⟨w.heap.size + 1, 1, none⟩)) rfl rfl (by kernel_rfl) (by kernel_rfl) (by kernel_rfl) (fun _ _ _ h => h) (by rfl) hHeld ?_ ?_
          · (intro w hSw; (try dsimp only at hSw); go_simp; all_goals (try with_reducible rfl))
          simp only [Act.put]
          refine wpAnyH_ready (rs := [12]) (by kernel_rfl) (by simp) ?_
          refine AllReadyH.cons rfl (fun K hK => ?_) AllReadyH.nil
          obtain ⟨x0, x1, x2, x3⟩ := K6.two
          have hbG := Below.grown (below_all (below_all hbr hbe) BY) hgrow (by omega) (fun j hj => by have := (hownY.lt j hj).1; omega)
          go_simp
          refine hK.out _ _ ⟨FAR.out _ _ _ _ t0 f8, FAR.out _ _ _ _ t1 f8, FAR.out _ _ _ _ t2 f8, FAR.out _ _ _ _ t3 f8, FAR.out _ _ _ _ t4 f4⟩ (fun hHeld => ?_)
          clear hK K
          (try simp only [Act.put, List.setIfInBounds_toArray, List.set_cons_zero, List.set_cons_succ])
          refine wpAnyH_done (by kernel_rfl) ?_ _
          clear t0 t1 t2 t3 t4 x0 x1 x2 x3
          go_wp2
          go_roundw
          case rel =>
            refine ⟨k + 1, some ⟨g, 0, none⟩, cap, by go_num, by omega, Lib.hid ⟨below_far hbG (by omega) _ _, K4.far (by show w.heap.size ≠ w.heap.size + 1; omega) _, K6.set 1 _, ?_⟩⟩
            rw [List.replicate_succ', List.flatMap_append]
            have e : [t].flatMap RT.cells = [.bool false, .slice A 1 ca, .bool false, .slice none 0 0, .slice E el.length ce] := by simp [HT.out]
            rw [e]
            exact own_far hown' (own_blk_ne hown' K6 (by decide)) _
          case measure => simp [intOf]; omega
    · obtain rfl : k = 1 := by omega
      obtain ⟨a0, a1, a2, a3⟩ := HST.out.b6.two
      obtain ⟨b0, b1, b2, b3⟩ := HST.out.b4.two
      go_wp2
      have K4 := (HST.out.b4.set 0 (.int .i64 V)).set 1 (.slice R 1 c)
      obtain ⟨e0, e1, _, _⟩ := Blk.two (a := .int .i64 V) (b := .slice R 1 c) (by simpa using K4)
      refine bodyPost_ret (v := .agg #[.int .i64 V, .slice R 1 c]) (by simp [results, Tryz.results34, go_sem, e0, e1]) rfl ⟨R, c, rfl, ?_, ?_⟩
      · have ho := own_far (own_far HST.out.own (own_blk_ne HST.out.own HST.out.b4 (by decide)) (p := ⟨w.heap.size, 0, none⟩) (.int .i64 V)) (own_blk_ne HST.out.own HST.out.b4 (by decide)) (p := ⟨w.heap.size, 1, none⟩) (.slice R 1 c)
        have := own_base ho (show w.heap.size ≤ w.heap.size + 2 by omega)
        simpa using this
      · exact below_far (below_far hbr (Nat.le_refl _) _ _) (Nat.le_refl _) _ _
end Go.Proofs.Tg.Sx
end
