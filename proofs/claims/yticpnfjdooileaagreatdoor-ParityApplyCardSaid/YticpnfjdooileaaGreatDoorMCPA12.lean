/- Parts of the proof: WP2, E3. -/
import Derived.Test.YticpnfjdooileaaGreatDoorMCPA2
import Derived.Test.YticpnfjdooileaaGreatDoorMCPA4
import Derived.Test.YticpnfjdooileaaGreatDoorMCPA11
section
/- Walks: a polynomial read. -/
namespace Go.Proofs.Tg
open Go.RowKit Go.Qn Go.Gr Go.Mo
set_option maxHeartbeats 4000000
set_option maxRecDepth 100000
theorem entry_info : (Tryz.prog.info? 125).map (fun i => (i.zero, i.size, i.bytes)) = some (some (.agg #[.int .i64 0, .int .i64 0, .int .i64 0, .int .i64 0, .int .i64 0, .int .i64 0, .bool false, .slice none 0 0, .bool false, .slice none 0 0]), 10, 112) := by kernel_rfl
theorem cells_new (w : World) (t : TypeId) (xs : List Value) : ∀ j u, xs[j]? = some u → (w.alloc (.cells xs.toArray t)).cell? ((⟨w.heap.size, 0, none⟩ : Addr).add j) = some u := by
  intro j u hu
  rw [add_lit, Nat.zero_add, Blk.cell (Blk.new w t xs.toArray) j]
  simpa using hu
/-- What a polynomial's reading returns: something, and whether it is well formed. -/
def RetPB (ok : Bool) (w : World) (e : Ending) (w' : World) : Prop := ∃ R rn rc, e = .returned (.tuple #[.slice R rn rc, .bool ok]) ∧ Below w.heap.size w w'
theorem rwf_any (v : Int) (T : Option Addr) (cT : Nat) (tv : List TV) (ok : Bool) (w : World) (hA : TermsAt w T tv) (hn : tv.length ≤ 4096) (hs : ∀ t ∈ tv, t.coef.size ≤ 19 ∧ t.exps.length ≤ 64) (hok : ok = true ↔ wfP v (tv.map TV.pl)) (hT : Tab w) :
    Calls Tryz.prog 56 #[.agg #[.int .i64 v, .slice T tv.length cT]] w (RetPB ok w) := by
  have HS := Lib.hid hs
  have HOK := Lib.hid hok
  clear hs hok
  obtain ⟨i0, hi, hz0, hz1, hz2⟩ := info_parts entry_info
  by_cases hv : 0 ≤ v ∧ v ≤ 6
  · obtain ⟨hv0, hv6⟩ := hv
    have b1 : decide (v < 0) = false := by simp; omega
    have b2 : decide ((6 : Int) < v) = false := by simp; omega
    have hbA : Below w.heap.size w (w.alloc (.cells #[.int .i64 v, .slice T tv.length cT] 36)) := (Below.refl _ _).alloc (Nat.le_refl _) _
    obtain ⟨wm, hrun, hown, hgrow⟩ := run_make_own (P := Tryz.prog) (w.alloc (.cells #[.int .i64 v, .slice T tv.length cT] 36)) (w.heap.size + 1) 88 125 i0 _ 10 Tryz.underlying88 hi hz0 hz1 .i64 .i64 tv.length (by rw [hz2]; omega) (by simp only [maxLen]; omega) (by simp)
    have B1 : Blk wm w.heap.size 36 #[.int .i64 v, .slice T tv.length cT] := (Blk.new w _ _).grown hgrow (by simp)
    have hbm : Below w.heap.size w wm := hbA.grown hgrow (by simp) (fun k hk => by cases hk)
    obtain ⟨q0, q1, q2, q3⟩ := B1.two
    have esz : (w.alloc (.cells #[.int .i64 v, .slice T tv.length cT] 36)).heap.size = w.heap.size + 1 := by simp
    rw [esz] at hrun hown
    clear esz
    go_enter Tryz.func56, Tryz.ntmps56
    go_wp2
    go_loopw [4, 24] (fun tm i wr => ∃ (k : Nat) (xs : List Value), i = .int .i64 k ∧ k ≤ tv.length ∧ wr.ownsRow (w.heap.size + 1) 125 10 tm k xs ∧ Blk wr w.heap.size 36 #[.int .i64 v, .slice T tv.length cT] ∧ Below w.heap.size w wr ∧ Hid (wfTo v (tv.map TV.pl) k)) (fun _ i _ => tv.length - (intOf i).toNat)
    case atStart => exact ⟨0, [], rfl, Nat.zero_le _, hown, B1, hbm, Lib.hid (wfTo_zero _ _)⟩
    case round =>
      clear hrun hown hgrow B1 hbm q0 q1 q2 q3 hbA
      obtain ⟨wo, rfl⟩ : ∃ wo : World, wo = wr := ⟨_, rfl⟩
      obtain ⟨k, xs, rfl, hk, hown, B1, hb, HW⟩ := hrel
      have hzo : w.heap.size < wo.heap.size := B1.lt
      by_cases hlt : k < tv.length
      · obtain ⟨ad, rfl, e0, e1, hI⟩ := (hA.keep hb).at hlt
        have hsz := HS.out tv[k] (List.getElem_mem _)
        have HPL : Hid ((tv.map TV.pl)[k]'(by simpa using hlt) = (tv[k].coef, tv[k].exps)) := Lib.hid (by simp [TV.pl])
        have hprev : 0 < k → ∃ A0 c0 el0, (∀ W, Below w.heap.size w W → W.cell? ⟨(ad.add ((k - 1) * 2)).block, (ad.add ((k - 1) * 2)).off + 1, none⟩ = some (.slice A0 (List.length el0) c0) ∧ Ints W A0 el0) ∧ ((tv.map TV.pl).getD (k - 1) default).2 = el0 ∧ low20 el0 = true ∧ (el0.length : Int) = v := by
          intro h0
          have hk1 : k - 1 < tv.length := by omega
          refine ⟨tv[k - 1].adr, tv[k - 1].cap, tv[k - 1].exps, fun W hW => ?_, by simp [hk1, TV.pl], ?_⟩
          · obtain ⟨ad', e', _, h2, h3⟩ := (hA.keep hW).at hk1
            injection e' with e'
            subst e'
            exact ⟨h2, h3⟩
          · have := (HW.out (k - 1) (by omega) (by simp; omega)).1
            rw [List.getElem_map, termOk_iff] at this
            exact ⟨this.2.2, this.2.1⟩
        have HPV := Lib.hid hprev
        clear hprev
        generalize tv[k] = t at *
        obtain ⟨s, Ae, ce, el⟩ := t
        simp only at e0 e1 hI hsz HPL
        have hadl : ad.block < wo.heap.size := by have := World.block_lt_of_cell? wo _ e0; rwa [add_block] at this
        obtain ⟨q0, q1, q2, q3⟩ := B1.two
        have hIa := Sl.alloc hI (.cells #[.string s, .slice Ae el.length ce] 54)
        have hba := hb.alloc hb.size (.cells #[.string s, .slice Ae el.length ce] 54)
        have HRT := Lib.hid (rterm_any v s Ae ce el _ hIa hsz.1 hsz.2 hv0 hv6 (hT.below hba hT.1))
        go_upto_region 8 with (go_at_call 71; refine HRT.out.mono ?_; rintro e w2 ⟨x0, x1, x2, x3, x4, x5, x, y, X, Y, m, n, cx, cy, rfl, hb2⟩)
        have hb2w : Below w.heap.size w w2 := hba.trans (hb2.mono hba.size)
        have C1 := ((B1.alloc (.cells #[.string s, .slice Ae el.length ce] 54)).keep hb2 (by simp; omega)).alloc (.cells #[.int .i64 x0, .int .i64 x1, .int .i64 x2, .int .i64 x3, .int .i64 x4, .int .i64 x5, .bool x, .slice X m cx, .bool y, .slice Y n cy] 125)
        have C6 := ((Blk.new wo 54 #[.string s, .slice Ae el.length ce]).keep hb2 (by simp)).alloc (.cells #[.int .i64 x0, .int .i64 x1, .int .i64 x2, .int .i64 x3, .int .i64 x4, .int .i64 x5, .bool x, .slice X m cx, .bool y, .slice Y n cy] 125)
        have C7 := Blk.new w2 125 #[.int .i64 x0, .int .i64 x1, .int .i64 x2, .int .i64 x3, .int .i64 x4, .int .i64 x5, .bool x, .slice X m cx, .bool y, .slice Y n cy]
        have hownW := (own_below (hown.alloc _) hb2 (Nat.le_refl _)).alloc (.cells #[.int .i64 x0, .int .i64 x1, .int .i64 x2, .int .i64 x3, .int .i64 x4, .int .i64 x5, .bool x, .slice X m cx, .bool y, .slice Y n cy] 125)
        have hbW := hb2w.alloc hb2w.size (.cells #[.int .i64 x0, .int .i64 x1, .int .i64 x2, .int .i64 x3, .int .i64 x4, .int .i64 x5, .bool x, .slice X m cx, .bool y, .slice Y n cy] 125)
        have hIW := Sl.alloc (Sl.keep hIa hb2) (.cells #[.int .i64 x0, .int .i64 x1, .int .i64 x2, .int .i64 x3, .int .i64 x4, .int .i64 x5, .bool x, .slice X m cx, .bool y, .slice Y n cy] 125)
        generalize w2.alloc (.cells #[.int .i64 x0, .int .i64 x1, .int .i64 x2, .int .i64 x3, .int .i64 x4, .int .i64 x5, .bool x, .slice X m cx, .bool y, .slice Y n cy] 125) = W at *
        clear q0 q1 q2 q3 hb2 hba hb2w HRT hIa e0 e1 hI B1 hown hb
        obtain ⟨q0, q1, q2, q3⟩ := C1.two
        obtain ⟨r0, r1, r2, r3⟩ := C6.two
        obtain ⟨tk, htk⟩ : ∃ tk, termOk v (s, el) = tk := ⟨_, rfl⟩
        have HTK := Lib.hid htk
        obtain ⟨bad, hbad⟩ : ∃ bad : Bool, bad = true ↔ ¬ (tk = true ∧ (0 < k → 0 < ord ((tv.map TV.pl).getD (k - 1) default).2 el)) := ⟨decide (¬ (tk = true ∧ (0 < k → 0 < ord ((tv.map TV.pl).getD (k - 1) default).2 el))), decide_eq_true_iff⟩
        have HBAD := Lib.hid hbad
        rw [htk]
        clear htk hbad
        go_cut [54] (fun s54 wx => s54 = .bool bad ∧ Dr W wx)
        case first =>
          cases tk with
          | false =>
            obtain rfl : bad = true := HBAD.out.2 (fun h => by cases h.1)
            go_quiet (fail)
            go_wp2_with fail
            go_meet
            exact ⟨rfl, ⟨_, rfl⟩⟩
          | true =>
            by_cases hk0 : k = 0
            · subst hk0
              obtain rfl : bad = false := by
                apply eq_false_of_ne_true
                rw [HBAD.out]
                exact fun h => h ⟨rfl, fun h => absurd h (by omega)⟩
              have hd0 : decide ((0 : Int) < ((0 : Nat) : Int)) = false := by decide
              go_quiet (fail)
              go_wp2_with fail
              go_meet
              exact ⟨rfl, ⟨_, rfl⟩⟩
            · obtain ⟨A0, c0, el0, hp, hpe, hlow, hlen⟩ := HPV.out (by omega)
              obtain ⟨p1, p2⟩ := hp W hbW
              have htt := termOk_iff.1 HTK.out
              have hdk : decide ((0 : Int) < (k : Int)) = true := by simp; omega
              have hdk' : decide (0 < k) = true := by simp; omega
              have HO : Hid (∀ W', Dr W W' → Calls Tryz.prog 72 #[.slice A0 el0.length c0, .slice Ae el.length ce] W' fun e w' => e = .returned (.int .i64 (ord el0 el)) ∧ ∃ m, w' = W'.drewN m) := Lib.hid (fun W' hd => order_any A0 Ae c0 ce el0 el W' (p2.keep hd.below) (hIW.keep hd.below) (by have := htt.2.1; simp only at this; omega) (by have := htt.2.1; omega) hlow htt.2.2)
              have hbad2 : bad = decide (ord el0 el ≤ 0) := by
                have h1 := HBAD.out
                rw [hpe] at h1
                by_cases ho : ord el0 el ≤ 0
                · rw [decide_eq_true ho]
                  exact h1.2 (fun h => by have := h.2 (by omega); omega)
                · rw [decide_eq_false ho]
                  apply eq_false_of_ne_true
                  rw [h1]
                  exact fun h => h ⟨rfl, fun _ => by omega⟩
              subst hbad2
              have i1 : (0 : Int) ≤ (k : Int) - 1 := by omega
              have i2 : (k : Int) - 1 < (tv.length : Int) := by omega
              have i3 : ((k : Int) - 1).toNat = k - 1 := by omega
              have i4 : IntKind.i64.wrap ((k : Int) - 1) = (k : Int) - 1 := IntWalk.i64_in _ (by omega)
              clear HBAD htt hpe hlow hlen hp
              generalize ord el0 el = oz at *
              go_quiet ((go_at_call 72; exact Calls.quiet_of (HO.out _ ⟨_, rfl⟩)))
              go_wp2_with fail
              go_meet
              exact ⟨rfl, ⟨_, rfl⟩⟩
        case rest =>
          obtain ⟨rfl, hdr⟩ := hcut
          have D1 := C1.keep hdr.below C1.lt
          have D7 := C7.keep hdr.below C7.lt
          have hownD := own_below hownW hdr.below (Nat.le_refl _)
          have hbD := below_all hbW hdr.below
          clear q0 q1 q2 q3 r0 r1 r2 r3 C1 C6 C7 hownW hbW hIW hdr HPV
          cases bad with
          | true =>
            obtain rfl : ok = false := by
              apply eq_false_of_ne_true
              rw [HOK.out]
              intro h
              refine HBAD.out.1 rfl ?_
              have := h.2.2 k (by simpa using hlt) (by simpa using hlt)
              rw [HPL.out] at this
              exact ⟨HTK.out.symm.trans this.1, this.2⟩
            go_wp2
            go_ret2
            exact ⟨none, 0, 0, rfl, hbD⟩
          | false =>
            have hgood : tk = true ∧ (0 < k → 0 < ord ((tv.map TV.pl).getD (k - 1) default).2 el) := by
              apply Classical.byContradiction
              intro h
              have := HBAD.out.2 h
              cases this
            have HW2 : Hid (wfTo v (tv.map TV.pl) (k + 1)) := Lib.hid (wfTo_succ HW.out (by simpa using hlt) (by rw [HPL.out, HTK.out]; exact hgood.1) (by rw [HPL.out]; exact hgood.2))
            clear hgood HBAD
            obtain ⟨⟨j0, j1, j2, j3, j4, j5, j6, j7, j8, j9⟩, k0, k1, k2, k3, k4, k5, k6, k7, k8, k9⟩ := D7.ten
            have HNW := Lib.hid (cells_new wc 125 [.int .i64 x0, .int .i64 x1, .int .i64 x2, .int .i64 x3, .int .i64 x4, .int .i64 x5, .bool x, .slice X m cx, .bool y, .slice Y n cy])
            go_wp2_with (at_builtin; refine wpList_append_own _ rfl _ _ 88 rfl (w.heap.size + 1) 125 i0 _ 10 112 Tryz.underlying88 hi hz0 hz1 hz2 rfl (by decide) u4 k xs rfl (hownD.alloc _) ⟨wc.heap.size, 0, none⟩ 1 1 [.int .i64 x0, .int .i64 x1, .int .i64 x2, .int .i64 x3, .int .i64 x4, .int .i64 x5, .bool x, .slice X m cx, .bool y, .slice Y n cy] rfl rfl HNW.out ?c2 ?c3 ?c4 ?c5 ?_
                         case c2 => simp [Value.oneCell']
                         case c3 => simp only [maxLen]; omega
                         case c4 => omega
                         case c5 => have := D1.lt; simp; omega
                         intro v' w3 hown' hgrow _)
            go_roundw
            case rel =>
              refine ⟨k + 1, _, by go_num, by omega, hown', ?_, ?_, HW2⟩
              · exact (D1.alloc _).grown hgrow (own_blk_ne hownD D1 (by decide))
              · exact (hbD.alloc hbD.size _).grown hgrow (by have := hbD.size; simp; omega) (fun j hj => by have := (hownD.lt j hj).1; omega)
            case measure => simp [intOf]; omega
      · obtain rfl : k = tv.length := by omega
        obtain rfl : ok = true := HOK.out.2 ⟨hv0, hv6, by rw [List.length_map]; exact HW.out⟩
        go_wp2
        go_ret2
        obtain ⟨R, rc, hR, _, _⟩ := Sl.of_own hown
        exact ⟨R, tv.length, rc, by rw [← hR]; rfl, hb⟩
  · have HF : Hid (ok = false) := Lib.hid (by
      apply eq_false_of_ne_true
      rw [HOK.out]
      exact fun h => hv ⟨h.1, h.2.1⟩)
    obtain rfl := HF.out
    by_cases hv0 : v < 0
    · have b1 : decide (v < 0) = true := by simpa using hv0
      go_enter Tryz.func56, Tryz.ntmps56
      go_wp2
      go_ret2
      exact ⟨none, 0, 0, rfl, (Below.refl _ _).alloc (Nat.le_refl _) _⟩
    · have b1 : decide (v < 0) = false := by simpa using hv0
      have b2 : decide ((6 : Int) < v) = true := by simp; omega
      go_enter Tryz.func56, Tryz.ntmps56
      go_wp2
      go_ret2
      exact ⟨none, 0, 0, rfl, (Below.refl _ _).alloc (Nat.le_refl _) _⟩
theorem pread_any (v : Int) (T : Option Addr) (cT : Nat) (tv : List TV) (ok : Bool) (w : World) (hA : TermsAt w T tv) (hn : tv.length ≤ 4096) (hs : ∀ t ∈ tv, t.coef.size ≤ 19 ∧ t.exps.length ≤ 64) (hok : ok = true ↔ VldP v (tv.map TV.pl)) (hT : Tab w) :
    Calls Tryz.prog 46 #[.agg #[.int .i64 v, .slice T tv.length cT]] w (RetPB ok w) := by
  have hbA : Below w.heap.size w (w.alloc (.cells #[.int .i64 v, .slice T tv.length cT] 36)) := (Below.refl _ _).alloc (Nat.le_refl _) _
  have d0 : decide ((4096 : Int) < (tv.length : Int)) = false := by simp; omega
  obtain ⟨wf, hwf⟩ : ∃ wf : Bool, wf = true ↔ wfP v (tv.map TV.pl) := by
    by_cases h : wfP v (tv.map TV.pl)
    · exact ⟨true, iff_of_true rfl h⟩
    · exact ⟨false, iff_of_false (by decide) h⟩
  have HWF := Lib.hid (rwf_any v T cT tv wf _ (hA.keep hbA) hn hs hwf (hT.below hbA hT.1))
  have HW := Lib.hid hwf
  have HOK := Lib.hid hok
  clear hwf hok
  cases wf with
  | false =>
    obtain rfl : ok = false := by
      apply eq_false_of_ne_true
      rw [HOK.out]
      intro h
      have := HW.out.2 h.2.1
      cases this
    go_enter Tryz.func46, Tryz.ntmps46
    go_wp2_with (go_at_call 56; refine HWF.out.mono ?_; rintro e w1 ⟨R, rn, rc, rfl, hb1⟩)
    go_ret2
    exact ⟨none, 0, 0, rfl, hbA.trans (hb1.mono (by simp))⟩
  | true =>
    by_cases h0 : 0 < tv.length
    · obtain ⟨vm, hvm⟩ : ∃ vm, vldM tv[0].exps = vm := ⟨_, rfl⟩
      obtain rfl : ok = vm := by
        have h1 := HOK.out
        have h2 := HW.out.1 rfl
        rw [Bool.eq_iff_iff, h1, ← hvm]
        constructor
        · intro h
          have := h.2.2 (by simpa using h0)
          simpa [TV.pl] using this
        · intro h
          refine ⟨by simpa using hn, h2, fun _ => ?_⟩
          simpa [TV.pl] using h
      have hl := (hs tv[0] (List.getElem_mem _)).2
      obtain ⟨ad, rfl, _, e1, hI⟩ := hA.at h0
      have HV : Hid (∀ W, Below w.heap.size w W → Calls Tryz.prog 14 #[.slice tv[0].adr tv[0].exps.length tv[0].cap] W fun e w' => e = .returned (.bool ok) ∧ W = w') := Lib.hid (fun W hW => by
        rw [← hvm]; exact valid_any _ _ _ W (hI.keep hW) (by omega))
      have e1 : w.cell? ⟨ad.block, ad.off + 1, none⟩ = some (.slice tv[0].adr tv[0].exps.length tv[0].cap) := by simpa [Addr.add] using e1
      have d1 : decide ((0 : Int) < (tv.length : Int)) = true := by simp; omega
      have d1' : decide (0 < tv.length) = true := by simp; omega
      clear hvm hI hA HW HOK
      generalize tv[0] = t0 at *
      obtain ⟨s0, A0, c0, el0⟩ := t0
      simp only at e1 HV
      cases ok
      all_goals
        go_enter Tryz.func46, Tryz.ntmps46
        go_wp2_with (first
          | (go_at_call 56; refine HWF.out.mono ?_; rintro e w1 ⟨R, rn, rc, rfl, hb1⟩
             have hbw : Below w.heap.size w w1 := hbA.trans (hb1.mono (by simp))
             have k0 := keep_cell hb1 (Blk.cell (Blk.new w 36 #[.int .i64 v, .slice (some ad) tv.length cT]) 0)
             have k1 := keep_cell hb1 (Blk.cell (Blk.new w 36 #[.int .i64 v, .slice (some ad) tv.length cT]) 1)
             have k2 := keep_cell hbw e1
             simp at k0 k1)
          | (go_at_call 14; refine (HV.out _ hbw).mono ?_; rintro e w' ⟨rfl, rfl⟩))
        go_ret2
        first
          | exact ⟨R, rn, rc, rfl, hbw⟩
          | exact ⟨none, 0, 0, rfl, hbw⟩
    · obtain rfl : tv = [] := List.eq_nil_of_length_eq_zero (by omega)
      obtain rfl : ok = true := HOK.out.2 ⟨by simp, HW.out.1 rfl, fun h => absurd h (by simp)⟩
      go_enter Tryz.func46, Tryz.ntmps46
      go_wp2_with (go_at_call 56; refine HWF.out.mono ?_; rintro e w1 ⟨R, rn, rc, rfl, hb1⟩
                   have k0 := keep_cell hb1 (Blk.cell (Blk.new w 36 #[.int .i64 v, .slice T (List.length ([] : List TV)) cT]) 0)
                   have k1 := keep_cell hb1 (Blk.cell (Blk.new w 36 #[.int .i64 v, .slice T (List.length ([] : List TV)) cT]) 1)
                   simp at k0 k1)
      go_ret2
      exact ⟨R, rn, rc, rfl, hbA.trans (hb1.mono (by simp))⟩
theorem pvalid_any (v : Int) (T : Option Addr) (cT : Nat) (tv : List TV) (ok : Bool) (w : World) (hA : TermsAt w T tv) (hn : tv.length ≤ 4096) (hs : ∀ t ∈ tv, t.coef.size ≤ 19 ∧ t.exps.length ≤ 64) (hok : ok = true ↔ VldP v (tv.map TV.pl)) (hT : Tab w) :
    Calls Tryz.prog 25 #[.agg #[.int .i64 v, .slice T tv.length cT]] w fun e w' => e = .returned (.bool ok) ∧ Below w.heap.size w w' := by
  have hbA : Below w.heap.size w (w.alloc (.cells #[.int .i64 v, .slice T tv.length cT] 36)) := (Below.refl _ _).alloc (Nat.le_refl _) _
  have HR := Lib.hid (pread_any v T cT tv ok _ (hA.keep hbA) hn hs hok (hT.below hbA hT.1))
  go_enter Tryz.func25, Tryz.ntmps25
  go_wp2_with (go_at_call 46; refine HR.out.mono ?_; rintro e w1 ⟨R, rn, rc, rfl, hb1⟩)
  go_ret
  exact ⟨rfl, hbA.trans (hb1.mono (by simp))⟩
end Go.Proofs.Tg
end
section
/- Sign symmetries: what the search over all sign vectors finds. Plain numbers. -/
namespace Go.Ev
open Go.Gr
/-- The parities of the rows, as marks. -/
def occF (rows : List (List Int)) (i : Nat) : Bool := rows.any fun r => pk r r.length == i
theorem occF_app (rows : List (List Int)) (r : List Int) (i : Nat) : occF (rows ++ [r]) i = (occF rows i || (pk r r.length == i)) := by
  unfold occF; rw [List.any_append]; simp
/-- A sign vector that has an even number of bits in common with each marked number. -/
def goodS (f : Nat → Bool) (x : Nat) : Bool := (List.range 64).all fun e => !(f e && decide (size (x &&& e) % 2 = 1))
theorem goodS_iff {f : Nat → Bool} {x : Nat} : goodS f x = true ↔ ∀ e, e < 64 → f e = true → size (x &&& e) % 2 ≠ 1 := by
  unfold goodS
  rw [List.all_eq_true]
  constructor
  · intro h e he hf
    have := h e (List.mem_range.2 he)
    simpa [hf] using this
  · intro h e he
    have := h e (List.mem_range.1 he)
    cases hf : f e with
    | false => rfl
    | true => simpa using this hf
theorem good_V {rows : List (List Int)} {n x : Nat} (hn : n ≤ 6) (hx : x < 2 ^ n) (hr : ∀ r ∈ rows, r.length = n) : goodS (occF rows) x = true ↔ V rows n x := by
  have h6 : 2 ^ n ≤ 2 ^ 6 := Nat.pow_le_pow_right (by omega) hn
  rw [goodS_iff]
  constructor
  · intro h
    refine ⟨hx, fun r hr' => ?_⟩
    have hl := hr r hr'
    have hp := pk_lt r r.length
    rw [hl] at hp
    have := h (pk r n) (by omega) (by unfold occF; exact List.any_eq_true.2 ⟨r, hr', by rw [hl]; simp⟩)
    rw [size_and r x n (by omega)] at this
    omega
  · intro h e he hf
    unfold occF at hf
    obtain ⟨r, hr', hre⟩ := List.any_eq_true.1 hf
    have hl := hr r hr'
    have e2 : pk r n = e := by rw [hl] at hre; simpa using hre
    rw [← e2, size_and r x n (by omega), h.2 r hr']
    decide
/-- The vectors that the search has found below s. -/
def fnd (f : Nat → Bool) (s : Nat) : List Nat := (List.range s).filter fun x => decide (0 < x) && goodS f x
theorem fnd_succ (f : Nat → Bool) (s : Nat) (hs : 0 < s) : fnd f (s + 1) = fnd f s ++ (if goodS f s = true then [s] else []) := by
  unfold fnd
  rw [List.range_succ, List.filter_append]
  congr 1
  simp [List.filter_cons, hs]
theorem fnd_one (f : Nat → Bool) : fnd f 1 = [] := rfl
theorem fnd_len (f : Nat → Bool) (s : Nat) : (fnd f s).length ≤ s := by
  unfold fnd
  exact Nat.le_trans (List.length_filter_le _ _) (by simp)
theorem fnd_space {rows : List (List Int)} {n : Nat} (hn : n ≤ 6) (hr : ∀ r ∈ rows, r.length = n) :
    (∀ v ∈ fnd (occF rows) (2 ^ n), V rows n v) ∧ ∀ x, V rows n x → Span (fnd (occF rows) (2 ^ n)) x := by
  constructor
  · intro v hv
    obtain ⟨h1, h2⟩ := List.mem_filter.1 hv
    have h1 := List.mem_range.1 h1
    rw [Bool.and_eq_true] at h2
    exact (good_V hn h1 hr).1 h2.2
  · intro x hx
    by_cases h0 : x = 0
    · subst h0; exact .zero
    · exact Span.mem (List.mem_filter.2 ⟨List.mem_range.2 hx.1, by rw [(good_V hn hx.1 hr).2 hx, decide_eq_true (Nat.pos_of_ne_zero h0)]; rfl⟩)
end Go.Ev
end
