/- Parts of the proof: WP2, WB3, XK5, ST0, BN1, BN9. -/
import Derived.Deep.CutRange
import Derived.ChangeKeysEq
import Derived.Laws.Rows
import Derived.Laws.Tables
import Derived.Test.YtpkompfkhoceoaaGreatDoorMMV1
import Derived.Test.YtpkompfkhoceoaaGreatDoorMMV3
import Derived.Test.YtpkompfkhoceoaaGreatDoorMMV5
import Derived.Test.YtpkompfkhoceoaaGreatDoorMMV7
section
/- Walks: a polynomial read. -/
namespace Go.Proofs.Tg
open Go.RowKit Go.Qn Go.Gr Go.Mo
set_option maxHeartbeats 4000000
set_option maxRecDepth 100000
theorem entry_info : (Tryz.prog.info? 211).map (fun i => (i.zero, i.size, i.bytes)) = some (some (.agg #[.int .i64 0, .int .i64 0, .int .i64 0, .int .i64 0, .int .i64 0, .int .i64 0, .bool false, .slice none 0 0, .bool false, .slice none 0 0]), 10, 112) := by kernel_rfl
theorem cells_new (w : World) (t : TypeId) (xs : List Value) : ∀ j u, xs[j]? = some u → (w.alloc (.cells xs.toArray t)).cell? ((⟨w.heap.size, 0, none⟩ : Addr).add j) = some u := by
  intro j u hu
  rw [add_lit, Nat.zero_add, Blk.cell (Blk.new w t xs.toArray) j]
  simpa using hu
/-- What a polynomial's reading returns: something, and whether it is well formed. -/
def RetPB (ok : Bool) (w : World) (e : Ending) (w' : World) : Prop := ∃ R rn rc, e = .returned (.tuple #[.slice R rn rc, .bool ok]) ∧ Below w.heap.size w w'
theorem rwf_any (v : Int) (T : Option Addr) (cT : Nat) (tv : List TV) (ok : Bool) (w : World) (hA : TermsAt w T tv) (hn : tv.length ≤ 4096) (hs : ∀ t ∈ tv, t.coef.size ≤ 19 ∧ t.exps.length ≤ 64) (hok : ok = true ↔ wfP v (tv.map TV.pl)) (hT : Tab w) :
    Calls Tryz.prog 121 #[.agg #[.int .i64 v, .slice T tv.length cT]] w (RetPB ok w) := by
  have HS := Lib.hid hs
  have HOK := Lib.hid hok
  clear hs hok
  obtain ⟨i0, hi, hz0, hz1, hz2⟩ := info_parts entry_info
  by_cases hv : 0 ≤ v ∧ v ≤ 6
  · obtain ⟨hv0, hv6⟩ := hv
    have b1 : decide (v < 0) = false := by simp; omega
    have b2 : decide ((6 : Int) < v) = false := by simp; omega
    have hbA : Below w.heap.size w (w.alloc (.cells #[.int .i64 v, .slice T tv.length cT] 71)) := (Below.refl _ _).alloc (Nat.le_refl _) _
    obtain ⟨wm, hrun, hown, hgrow⟩ := run_make_own (P := Tryz.prog) (w.alloc (.cells #[.int .i64 v, .slice T tv.length cT] 71)) (w.heap.size + 1) 157 211 i0 _ 10 Tryz.underlying157 hi hz0 hz1 .i64 .i64 tv.length (by rw [hz2]; omega) (by simp only [maxLen]; omega) (by simp)
    have B1 : Blk wm w.heap.size 71 #[.int .i64 v, .slice T tv.length cT] := (Blk.new w _ _).grown hgrow (by simp)
    have hbm : Below w.heap.size w wm := hbA.grown hgrow (by simp) (fun k hk => by cases hk)
    obtain ⟨q0, q1, q2, q3⟩ := B1.two
    have esz : (w.alloc (.cells #[.int .i64 v, .slice T tv.length cT] 71)).heap.size = w.heap.size + 1 := by simp
    rw [esz] at hrun hown
    clear esz
    go_enter Tryz.func121, Tryz.ntmps121
    go_wp2
    go_loopw [4, 24] (fun tm i wr => ∃ (k : Nat) (xs : List Value), i = .int .i64 k ∧ k ≤ tv.length ∧ wr.ownsRow (w.heap.size + 1) 211 10 tm k xs ∧ Blk wr w.heap.size 71 #[.int .i64 v, .slice T tv.length cT] ∧ Below w.heap.size w wr ∧ Hid (wfTo v (tv.map TV.pl) k)) (fun _ i _ => tv.length - (intOf i).toNat)
    case atStart => exact ⟨0, [], rfl, Nat.zero_le _, hown, B1, hbm, Lib.hid (wfTo_zero _ _)⟩
    case round =>
      clear hrun hown hgrow B1 hbm q0 q1 q2 q3 hbA
      obtain ⟨wo, rfl⟩ : ∃ wo : World, wo = wr := ⟨_, rfl⟩
      obtain ⟨k, xs, rfl, hk, hown, B1, hb, HW⟩ := hrel
      have hzo : w.heap.size < wo.heap.size := B1.lt
      by_cases hlt : k < tv.length
      · obtain ⟨ad, rfl, e0, e1, hI⟩ := (hA.keep hb).at hlt
        have hsz := HS.out tv[k] (List.getElem_mem _)
        have HPL : Hid ((tv.map TV.pl)[k]'(by simpa using hlt) = (tv[k].coef, tv[k].exps)) := Lib.hid (by simp [TV.pl])
        have hprev : 0 < k → ∃ A0 c0 el0, (∀ W, Below w.heap.size w W → W.cell? ⟨(ad.add ((k - 1) * 2)).block, (ad.add ((k - 1) * 2)).off + 1, none⟩ = some (.slice A0 (List.length el0) c0) ∧ Ints W A0 el0) ∧ ((tv.map TV.pl).getD (k - 1) default).2 = el0 ∧ low20 el0 = true ∧ (el0.length : Int) = v := by
          intro h0
          have hk1 : k - 1 < tv.length := by omega
          refine ⟨tv[k - 1].adr, tv[k - 1].cap, tv[k - 1].exps, fun W hW => ?_, by simp [hk1, TV.pl], ?_⟩
          · obtain ⟨ad', e', _, h2, h3⟩ := (hA.keep hW).at hk1
            injection e' with e'
            subst e'
            exact ⟨h2, h3⟩
          · have := (HW.out (k - 1) (by omega) (by simp; omega)).1
            rw [List.getElem_map, termOk_iff] at this
            exact ⟨this.2.2, this.2.1⟩
        have HPV := Lib.hid hprev
        clear hprev
        generalize tv[k] = t at *
        obtain ⟨s, Ae, ce, el⟩ := t
        simp only at e0 e1 hI hsz HPL
        have hadl : ad.block < wo.heap.size := by have := World.block_lt_of_cell? wo _ e0; rwa [add_block] at this
        obtain ⟨q0, q1, q2, q3⟩ := B1.two
        have hIa := Sl.alloc hI (.cells #[.string s, .slice Ae el.length ce] 110)
        have hba := hb.alloc hb.size (.cells #[.string s, .slice Ae el.length ce] 110)
        have HRT := Lib.hid (rterm_any v s Ae ce el _ hIa hsz.1 hsz.2 hv0 hv6 (hT.below hba hT.1))
        go_upto_region 8 with (go_at_call 152; refine HRT.out.mono ?_; rintro e w2 ⟨x0, x1, x2, x3, x4, x5, x, y, X, Y, m, n, cx, cy, rfl, hb2⟩)
        have hb2w : Below w.heap.size w w2 := hba.trans (hb2.mono hba.size)
        have C1 := ((B1.alloc (.cells #[.string s, .slice Ae el.length ce] 110)).keep hb2 (by simp; omega)).alloc (.cells #[.int .i64 x0, .int .i64 x1, .int .i64 x2, .int .i64 x3, .int .i64 x4, .int .i64 x5, .bool x, .slice X m cx, .bool y, .slice Y n cy] 211)
        have C6 := ((Blk.new wo 110 #[.string s, .slice Ae el.length ce]).keep hb2 (by simp)).alloc (.cells #[.int .i64 x0, .int .i64 x1, .int .i64 x2, .int .i64 x3, .int .i64 x4, .int .i64 x5, .bool x, .slice X m cx, .bool y, .slice Y n cy] 211)
        have C7 := Blk.new w2 211 #[.int .i64 x0, .int .i64 x1, .int .i64 x2, .int .i64 x3, .int .i64 x4, .int .i64 x5, .bool x, .slice X m cx, .bool y, .slice Y n cy]
        have hownW := (own_below (hown.alloc _) hb2 (Nat.le_refl _)).alloc (.cells #[.int .i64 x0, .int .i64 x1, .int .i64 x2, .int .i64 x3, .int .i64 x4, .int .i64 x5, .bool x, .slice X m cx, .bool y, .slice Y n cy] 211)
        have hbW := hb2w.alloc hb2w.size (.cells #[.int .i64 x0, .int .i64 x1, .int .i64 x2, .int .i64 x3, .int .i64 x4, .int .i64 x5, .bool x, .slice X m cx, .bool y, .slice Y n cy] 211)
        have hIW := Sl.alloc (Sl.keep hIa hb2) (.cells #[.int .i64 x0, .int .i64 x1, .int .i64 x2, .int .i64 x3, .int .i64 x4, .int .i64 x5, .bool x, .slice X m cx, .bool y, .slice Y n cy] 211)
        generalize w2.alloc (.cells #[.int .i64 x0, .int .i64 x1, .int .i64 x2, .int .i64 x3, .int .i64 x4, .int .i64 x5, .bool x, .slice X m cx, .bool y, .slice Y n cy] 211) = W at *
        clear q0 q1 q2 q3 hb2 hba hb2w HRT hIa e0 e1 hI B1 hown hb
        obtain ⟨q0, q1, q2, q3⟩ := C1.two
        obtain ⟨r0, r1, r2, r3⟩ := C6.two
        obtain ⟨tk, htk⟩ : ∃ tk, termOk v (s, el) = tk := ⟨_, rfl⟩
        have HTK := Lib.hid htk
        obtain ⟨bad, hbad⟩ : ∃ bad : Bool, bad = true ↔ ¬ (tk = true ∧ (0 < k → 0 < Mo.ord ((tv.map TV.pl).getD (k - 1) default).2 el)) := ⟨decide (¬ (tk = true ∧ (0 < k → 0 < Mo.ord ((tv.map TV.pl).getD (k - 1) default).2 el))), decide_eq_true_iff⟩
        have HBAD := Lib.hid hbad
        rw [htk]
        clear htk hbad
        go_cut [54] (fun s54 wx => s54 = .bool bad ∧ Dr W wx)
        case first =>
          cases tk with
          | false =>
            obtain rfl : bad = true := HBAD.out.2 (fun h => by cases h.1)
            go_quiet (fail)
            go_wp2_with fail
            go_meet
            exact ⟨rfl, ⟨_, rfl⟩⟩
          | true =>
            by_cases hk0 : k = 0
            · subst hk0
              obtain rfl : bad = false := by
                apply eq_false_of_ne_true
                rw [HBAD.out]
                exact fun h => h ⟨rfl, fun h => absurd h (by omega)⟩
              have hd0 : decide ((0 : Int) < ((0 : Nat) : Int)) = false := by decide
              go_quiet (fail)
              go_wp2_with fail
              go_meet
              exact ⟨rfl, ⟨_, rfl⟩⟩
            · obtain ⟨A0, c0, el0, hp, hpe, hlow, hlen⟩ := HPV.out (by omega)
              obtain ⟨p1, p2⟩ := hp W hbW
              have htt := termOk_iff.1 HTK.out
              have hdk : decide ((0 : Int) < (k : Int)) = true := by simp; omega
              have hdk' : decide (0 < k) = true := by simp; omega
              have HO : Hid (∀ W', Dr W W' → Calls Tryz.prog 153 #[.slice A0 el0.length c0, .slice Ae el.length ce] W' fun e w' => e = .returned (.int .i64 (Mo.ord el0 el)) ∧ ∃ m, w' = W'.drewN m) := Lib.hid (fun W' hd => order_any A0 Ae c0 ce el0 el W' (p2.keep hd.below) (hIW.keep hd.below) (by have := htt.2.1; simp only at this; omega) (by have := htt.2.1; omega) hlow htt.2.2)
              have hbad2 : bad = decide (Mo.ord el0 el ≤ 0) := by
                have h1 := HBAD.out
                rw [hpe] at h1
                by_cases ho : Mo.ord el0 el ≤ 0
                · rw [decide_eq_true ho]
                  exact h1.2 (fun h => by have := h.2 (by omega); omega)
                · rw [decide_eq_false ho]
                  apply eq_false_of_ne_true
                  rw [h1]
                  exact fun h => h ⟨rfl, fun _ => by omega⟩
              subst hbad2
              have i1 : (0 : Int) ≤ (k : Int) - 1 := by omega
              have i2 : (k : Int) - 1 < (tv.length : Int) := by omega
              have i3 : ((k : Int) - 1).toNat = k - 1 := by omega
              have i4 : IntKind.i64.wrap ((k : Int) - 1) = (k : Int) - 1 := IntWalk.i64_in _ (by omega)
              clear HBAD htt hpe hlow hlen hp
              generalize Mo.ord el0 el = oz at *
              go_quiet ((go_at_call 153; exact Calls.quiet_of (HO.out _ ⟨_, rfl⟩)))
              go_wp2_with fail
              go_meet
              exact ⟨rfl, ⟨_, rfl⟩⟩
        case rest =>
          obtain ⟨rfl, hdr⟩ := hcut
          have D1 := C1.keep hdr.below C1.lt
          have D7 := C7.keep hdr.below C7.lt
          have hownD := own_below hownW hdr.below (Nat.le_refl _)
          have hbD := below_all hbW hdr.below
          clear q0 q1 q2 q3 r0 r1 r2 r3 C1 C6 C7 hownW hbW hIW hdr HPV
          cases bad with
          | true =>
            obtain rfl : ok = false := by
              apply eq_false_of_ne_true
              rw [HOK.out]
              intro h
              refine HBAD.out.1 rfl ?_
              have := h.2.2 k (by simpa using hlt) (by simpa using hlt)
              rw [HPL.out] at this
              exact ⟨HTK.out.symm.trans this.1, this.2⟩
            go_wp2
            go_ret2
            exact ⟨none, 0, 0, rfl, hbD⟩
          | false =>
            have hgood : tk = true ∧ (0 < k → 0 < Mo.ord ((tv.map TV.pl).getD (k - 1) default).2 el) := by
              apply Classical.byContradiction
              intro h
              have := HBAD.out.2 h
              cases this
            have HW2 : Hid (wfTo v (tv.map TV.pl) (k + 1)) := Lib.hid (wfTo_succ HW.out (by simpa using hlt) (by rw [HPL.out, HTK.out]; exact hgood.1) (by rw [HPL.out]; exact hgood.2))
            clear hgood HBAD
            obtain ⟨⟨j0, j1, j2, j3, j4, j5, j6, j7, j8, j9⟩, k0, k1, k2, k3, k4, k5, k6, k7, k8, k9⟩ := D7.ten
            have HNW := Lib.hid (cells_new wc 211 [.int .i64 x0, .int .i64 x1, .int .i64 x2, .int .i64 x3, .int .i64 x4, .int .i64 x5, .bool x, .slice X m cx, .bool y, .slice Y n cy])
            go_wp2_with (at_builtin; refine wpList_append_own _ rfl _ _ 157 rfl (w.heap.size + 1) 211 i0 _ 10 112 Tryz.underlying157 hi hz0 hz1 hz2 rfl (by decide) u4 k xs rfl (hownD.alloc _) ⟨wc.heap.size, 0, none⟩ 1 1 [.int .i64 x0, .int .i64 x1, .int .i64 x2, .int .i64 x3, .int .i64 x4, .int .i64 x5, .bool x, .slice X m cx, .bool y, .slice Y n cy] rfl rfl HNW.out ?c2 ?c3 ?c4 ?c5 ?_
                         case c2 => simp [Value.oneCell']
                         case c3 => simp only [maxLen]; omega
                         case c4 => omega
                         case c5 => have := D1.lt; simp; omega
                         intro v' w3 hown' hgrow _)
            go_roundw
            case rel =>
              refine ⟨k + 1, _, by go_num, by omega, hown', ?_, ?_, HW2⟩
              · exact (D1.alloc _).grown hgrow (own_blk_ne hownD D1 (by decide))
              · exact (hbD.alloc hbD.size _).grown hgrow (by have := hbD.size; simp; omega) (fun j hj => by have := (hownD.lt j hj).1; omega)
            case measure => simp [intOf]; omega
      · obtain rfl : k = tv.length := by omega
        obtain rfl : ok = true := HOK.out.2 ⟨hv0, hv6, by rw [List.length_map]; exact HW.out⟩
        go_wp2
        go_ret2
        obtain ⟨R, rc, hR, _, _⟩ := Sl.of_own hown
        exact ⟨R, tv.length, rc, by rw [← hR]; rfl, hb⟩
  · have HF : Hid (ok = false) := Lib.hid (by
      apply eq_false_of_ne_true
      rw [HOK.out]
      exact fun h => hv ⟨h.1, h.2.1⟩)
    obtain rfl := HF.out
    by_cases hv0 : v < 0
    · have b1 : decide (v < 0) = true := by simpa using hv0
      go_enter Tryz.func121, Tryz.ntmps121
      go_wp2
      go_ret2
      exact ⟨none, 0, 0, rfl, (Below.refl _ _).alloc (Nat.le_refl _) _⟩
    · have b1 : decide (v < 0) = false := by simpa using hv0
      have b2 : decide ((6 : Int) < v) = true := by simp; omega
      go_enter Tryz.func121, Tryz.ntmps121
      go_wp2
      go_ret2
      exact ⟨none, 0, 0, rfl, (Below.refl _ _).alloc (Nat.le_refl _) _⟩
theorem pread_any (v : Int) (T : Option Addr) (cT : Nat) (tv : List TV) (ok : Bool) (w : World) (hA : TermsAt w T tv) (hn : tv.length ≤ 4096) (hs : ∀ t ∈ tv, t.coef.size ≤ 19 ∧ t.exps.length ≤ 64) (hok : ok = true ↔ VldP v (tv.map TV.pl)) (hT : Tab w) :
    Calls Tryz.prog 95 #[.agg #[.int .i64 v, .slice T tv.length cT]] w (RetPB ok w) := by
  have hbA : Below w.heap.size w (w.alloc (.cells #[.int .i64 v, .slice T tv.length cT] 71)) := (Below.refl _ _).alloc (Nat.le_refl _) _
  have d0 : decide ((4096 : Int) < (tv.length : Int)) = false := by simp; omega
  obtain ⟨wf, hwf⟩ : ∃ wf : Bool, wf = true ↔ wfP v (tv.map TV.pl) := by
    by_cases h : wfP v (tv.map TV.pl)
    · exact ⟨true, iff_of_true rfl h⟩
    · exact ⟨false, iff_of_false (by decide) h⟩
  have HWF := Lib.hid (rwf_any v T cT tv wf _ (hA.keep hbA) hn hs hwf (hT.below hbA hT.1))
  have HW := Lib.hid hwf
  have HOK := Lib.hid hok
  clear hwf hok
  cases wf with
  | false =>
    obtain rfl : ok = false := by
      apply eq_false_of_ne_true
      rw [HOK.out]
      intro h
      have := HW.out.2 h.2.1
      cases this
    go_enter Tryz.func95, Tryz.ntmps95
    go_wp2_with (go_at_call 121; refine HWF.out.mono ?_; rintro e w1 ⟨R, rn, rc, rfl, hb1⟩)
    go_ret2
    exact ⟨none, 0, 0, rfl, hbA.trans (hb1.mono (by simp))⟩
  | true =>
    by_cases h0 : 0 < tv.length
    · obtain ⟨vm, hvm⟩ : ∃ vm, vldM tv[0].exps = vm := ⟨_, rfl⟩
      obtain rfl : ok = vm := by
        have h1 := HOK.out
        have h2 := HW.out.1 rfl
        rw [Bool.eq_iff_iff, h1, ← hvm]
        constructor
        · intro h
          have := h.2.2 (by simpa using h0)
          simpa [TV.pl] using this
        · intro h
          refine ⟨by simpa using hn, h2, fun _ => ?_⟩
          simpa [TV.pl] using h
      have hl := (hs tv[0] (List.getElem_mem _)).2
      obtain ⟨ad, rfl, _, e1, hI⟩ := hA.at h0
      have HV : Hid (∀ W, Below w.heap.size w W → Calls Tryz.prog 122 #[.slice tv[0].adr tv[0].exps.length tv[0].cap] W fun e w' => e = .returned (.bool ok) ∧ W = w') := Lib.hid (fun W hW => by
        rw [← hvm]; exact valid_any _ _ _ W (hI.keep hW) (by omega))
      have e1 : w.cell? ⟨ad.block, ad.off + 1, none⟩ = some (.slice tv[0].adr tv[0].exps.length tv[0].cap) := by simpa [Addr.add] using e1
      have d1 : decide ((0 : Int) < (tv.length : Int)) = true := by simp; omega
      have d1' : decide (0 < tv.length) = true := by simp; omega
      clear hvm hI hA HW HOK
      generalize tv[0] = t0 at *
      obtain ⟨s0, A0, c0, el0⟩ := t0
      simp only at e1 HV
      cases ok
      all_goals
        go_enter Tryz.func95, Tryz.ntmps95
        go_wp2_with (first
          | (go_at_call 121; refine HWF.out.mono ?_; rintro e w1 ⟨R, rn, rc, rfl, hb1⟩
             have hbw : Below w.heap.size w w1 := hbA.trans (hb1.mono (by simp))
             have k0 := keep_cell hb1 (Blk.cell (Blk.new w 71 #[.int .i64 v, .slice (some ad) tv.length cT]) 0)
             have k1 := keep_cell hb1 (Blk.cell (Blk.new w 71 #[.int .i64 v, .slice (some ad) tv.length cT]) 1)
             have k2 := keep_cell hbw e1
             simp at k0 k1)
          | (go_at_call 122; refine (HV.out _ hbw).mono ?_; rintro e w' ⟨rfl, rfl⟩))
        go_ret2
        first
          | exact ⟨R, rn, rc, rfl, hbw⟩
          | exact ⟨none, 0, 0, rfl, hbw⟩
    · obtain rfl : tv = [] := List.eq_nil_of_length_eq_zero (by omega)
      obtain rfl : ok = true := HOK.out.2 ⟨by simp, HW.out.1 rfl, fun h => absurd h (by simp)⟩
      go_enter Tryz.func95, Tryz.ntmps95
      go_wp2_with (go_at_call 121; refine HWF.out.mono ?_; rintro e w1 ⟨R, rn, rc, rfl, hb1⟩
                   have k0 := keep_cell hb1 (Blk.cell (Blk.new w 71 #[.int .i64 v, .slice T (List.length ([] : List TV)) cT]) 0)
                   have k1 := keep_cell hb1 (Blk.cell (Blk.new w 71 #[.int .i64 v, .slice T (List.length ([] : List TV)) cT]) 1)
                   simp at k0 k1)
      go_ret2
      exact ⟨R, rn, rc, rfl, hbA.trans (hb1.mono (by simp))⟩
theorem pvalid_any (v : Int) (T : Option Addr) (cT : Nat) (tv : List TV) (ok : Bool) (w : World) (hA : TermsAt w T tv) (hn : tv.length ≤ 4096) (hs : ∀ t ∈ tv, t.coef.size ≤ 19 ∧ t.exps.length ≤ 64) (hok : ok = true ↔ VldP v (tv.map TV.pl)) (hT : Tab w) :
    Calls Tryz.prog 57 #[.agg #[.int .i64 v, .slice T tv.length cT]] w fun e w' => e = .returned (.bool ok) ∧ Below w.heap.size w w' := by
  have hbA : Below w.heap.size w (w.alloc (.cells #[.int .i64 v, .slice T tv.length cT] 71)) := (Below.refl _ _).alloc (Nat.le_refl _) _
  have HR := Lib.hid (pread_any v T cT tv ok _ (hA.keep hbA) hn hs hok (hT.below hbA hT.1))
  go_enter Tryz.func57, Tryz.ntmps57
  go_wp2_with (go_at_call 95; refine HR.out.mono ?_; rintro e w1 ⟨R, rn, rc, rfl, hb1⟩)
  go_ret
  exact ⟨rfl, hbA.trans (hb1.mono (by simp))⟩
end Go.Proofs.Tg
end
section
/- Walks: the sign symmetries of polynomials. -/
namespace Go.Proofs.Tg
open Go.RowKit Go.Gr Go.Ev Go.Mo Go.Qn
set_option maxHeartbeats 4000000
set_option maxRecDepth 100000
/-- Lists that a call has made: block G j holds list j. -/
structure Made (G : Nat → Nat) (k n : Nat) (ls : Nat → List Int) (w : World) : Prop where
  blk : ∀ j, j < k → Blk w (G j) 3 (iarr (ls j))
  len : ∀ j, j < k → (ls j).length = n
theorem Made.lists {G : Nat → Nat} {k n base c : Nat} {ls : Nat → List Int} {w : World} {A : Option Addr} (h : Made G k n ls w) (ho : w.ownsRow base 41 1 (.slice A k c) k ((List.range k).map fun j => .slice (some ⟨G j, 0, none⟩) n n)) :
    Lists w A ((List.range k).map ls) := by
  refine ⟨fun j => (some ⟨G j, 0, none⟩, n), ?_, fun i hi => ?_⟩
  · have := Sl.own ho
    have e : ((List.range ((List.range k).map ls).length).map fun i => Value.slice (some ⟨G i, 0, none⟩) (((List.range k).map ls).getD i []).length n) = (List.range k).map fun j => .slice (some ⟨G j, 0, none⟩) n n := by
      rw [List.length_map, List.length_range]
      refine List.map_congr_left fun i hi => ?_
      have hi := List.mem_range.1 hi
      simp [hi, h.len i hi]
    rw [show ((List.range k).map ls).length = k by simp] at e ⊢
    rw [e]
    exact this
  · have hi' : i < k := by simpa using hi
    have e : ((List.range k).map ls).getD i [] = ls i := by simp [hi']
    rw [e]
    have hB := h.blk i hi'
    refine ⟨by simp, fun _ => ⟨_, rfl, hB.lt, fun j u hu => ?_⟩⟩
    rw [add_lit, Nat.zero_add, hB.cell j]
    simpa [iarr] using hu
theorem VecAt.keep {W0 w w' : World} {base g cap : Nat} {us : List Nat} (h : VecAt W0 base g cap us w) (hb : Below w.heap.size w w') : VecAt W0 base g cap us w' :=
  ⟨own_below h.own hb (Nat.le_refl _), below_all h.below hb⟩
end Go.Proofs.Tg
end
section
/- The reference's polynomials in memory, and its Rows. -/
namespace Go.Proofs.Tg
open Go.RowKit Go.Gr Go.Ev Go.Mo
set_option maxHeartbeats 4000000
set_option maxRecDepth 100000
/-- A term of the reference: the coefficient's four cells, the exponents. -/
structure RT where
  c0 : Value
  c1 : Value
  c2 : Value
  c3 : Value
  adr : Option Addr
  cap : Nat
  exps : List Int
def RT.sl (t : RT) : Value := .slice t.adr t.exps.length t.cap
def RT.cells (t : RT) : List Value := [t.c0, t.c1, t.c2, t.c3, t.sl]
structure RTermsAt (w : World) (T : Option Addr) (ts : List RT) : Prop where
  sl : Sl w T ts.length 5 (ts.flatMap RT.cells)
  ints : ∀ t ∈ ts, Ints w t.adr t.exps
theorem RTermsAt.keep {w w' : World} {T : Option Addr} {ts : List RT} (h : RTermsAt w T ts) (hb : Below w.heap.size w w') : RTermsAt w' T ts :=
  ⟨h.sl.keep hb, fun t ht => (h.ints t ht).keep hb⟩
theorem off_four (a : Addr) (k : Nat) : (⟨(a.add k).block, (a.add k).off + 4, none⟩ : Addr) = a.add (k + 4) := by
  rw [← add_add]; simp [Addr.add]
theorem RTermsAt.at {w : World} {T : Option Addr} {ts : List RT} (h : RTermsAt w T ts) {k : Nat} (hk : k < ts.length) :
    ∃ ad, T = some ad ∧ w.cell? ⟨(ad.add (k * 5)).block, (ad.add (k * 5)).off + 4, none⟩ = some (.slice ts[k].adr ts[k].exps.length ts[k].cap) ∧ Ints w ts[k].adr ts[k].exps := by
  obtain ⟨ad, rfl, _, ha⟩ := h.sl.lies (by omega)
  refine ⟨ad, rfl, (congrArg w.cell? (off_four ad (k * 5))).trans (ha _ _ ?_), h.ints _ (List.getElem_mem _)⟩
  exact flat_get RT.cells 5 (fun _ => rfl) ts k 4 hk (by omega)
structure RP where
  vars : Int
  adr : Option Addr
  cap : Nat
  ts : List RT
def RP.cells (p : RP) : List Value := [.int .i64 p.vars, .slice p.adr p.ts.length p.cap]
structure RPolysAt (w : World) (L : Option Addr) (ps : List RP) : Prop where
  sl : Sl w L ps.length 2 (ps.flatMap RP.cells)
  tms : ∀ p ∈ ps, RTermsAt w p.adr p.ts
theorem RPolysAt.keep {w w' : World} {L : Option Addr} {ps : List RP} (h : RPolysAt w L ps) (hb : Below w.heap.size w w') : RPolysAt w' L ps :=
  ⟨h.sl.keep hb, fun p hp => (h.tms p hp).keep hb⟩
theorem RPolysAt.at {w : World} {L : Option Addr} {ps : List RP} (h : RPolysAt w L ps) {k : Nat} (hk : k < ps.length) :
    ∃ ad, L = some ad ∧ w.cell? (ad.add (k * 2)) = some (.int .i64 ps[k].vars) ∧ w.cell? ⟨(ad.add (k * 2)).block, (ad.add (k * 2)).off + 1, none⟩ = some (.slice ps[k].adr ps[k].ts.length ps[k].cap) ∧ RTermsAt w ps[k].adr ps[k].ts := by
  obtain ⟨ad, rfl, _, ha⟩ := h.sl.lies (by omega)
  refine ⟨ad, rfl, ha _ _ ?_, (congrArg w.cell? (off_one ad (k * 2))).trans (ha _ _ ?_), h.tms _ (List.getElem_mem _)⟩
  · have := flat_get RP.cells 2 (fun _ => rfl) ps k 0 hk (by omega)
    rw [Nat.add_zero] at this
    exact this
  · exact flat_get RP.cells 2 (fun _ => rfl) ps k 1 hk (by omega)
end Go.Proofs.Tg
end
section
/- Plain: merging sorted lists; the sort of terms by their monomials. -/
namespace Go.Rs
section
variable {α : Type} (le : α → α → Bool)
/-- Sort by halves. -/
def msrt : Nat → List α → List α
  | 0, l => l
  | n + 1, l => if l.length < 2 then l else List.merge (msrt n (l.take (l.length / 2))) (msrt n (l.drop (l.length / 2))) le
theorem msrt_short {n : Nat} {l : List α} (h : l.length < 2) : msrt le n l = l := by
  cases n with
  | zero => rfl
  | succ n => unfold msrt; rw [if_pos h]
theorem msrt_step {n : Nat} {l : List α} (h : ¬ l.length < 2) : msrt le (n + 1) l = List.merge (msrt le n (l.take (l.length / 2))) (msrt le n (l.drop (l.length / 2))) le := by
  rw [msrt, if_neg h]
theorem msrt_perm : ∀ (n : Nat) (l : List α), (msrt le n l).Perm l
  | 0, l => List.Perm.refl l
  | n + 1, l => by
    by_cases h : l.length < 2
    · rw [msrt_short le h]
    · rw [msrt_step le h]
      have h1 := msrt_perm n (l.take (l.length / 2))
      have h2 := msrt_perm n (l.drop (l.length / 2))
      refine (List.merge_perm_append le).trans ((h1.append h2).trans ?_)
      rw [List.take_append_drop]
theorem msrt_len (n : Nat) (l : List α) : (msrt le n l).length = l.length := (msrt_perm le n l).length_eq
theorem msrt_mem {n : Nat} {l : List α} {x : α} : x ∈ msrt le n l ↔ x ∈ l := (msrt_perm le n l).mem_iff
/-- What a merge does at one step. -/
theorem merge_left {a : α} {l : List α} {r : List α} (h : ∀ b l', r = b :: l' → le a b = true) : List.merge (a :: l) r le = a :: List.merge l r le := by
  cases r with
  | nil => simp
  | cons b l' => rw [List.cons_merge_cons, if_pos (h b l' rfl)]
theorem merge_right {b : α} {l : List α} {r : List α} (h : ∀ a l', l = a :: l' → le a b = false) : List.merge l (b :: r) le = b :: List.merge l r le := by
  cases l with
  | nil => simp
  | cons a l' => rw [List.cons_merge_cons, if_neg (by rw [h a l' rfl]; decide)]
end
end Go.Rs
end
section
/- Numbers in base 2^32, the least digit first: plain. -/
namespace Go.Bn
abbrev B : Nat := 4294967296
def val : List Nat → Nat
  | [] => 0
  | x :: xs => x + B * val xs
def Dig (xs : List Nat) : Prop := ∀ x ∈ xs, x < B
/-- No zeros at the end. -/
def Norm (xs : List Nat) : Prop := ∀ h : xs ≠ [], xs.getLast h ≠ 0
theorem val_app (xs ys : List Nat) : val (xs ++ ys) = val xs + B ^ xs.length * val ys := by
  induction xs with
  | nil => simp [val]
  | cons x xs ih =>
    simp only [List.cons_append, val, ih, List.length_cons, Nat.pow_succ]
    rw [Nat.mul_add, Nat.mul_comm (B ^ xs.length) B, Nat.mul_assoc]; omega
theorem val_lt {xs : List Nat} (h : Dig xs) : val xs < B ^ xs.length := by
  induction xs with
  | nil => simp [val]
  | cons x xs ih =>
    have h1 := h x (by simp)
    have h2 := ih (fun y hy => h y (by simp [hy]))
    simp only [val, List.length_cons, Nat.pow_succ]
    have : B * (val xs + 1) ≤ B * B ^ xs.length := Nat.mul_le_mul_left _ h2
    rw [Nat.mul_comm (B ^ xs.length) B]
    rw [Nat.mul_add] at this
    omega
theorem val_zeros (n : Nat) : val (List.replicate n 0) = 0 := by
  induction n with
  | zero => rfl
  | succ n ih => rw [List.replicate_succ]; simp [val, ih]
/-- The digits of a number. -/
def dg (n : Nat) : List Nat := if _h : n = 0 then [] else n % B :: dg (n / B)
termination_by n
decreasing_by exact Nat.div_lt_self (by omega) (by decide)
theorem dg_zero : dg 0 = [] := by unfold dg; rfl
theorem dg_pos {n : Nat} (h : n ≠ 0) : dg n = n % B :: dg (n / B) := by rw [dg]; simp [h]
theorem dg_small {n : Nat} (h : n ≠ 0) (hb : n < B) : dg n = [n] := by
  rw [dg_pos h, Nat.mod_eq_of_lt hb, Nat.div_eq_of_lt hb, dg_zero]
theorem val_dg (n : Nat) : val (dg n) = n := by
  induction n using Nat.strongRecOn with
  | _ n ih =>
    by_cases h : n = 0
    · subst h; rw [dg_zero]; rfl
    · rw [dg_pos h]
      simp only [val]
      rw [ih _ (Nat.div_lt_self (by omega) (by decide))]
      have := Nat.mod_add_div n B
      omega
theorem dg_dig (n : Nat) : Dig (dg n) := by
  induction n using Nat.strongRecOn with
  | _ n ih =>
    by_cases h : n = 0
    · subst h; rw [dg_zero]; intro x hx; cases hx
    · rw [dg_pos h]
      intro x hx
      rcases List.mem_cons.1 hx with rfl | hx
      · exact Nat.mod_lt _ (by decide)
      · exact ih _ (Nat.div_lt_self (by omega) (by decide)) x hx
theorem norm_cons {x : Nat} {xs : List Nat} (h : Norm (x :: xs)) : Norm xs := by
  intro hne
  have := h (by simp)
  rwa [List.getLast_cons hne] at this
theorem norm_pos {xs : List Nat} (h : Norm xs) (hv : val xs = 0) : xs = [] := by
  induction xs with
  | nil => rfl
  | cons x xs ih =>
    simp only [val] at hv
    have h1 : x = 0 := by omega
    have h2 : val xs = 0 := by
      have : B * val xs = 0 := by omega
      rcases Nat.mul_eq_zero.1 this with h | h
      · exact absurd h (by decide)
      · exact h
    have h3 := ih (norm_cons h) h2
    subst h3 h1
    exact absurd rfl (h (by simp))
/-- The digits are the only ones without zeros at the end. -/
theorem dg_val {xs : List Nat} (hd : Dig xs) (hn : Norm xs) : dg (val xs) = xs := by
  induction xs with
  | nil => exact dg_zero
  | cons x xs ih =>
    have hx := hd x (by simp)
    have ih := ih (fun y hy => hd y (by simp [hy])) (norm_cons hn)
    have hv : val (x :: xs) ≠ 0 := fun e => by have := norm_pos hn e; cases this
    rw [dg_pos hv]
    simp only [val] at hv ⊢
    rw [Nat.add_mul_mod_self_left, Nat.mod_eq_of_lt hx, Nat.add_mul_div_left _ _ (by decide), Nat.div_eq_of_lt hx, Nat.zero_add, ih]
/-- Zeros struck from the end. -/
theorem dg_append_zero (xs : List Nat) : val (xs ++ [0]) = val xs := by rw [val_app]; simp [val]
theorem dg_len_lt {n k : Nat} (h : n < B ^ k) : (dg n).length ≤ k := by
  induction k generalizing n with
  | zero => have : n = 0 := by simpa using h
            subst this; rw [dg_zero]; simp
  | succ k ih =>
    by_cases h0 : n = 0
    · subst h0; rw [dg_zero]; simp
    · rw [dg_pos h0, List.length_cons]
      have : n / B < B ^ k := by
        rw [Nat.pow_succ] at h
        exact Nat.div_lt_of_lt_mul (by rw [Nat.mul_comm]; exact h)
      have := ih this
      omega
end Go.Bn
end
section
/- The estimate of a digit of a quotient by the top three digits and the top two of the divisor: plain numbers. -/
namespace Go.Bn
/-- The two numbers by their tops. -/
structure Tops (u v top u2 v1 v2 P : Nat) : Prop where
  u_hi : (top * B + u2) * P ≤ u
  u_lo : u < (top * B + u2 + 1) * P
  v_hi : (v1 * B + v2) * P ≤ v
  v_lo : v < (v1 * B + v2 + 1) * P
  u2lt : u2 < B
  v2lt : v2 < B
  big : B ≤ 2 * v1
  v1lt : v1 < B
theorem Tops.two {u v top u2 v1 v2 P q : Nat} (h : Tops u v top u2 v1 v2 P) (hq : q * v ≤ u) : q * (v1 * B + v2) ≤ top * B + u2 := by
  have h1 : q * ((v1 * B + v2) * P) ≤ q * v := Nat.mul_le_mul_left _ h.v_hi
  have h2 : q * (v1 * B + v2) * P < (top * B + u2 + 1) * P := by
    rw [Nat.mul_assoc]; exact Nat.lt_of_le_of_lt (Nat.le_trans h1 hq) h.u_lo
  have := Nat.lt_of_mul_lt_mul_right h2
  omega
/-- The first estimate is not too small. -/
theorem Tops.first {u v top u2 v1 v2 P q : Nat} (h : Tops u v top u2 v1 v2 P) (hq : q * v ≤ u) : q ≤ top / v1 := by
  have h1 := h.two hq
  have hu := h.u2lt
  have hb := h.big
  rw [Nat.mul_add, ← Nat.mul_assoc] at h1
  have h2 : q * v1 * B < (top + 1) * B := by rw [Nat.add_mul]; omega
  have h3 := Nat.lt_of_mul_lt_mul_right h2
  rw [Nat.le_div_iff_mul_le (by simp only [B] at hb; omega)]
  omega
/-- An estimate that fails the test is too great. -/
theorem Tops.down {u v top u2 v1 v2 P q e r : Nat} (h : Tops u v top u2 v1 v2 P) (hq : q * v ≤ u) (he : e * v1 + r = top) (ht : r * B + u2 < e * v2) (hqe : q ≤ e) : q ≤ e - 1 := by
  rcases Nat.lt_or_ge q e with h1 | h1
  · omega
  · have : q = e := by omega
    subst this
    have h2 := h.two hq
    rw [Nat.mul_add, ← Nat.mul_assoc, ← he, Nat.add_mul] at h2
    omega
/-- The first estimate is at most the base and one. -/
theorem Tops.small {u v top u2 v1 v2 P : Nat} (h : Tops u v top u2 v1 v2 P) (hlt : u < v * B) : top / v1 ≤ B + 1 := by
  have hb := h.big
  have hv2 := h.v2lt
  have h1 : (top * B + u2) * P < (v1 * B + v2 + 1) * P * B := Nat.lt_of_le_of_lt h.u_hi (Nat.lt_of_lt_of_le hlt (Nat.mul_le_mul_right _ (Nat.le_of_lt h.v_lo)))
  have h2 : (top * B + u2) * P < ((v1 * B + v2 + 1) * B) * P := by rw [Nat.mul_right_comm]; exact h1
  have h3 := Nat.lt_of_mul_lt_mul_right h2
  have h4 : (v1 * B + v2 + 1) * B ≤ (v1 * B + B) * B := Nat.mul_le_mul_right _ (by omega)
  have h5 : top * B < (v1 * B + B) * B := Nat.lt_of_le_of_lt (Nat.le_add_right _ u2) (Nat.lt_of_lt_of_le h3 h4)
  have h6 : top < v1 * B + B := Nat.lt_of_mul_lt_mul_right h5
  have h7 : top < (B + 2) * v1 := by
    simp only [B] at h6 hb ⊢; omega
  have := (Nat.div_lt_iff_lt_mul (by simp only [B] at hb; omega)).2 h7
  omega
end Go.Bn
end
