/- Parts of the proof: WP2, SM4, WK2, WB1, WD1, WK3, SP5, SP6. -/
import Derived.Maps.OwnOps
import Derived.DeepKeys4
import Derived.Laws.ShiftsVarLaws
import Derived.Test.YtodapfjmgnekkaaGreatDoorMV0
import Derived.Test.YtodapfjmgnekkaaGreatDoorMV1
import Derived.Test.YtodapfjmgnekkaaGreatDoorMV2
import Derived.Test.YtodapfjmgnekkaaGreatDoorMV13
import Derived.Test.YtodapfjmgnekkaaGreatDoorMV15
section
/- Walks: a polynomial read. -/
namespace Go.Proofs.Tg
open Go.RowKit Go.Qn Go.Gr Go.Mo
set_option maxHeartbeats 4000000
set_option maxRecDepth 100000
theorem entry_info : (Tryz.prog.info? 179).map (fun i => (i.zero, i.size, i.bytes)) = some (some (.agg #[.int .i64 0, .int .i64 0, .int .i64 0, .int .i64 0, .int .i64 0, .int .i64 0, .bool false, .slice none 0 0, .bool false, .slice none 0 0]), 10, 112) := by kernel_rfl
theorem cells_new (w : World) (t : TypeId) (xs : List Value) : ∀ j u, xs[j]? = some u → (w.alloc (.cells xs.toArray t)).cell? ((⟨w.heap.size, 0, none⟩ : Addr).add j) = some u := by
  intro j u hu
  rw [add_lit, Nat.zero_add, Blk.cell (Blk.new w t xs.toArray) j]
  simpa using hu
/-- What a polynomial's reading returns: something, and whether it is well formed. -/
def RetPB (ok : Bool) (w : World) (e : Ending) (w' : World) : Prop := ∃ R rn rc, e = .returned (.tuple #[.slice R rn rc, .bool ok]) ∧ Below w.heap.size w w'
theorem rwf_any (v : Int) (T : Option Addr) (cT : Nat) (tv : List TV) (ok : Bool) (w : World) (hA : TermsAt w T tv) (hn : tv.length ≤ 4096) (hs : ∀ t ∈ tv, t.coef.size ≤ 19 ∧ t.exps.length ≤ 64) (hok : ok = true ↔ wfP v (tv.map TV.pl)) (hT : Tab w) :
    Calls Tryz.prog 115 #[.agg #[.int .i64 v, .slice T tv.length cT]] w (RetPB ok w) := by
  have HS := Lib.hid hs
  have HOK := Lib.hid hok
  clear hs hok
  obtain ⟨i0, hi, hz0, hz1, hz2⟩ := info_parts entry_info
  by_cases hv : 0 ≤ v ∧ v ≤ 6
  · obtain ⟨hv0, hv6⟩ := hv
    have b1 : decide (v < 0) = false := by simp; omega
    have b2 : decide ((6 : Int) < v) = false := by simp; omega
    have hbA : Below w.heap.size w (w.alloc (.cells #[.int .i64 v, .slice T tv.length cT] 24)) := (Below.refl _ _).alloc (Nat.le_refl _) _
    obtain ⟨wm, hrun, hown, hgrow⟩ := run_make_own (P := Tryz.prog) (w.alloc (.cells #[.int .i64 v, .slice T tv.length cT] 24)) (w.heap.size + 1) 142 179 i0 _ 10 Tryz.underlying142 hi hz0 hz1 .i64 .i64 tv.length (by rw [hz2]; omega) (by simp only [maxLen]; omega) (by simp)
    have B1 : Blk wm w.heap.size 24 #[.int .i64 v, .slice T tv.length cT] := (Blk.new w _ _).grown hgrow (by simp)
    have hbm : Below w.heap.size w wm := hbA.grown hgrow (by simp) (fun k hk => by cases hk)
    obtain ⟨q0, q1, q2, q3⟩ := B1.two
    have esz : (w.alloc (.cells #[.int .i64 v, .slice T tv.length cT] 24)).heap.size = w.heap.size + 1 := by simp
    rw [esz] at hrun hown
    clear esz
    go_enter Tryz.func115, Tryz.ntmps115
    go_wp2
    go_loopw [4, 24] (fun tm i wr => ∃ (k : Nat) (xs : List Value), i = .int .i64 k ∧ k ≤ tv.length ∧ wr.ownsRow (w.heap.size + 1) 179 10 tm k xs ∧ Blk wr w.heap.size 24 #[.int .i64 v, .slice T tv.length cT] ∧ Below w.heap.size w wr ∧ Hid (wfTo v (tv.map TV.pl) k)) (fun _ i _ => tv.length - (intOf i).toNat)
    case atStart => exact ⟨0, [], rfl, Nat.zero_le _, hown, B1, hbm, Lib.hid (wfTo_zero _ _)⟩
    case round =>
      clear hrun hown hgrow B1 hbm q0 q1 q2 q3 hbA
      obtain ⟨wo, rfl⟩ : ∃ wo : World, wo = wr := ⟨_, rfl⟩
      obtain ⟨k, xs, rfl, hk, hown, B1, hb, HW⟩ := hrel
      have hzo : w.heap.size < wo.heap.size := B1.lt
      by_cases hlt : k < tv.length
      · obtain ⟨ad, rfl, e0, e1, hI⟩ := (hA.keep hb).at hlt
        have hsz := HS.out tv[k] (List.getElem_mem _)
        have HPL : Hid ((tv.map TV.pl)[k]'(by simpa using hlt) = (tv[k].coef, tv[k].exps)) := Lib.hid (by simp [TV.pl])
        have hprev : 0 < k → ∃ A0 c0 el0, (∀ W, Below w.heap.size w W → W.cell? ⟨(ad.add ((k - 1) * 2)).block, (ad.add ((k - 1) * 2)).off + 1, none⟩ = some (.slice A0 (List.length el0) c0) ∧ Ints W A0 el0) ∧ ((tv.map TV.pl).getD (k - 1) default).2 = el0 ∧ low20 el0 = true ∧ (el0.length : Int) = v := by
          intro h0
          have hk1 : k - 1 < tv.length := by omega
          refine ⟨tv[k - 1].adr, tv[k - 1].cap, tv[k - 1].exps, fun W hW => ?_, by simp [hk1, TV.pl], ?_⟩
          · obtain ⟨ad', e', _, h2, h3⟩ := (hA.keep hW).at hk1
            injection e' with e'
            subst e'
            exact ⟨h2, h3⟩
          · have := (HW.out (k - 1) (by omega) (by simp; omega)).1
            rw [List.getElem_map, termOk_iff] at this
            exact ⟨this.2.2, this.2.1⟩
        have HPV := Lib.hid hprev
        clear hprev
        generalize tv[k] = t at *
        obtain ⟨s, Ae, ce, el⟩ := t
        simp only at e0 e1 hI hsz HPL
        have hadl : ad.block < wo.heap.size := by have := World.block_lt_of_cell? wo _ e0; rwa [add_block] at this
        obtain ⟨q0, q1, q2, q3⟩ := B1.two
        have hIa := Sl.alloc hI (.cells #[.string s, .slice Ae el.length ce] 69)
        have hba := hb.alloc hb.size (.cells #[.string s, .slice Ae el.length ce] 69)
        have HRT := Lib.hid (rterm_any v s Ae ce el _ hIa hsz.1 hsz.2 hv0 hv6 (hT.below hba hT.1))
        go_upto_region 8 with (go_at_call 128; refine HRT.out.mono ?_; rintro e w2 ⟨x0, x1, x2, x3, x4, x5, x, y, X, Y, m, n, cx, cy, rfl, hb2⟩)
        have hb2w : Below w.heap.size w w2 := hba.trans (hb2.mono hba.size)
        have C1 := ((B1.alloc (.cells #[.string s, .slice Ae el.length ce] 69)).keep hb2 (by simp; omega)).alloc (.cells #[.int .i64 x0, .int .i64 x1, .int .i64 x2, .int .i64 x3, .int .i64 x4, .int .i64 x5, .bool x, .slice X m cx, .bool y, .slice Y n cy] 179)
        have C6 := ((Blk.new wo 69 #[.string s, .slice Ae el.length ce]).keep hb2 (by simp)).alloc (.cells #[.int .i64 x0, .int .i64 x1, .int .i64 x2, .int .i64 x3, .int .i64 x4, .int .i64 x5, .bool x, .slice X m cx, .bool y, .slice Y n cy] 179)
        have C7 := Blk.new w2 179 #[.int .i64 x0, .int .i64 x1, .int .i64 x2, .int .i64 x3, .int .i64 x4, .int .i64 x5, .bool x, .slice X m cx, .bool y, .slice Y n cy]
        have hownW := (own_below (hown.alloc _) hb2 (Nat.le_refl _)).alloc (.cells #[.int .i64 x0, .int .i64 x1, .int .i64 x2, .int .i64 x3, .int .i64 x4, .int .i64 x5, .bool x, .slice X m cx, .bool y, .slice Y n cy] 179)
        have hbW := hb2w.alloc hb2w.size (.cells #[.int .i64 x0, .int .i64 x1, .int .i64 x2, .int .i64 x3, .int .i64 x4, .int .i64 x5, .bool x, .slice X m cx, .bool y, .slice Y n cy] 179)
        have hIW := Sl.alloc (Sl.keep hIa hb2) (.cells #[.int .i64 x0, .int .i64 x1, .int .i64 x2, .int .i64 x3, .int .i64 x4, .int .i64 x5, .bool x, .slice X m cx, .bool y, .slice Y n cy] 179)
        generalize w2.alloc (.cells #[.int .i64 x0, .int .i64 x1, .int .i64 x2, .int .i64 x3, .int .i64 x4, .int .i64 x5, .bool x, .slice X m cx, .bool y, .slice Y n cy] 179) = W at *
        clear q0 q1 q2 q3 hb2 hba hb2w HRT hIa e0 e1 hI B1 hown hb
        obtain ⟨q0, q1, q2, q3⟩ := C1.two
        obtain ⟨r0, r1, r2, r3⟩ := C6.two
        obtain ⟨tk, htk⟩ : ∃ tk, termOk v (s, el) = tk := ⟨_, rfl⟩
        have HTK := Lib.hid htk
        obtain ⟨bad, hbad⟩ : ∃ bad : Bool, bad = true ↔ ¬ (tk = true ∧ (0 < k → 0 < Mo.ord ((tv.map TV.pl).getD (k - 1) default).2 el)) := ⟨decide (¬ (tk = true ∧ (0 < k → 0 < Mo.ord ((tv.map TV.pl).getD (k - 1) default).2 el))), decide_eq_true_iff⟩
        have HBAD := Lib.hid hbad
        rw [htk]
        clear htk hbad
        go_cut [54] (fun s54 wx => s54 = .bool bad ∧ Dr W wx)
        case first =>
          cases tk with
          | false =>
            obtain rfl : bad = true := HBAD.out.2 (fun h => by cases h.1)
            go_quiet (fail)
            go_wp2_with fail
            go_meet
            exact ⟨rfl, ⟨_, rfl⟩⟩
          | true =>
            by_cases hk0 : k = 0
            · subst hk0
              obtain rfl : bad = false := by
                apply eq_false_of_ne_true
                rw [HBAD.out]
                exact fun h => h ⟨rfl, fun h => absurd h (by omega)⟩
              have hd0 : decide ((0 : Int) < ((0 : Nat) : Int)) = false := by decide
              go_quiet (fail)
              go_wp2_with fail
              go_meet
              exact ⟨rfl, ⟨_, rfl⟩⟩
            · obtain ⟨A0, c0, el0, hp, hpe, hlow, hlen⟩ := HPV.out (by omega)
              obtain ⟨p1, p2⟩ := hp W hbW
              have htt := termOk_iff.1 HTK.out
              have hdk : decide ((0 : Int) < (k : Int)) = true := by simp; omega
              have hdk' : decide (0 < k) = true := by simp; omega
              have HO : Hid (∀ W', Dr W W' → Calls Tryz.prog 129 #[.slice A0 el0.length c0, .slice Ae el.length ce] W' fun e w' => e = .returned (.int .i64 (Mo.ord el0 el)) ∧ ∃ m, w' = W'.drewN m) := Lib.hid (fun W' hd => order_any A0 Ae c0 ce el0 el W' (p2.keep hd.below) (hIW.keep hd.below) (by have := htt.2.1; simp only at this; omega) (by have := htt.2.1; omega) hlow htt.2.2)
              have hbad2 : bad = decide (Mo.ord el0 el ≤ 0) := by
                have h1 := HBAD.out
                rw [hpe] at h1
                by_cases ho : Mo.ord el0 el ≤ 0
                · rw [decide_eq_true ho]
                  exact h1.2 (fun h => by have := h.2 (by omega); omega)
                · rw [decide_eq_false ho]
                  apply eq_false_of_ne_true
                  rw [h1]
                  exact fun h => h ⟨rfl, fun _ => by omega⟩
              subst hbad2
              have i1 : (0 : Int) ≤ (k : Int) - 1 := by omega
              have i2 : (k : Int) - 1 < (tv.length : Int) := by omega
              have i3 : ((k : Int) - 1).toNat = k - 1 := by omega
              have i4 : IntKind.i64.wrap ((k : Int) - 1) = (k : Int) - 1 := IntWalk.i64_in _ (by omega)
              clear HBAD htt hpe hlow hlen hp
              generalize Mo.ord el0 el = oz at *
              go_quiet ((go_at_call 129; exact Calls.quiet_of (HO.out _ ⟨_, rfl⟩)))
              go_wp2_with fail
              go_meet
              exact ⟨rfl, ⟨_, rfl⟩⟩
        case rest =>
          obtain ⟨rfl, hdr⟩ := hcut
          have D1 := C1.keep hdr.below C1.lt
          have D7 := C7.keep hdr.below C7.lt
          have hownD := own_below hownW hdr.below (Nat.le_refl _)
          have hbD := below_all hbW hdr.below
          clear q0 q1 q2 q3 r0 r1 r2 r3 C1 C6 C7 hownW hbW hIW hdr HPV
          cases bad with
          | true =>
            obtain rfl : ok = false := by
              apply eq_false_of_ne_true
              rw [HOK.out]
              intro h
              refine HBAD.out.1 rfl ?_
              have := h.2.2 k (by simpa using hlt) (by simpa using hlt)
              rw [HPL.out] at this
              exact ⟨HTK.out.symm.trans this.1, this.2⟩
            go_wp2
            go_ret2
            exact ⟨none, 0, 0, rfl, hbD⟩
          | false =>
            have hgood : tk = true ∧ (0 < k → 0 < Mo.ord ((tv.map TV.pl).getD (k - 1) default).2 el) := by
              apply Classical.byContradiction
              intro h
              have := HBAD.out.2 h
              cases this
            have HW2 : Hid (wfTo v (tv.map TV.pl) (k + 1)) := Lib.hid (wfTo_succ HW.out (by simpa using hlt) (by rw [HPL.out, HTK.out]; exact hgood.1) (by rw [HPL.out]; exact hgood.2))
            clear hgood HBAD
            obtain ⟨⟨j0, j1, j2, j3, j4, j5, j6, j7, j8, j9⟩, k0, k1, k2, k3, k4, k5, k6, k7, k8, k9⟩ := D7.ten
            have HNW := Lib.hid (cells_new wc 179 [.int .i64 x0, .int .i64 x1, .int .i64 x2, .int .i64 x3, .int .i64 x4, .int .i64 x5, .bool x, .slice X m cx, .bool y, .slice Y n cy])
            go_wp2_with (at_builtin; refine wpList_append_own _ rfl _ _ 142 rfl (w.heap.size + 1) 179 i0 _ 10 112 Tryz.underlying142 hi hz0 hz1 hz2 rfl (by decide) u4 k xs rfl (hownD.alloc _) ⟨wc.heap.size, 0, none⟩ 1 1 [.int .i64 x0, .int .i64 x1, .int .i64 x2, .int .i64 x3, .int .i64 x4, .int .i64 x5, .bool x, .slice X m cx, .bool y, .slice Y n cy] rfl rfl HNW.out ?c2 ?c3 ?c4 ?c5 ?_
                         case c2 => simp [Value.oneCell']
                         case c3 => simp only [maxLen]; omega
                         case c4 => omega
                         case c5 => have := D1.lt; simp; omega
                         intro v' w3 hown' hgrow _)
            go_roundw
            case rel =>
              refine ⟨k + 1, _, by go_num, by omega, hown', ?_, ?_, HW2⟩
              · exact (D1.alloc _).grown hgrow (own_blk_ne hownD D1 (by decide))
              · exact (hbD.alloc hbD.size _).grown hgrow (by have := hbD.size; simp; omega) (fun j hj => by have := (hownD.lt j hj).1; omega)
            case measure => simp [intOf]; omega
      · obtain rfl : k = tv.length := by omega
        obtain rfl : ok = true := HOK.out.2 ⟨hv0, hv6, by rw [List.length_map]; exact HW.out⟩
        go_wp2
        go_ret2
        obtain ⟨R, rc, hR, _, _⟩ := Sl.of_own hown
        exact ⟨R, tv.length, rc, by rw [← hR]; rfl, hb⟩
  · have HF : Hid (ok = false) := Lib.hid (by
      apply eq_false_of_ne_true
      rw [HOK.out]
      exact fun h => hv ⟨h.1, h.2.1⟩)
    obtain rfl := HF.out
    by_cases hv0 : v < 0
    · have b1 : decide (v < 0) = true := by simpa using hv0
      go_enter Tryz.func115, Tryz.ntmps115
      go_wp2
      go_ret2
      exact ⟨none, 0, 0, rfl, (Below.refl _ _).alloc (Nat.le_refl _) _⟩
    · have b1 : decide (v < 0) = false := by simpa using hv0
      have b2 : decide ((6 : Int) < v) = true := by simp; omega
      go_enter Tryz.func115, Tryz.ntmps115
      go_wp2
      go_ret2
      exact ⟨none, 0, 0, rfl, (Below.refl _ _).alloc (Nat.le_refl _) _⟩
theorem pread_any (v : Int) (T : Option Addr) (cT : Nat) (tv : List TV) (ok : Bool) (w : World) (hA : TermsAt w T tv) (hn : tv.length ≤ 4096) (hs : ∀ t ∈ tv, t.coef.size ≤ 19 ∧ t.exps.length ≤ 64) (hok : ok = true ↔ VldP v (tv.map TV.pl)) (hT : Tab w) :
    Calls Tryz.prog 87 #[.agg #[.int .i64 v, .slice T tv.length cT]] w (RetPB ok w) := by
  have hbA : Below w.heap.size w (w.alloc (.cells #[.int .i64 v, .slice T tv.length cT] 24)) := (Below.refl _ _).alloc (Nat.le_refl _) _
  have d0 : decide ((4096 : Int) < (tv.length : Int)) = false := by simp; omega
  obtain ⟨wf, hwf⟩ : ∃ wf : Bool, wf = true ↔ wfP v (tv.map TV.pl) := by
    by_cases h : wfP v (tv.map TV.pl)
    · exact ⟨true, iff_of_true rfl h⟩
    · exact ⟨false, iff_of_false (by decide) h⟩
  have HWF := Lib.hid (rwf_any v T cT tv wf _ (hA.keep hbA) hn hs hwf (hT.below hbA hT.1))
  have HW := Lib.hid hwf
  have HOK := Lib.hid hok
  clear hwf hok
  cases wf with
  | false =>
    obtain rfl : ok = false := by
      apply eq_false_of_ne_true
      rw [HOK.out]
      intro h
      have := HW.out.2 h.2.1
      cases this
    go_enter Tryz.func87, Tryz.ntmps87
    go_wp2_with (go_at_call 115; refine HWF.out.mono ?_; rintro e w1 ⟨R, rn, rc, rfl, hb1⟩)
    go_ret2
    exact ⟨none, 0, 0, rfl, hbA.trans (hb1.mono (by simp))⟩
  | true =>
    by_cases h0 : 0 < tv.length
    · obtain ⟨vm, hvm⟩ : ∃ vm, vldM tv[0].exps = vm := ⟨_, rfl⟩
      obtain rfl : ok = vm := by
        have h1 := HOK.out
        have h2 := HW.out.1 rfl
        rw [Bool.eq_iff_iff, h1, ← hvm]
        constructor
        · intro h
          have := h.2.2 (by simpa using h0)
          simpa [TV.pl] using this
        · intro h
          refine ⟨by simpa using hn, h2, fun _ => ?_⟩
          simpa [TV.pl] using h
      have hl := (hs tv[0] (List.getElem_mem _)).2
      obtain ⟨ad, rfl, _, e1, hI⟩ := hA.at h0
      have HV : Hid (∀ W, Below w.heap.size w W → Calls Tryz.prog 66 #[.slice tv[0].adr tv[0].exps.length tv[0].cap] W fun e w' => e = .returned (.bool ok) ∧ W = w') := Lib.hid (fun W hW => by
        rw [← hvm]; exact valid_any _ _ _ W (hI.keep hW) (by omega))
      have e1 : w.cell? ⟨ad.block, ad.off + 1, none⟩ = some (.slice tv[0].adr tv[0].exps.length tv[0].cap) := by simpa [Addr.add] using e1
      have d1 : decide ((0 : Int) < (tv.length : Int)) = true := by simp; omega
      have d1' : decide (0 < tv.length) = true := by simp; omega
      clear hvm hI hA HW HOK
      generalize tv[0] = t0 at *
      obtain ⟨s0, A0, c0, el0⟩ := t0
      simp only at e1 HV
      cases ok
      all_goals
        go_enter Tryz.func87, Tryz.ntmps87
        go_wp2_with (first
          | (go_at_call 115; refine HWF.out.mono ?_; rintro e w1 ⟨R, rn, rc, rfl, hb1⟩
             have hbw : Below w.heap.size w w1 := hbA.trans (hb1.mono (by simp))
             have k0 := keep_cell hb1 (Blk.cell (Blk.new w 24 #[.int .i64 v, .slice (some ad) tv.length cT]) 0)
             have k1 := keep_cell hb1 (Blk.cell (Blk.new w 24 #[.int .i64 v, .slice (some ad) tv.length cT]) 1)
             have k2 := keep_cell hbw e1
             simp at k0 k1)
          | (go_at_call 66; refine (HV.out _ hbw).mono ?_; rintro e w' ⟨rfl, rfl⟩))
        go_ret2
        first
          | exact ⟨R, rn, rc, rfl, hbw⟩
          | exact ⟨none, 0, 0, rfl, hbw⟩
    · obtain rfl : tv = [] := List.eq_nil_of_length_eq_zero (by omega)
      obtain rfl : ok = true := HOK.out.2 ⟨by simp, HW.out.1 rfl, fun h => absurd h (by simp)⟩
      go_enter Tryz.func87, Tryz.ntmps87
      go_wp2_with (go_at_call 115; refine HWF.out.mono ?_; rintro e w1 ⟨R, rn, rc, rfl, hb1⟩
                   have k0 := keep_cell hb1 (Blk.cell (Blk.new w 24 #[.int .i64 v, .slice T (List.length ([] : List TV)) cT]) 0)
                   have k1 := keep_cell hb1 (Blk.cell (Blk.new w 24 #[.int .i64 v, .slice T (List.length ([] : List TV)) cT]) 1)
                   simp at k0 k1)
      go_ret2
      exact ⟨R, rn, rc, rfl, hbA.trans (hb1.mono (by simp))⟩
theorem pvalid_any (v : Int) (T : Option Addr) (cT : Nat) (tv : List TV) (ok : Bool) (w : World) (hA : TermsAt w T tv) (hn : tv.length ≤ 4096) (hs : ∀ t ∈ tv, t.coef.size ≤ 19 ∧ t.exps.length ≤ 64) (hok : ok = true ↔ VldP v (tv.map TV.pl)) (hT : Tab w) :
    Calls Tryz.prog 54 #[.agg #[.int .i64 v, .slice T tv.length cT]] w fun e w' => e = .returned (.bool ok) ∧ Below w.heap.size w w' := by
  have hbA : Below w.heap.size w (w.alloc (.cells #[.int .i64 v, .slice T tv.length cT] 24)) := (Below.refl _ _).alloc (Nat.le_refl _) _
  have HR := Lib.hid (pread_any v T cT tv ok _ (hA.keep hbA) hn hs hok (hT.below hbA hT.1))
  go_enter Tryz.func54, Tryz.ntmps54
  go_wp2_with (go_at_call 87; refine HR.out.mono ?_; rintro e w1 ⟨R, rn, rc, rfl, hb1⟩)
  go_ret
  exact ⟨rfl, hbA.trans (hb1.mono (by simp))⟩
end Go.Proofs.Tg
end
section
/- What stays where a map's block alone has turned. -/
namespace Go.Proofs.Tg
open Go.RowKit Go.Maps
/-- Block b is a map's. -/
def MapB (w : World) (b : Nat) : Prop := ∃ es clock, w.heap[b]? = some (.map es clock)
theorem mapB_own {w : World} {P : Program} {k : TypeId} {R : Value → Option (DataW Unit × List MemPlace)} {b n : Nat} {D : DataW Unit} (h : w.ownsMap P k R b n D) : MapB w b := by
  obtain ⟨es, clock, hb, _⟩ := h
  exact ⟨es, clock, hb⟩
theorem MapB.lt {w : World} {b : Nat} (h : MapB w b) : b < w.heap.size := by
  obtain ⟨es, clock, hb⟩ := h
  exact (Array.getElem?_eq_some_iff.1 hb).1
theorem cell_map {w : World} {b : Nat} (h : MapB w b) {p : Addr} (hp : p.block = b) : w.cell? p = none := by
  obtain ⟨es, clock, hb⟩ := h
  unfold World.cell?
  rw [hp, hb]
theorem cell_turn {w w' : World} {b : Nat} (hm : MapB w b) (hg : w.grownBy w' (some b)) {p : Addr} {v : Value} (h : w.cell? p = some v) : w'.cell? p = some v := by
  have hne : p.block ≠ b := fun e => by rw [cell_map hm e] at h; cases h
  have hl := World.block_lt_of_cell? w p h
  have := hg.block p.block hl (by simp; exact hne)
  unfold World.cell? at h ⊢
  rw [this]
  exact h
theorem Sl.turn {w w' : World} {b : Nat} {A : Option Addr} {n sz : Nat} {xs : List Value} (h : Sl w A n sz xs) (hm : MapB w b) (hg : w.grownBy w' (some b)) : Sl w' A n sz xs :=
  ⟨h.len, fun hn => by
    obtain ⟨ad, e, hl, ha⟩ := h.lies hn
    exact ⟨ad, e, Nat.lt_of_lt_of_le hl hg.size, fun j u hu => cell_turn hm hg (ha j u hu)⟩⟩
theorem Lists.turn {w w' : World} {b : Nat} {V : Option Addr} {ls : List (List Int)} (h : Lists w V ls) (hm : MapB w b) (hg : w.grownBy w' (some b)) : Lists w' V ls := by
  obtain ⟨f, hs, hr⟩ := h
  exact ⟨f, hs.turn hm hg, fun i hi => (hr i hi).turn hm hg⟩
theorem TermsAt.turn {w w' : World} {b : Nat} {T : Option Addr} {tv : List TV} (h : TermsAt w T tv) (hm : MapB w b) (hg : w.grownBy w' (some b)) : TermsAt w' T tv :=
  ⟨h.sl.turn hm hg, fun t ht => (h.ints t ht).turn hm hg⟩
theorem Blk.turn {w w' : World} {b g : Nat} {t : TypeId} {cs : Array Value} (h : Blk w g t cs) (hm : MapB w b) (hg : w.grownBy w' (some b)) : Blk w' g t cs := by
  refine (hg.block g h.lt ?_).trans h
  intro e
  obtain ⟨es, clock, hb⟩ := hm
  have : g = b := by simpa using e
  subst this
  unfold Blk at h
  rw [hb] at h
  cases h
theorem MapB.turn {w' : World} {b : Nat} {P : Program} {k : TypeId} {R : Value → Option (DataW Unit × List MemPlace)} {n : Nat} {D : DataW Unit} (h : w'.ownsMap P k R b n D) : MapB w' b := mapB_own h
end Go.Proofs.Tg
end
section
/- The program's maps from keys to bools, as sets of monomials. -/
namespace Go.Proofs.Tg
open Go.RowKit Go.Gr Go.Sp Go.Ev Go.Maps Go.WideShapes
set_option maxHeartbeats 4000000
set_option maxRecDepth 100000
theorem laidOutK : laidOutB Tryz.prog = true := by kernel_rfl
theorem keyLaw : Keyed Tryz.prog 105 :=
  Keyed.of_law (deep_law_laid laidOutK (m := 6) (by decide) (of_decide_eq_true (by kernel_rfl)) (by kernel_rfl) (by kernel_rfl))
theorem key_read {n : Nat} {el : List Int} (h : domK n 48 el) : keyOf Tryz.prog 105 (keyV el) = some (kl6 (kv el)) :=
  keyOf_six (I := 3) (s := Tryz.prog.types.size - 1) Tryz.underlying105 Tryz.underlying3 (by kernel_rfl) (by kernel_rfl) (by kernel_rfl) (by kernel_rfl) (kv el) (kv_len el) (kv_dom h)
theorem zeroB (w : World) : (zeroValue 4).run Tryz.prog w = .ok (.bool false) w := by kernel_rfl
/-- Block mb is a map that holds true at just the monomials of S, among those in n variables. -/
def SetM (w : World) (mb cnt n : Nat) (S : List (List Int)) : Prop :=
  ∃ D : DataW Unit, w.ownsMap Tryz.prog 105 (plainElem Tryz.prog 4) mb cnt D ∧ SetOK (fun v => kl6 (kv v)) (domK n 48) S D
theorem SetM.mapB {w : World} {mb cnt n : Nat} {S : List (List Int)} (h : SetM w mb cnt n S) : MapB w mb := by
  obtain ⟨D, h, _⟩ := h
  exact mapB_own h
theorem SetM.made (w : World) (n : Nat) : SetM (w.alloc (.map #[] 0)) w.heap.size 0 n [] := ⟨_, World.ownsMap_made _ _ _ _, SetOK.nil _ _⟩
theorem SetM.below {w w' : World} {B mb cnt n : Nat} {S : List (List Int)} (h : SetM w mb cnt n S) (hb : Below B w w') (hB : mb < B) : SetM w' mb cnt n S := by
  obtain ⟨D, ⟨es, clock, hh, r⟩, h2⟩ := h
  exact ⟨D, ⟨es, clock, (hb.block mb hB).trans hh, r⟩, h2⟩
theorem SetM.drew {w : World} {mb cnt n : Nat} {S : List (List Int)} (h : SetM w mb cnt n S) : SetM w.drew mb cnt n S := h
theorem SetM.congr {w : World} {mb cnt n : Nat} {S S' : List (List Int)} (h : SetM w mb cnt n S) (hs : ∀ v, v ∈ S ↔ v ∈ S') : SetM w mb cnt n S' := by
  obtain ⟨D, h1, h2⟩ := h
  exact ⟨D, h1, h2.congr (fun v _ => hs v)⟩
theorem SetM.mono {w : World} {mb cnt cnt' n : Nat} {S : List (List Int)} (h : SetM w mb cnt n S) (hc : cnt ≤ cnt') : SetM w mb cnt' n S := by
  obtain ⟨D, h1, h2⟩ := h
  exact ⟨D, h1.mono hc, h2⟩
theorem SetM.look {w : World} {mb cnt n : Nat} {S : List (List Int)} (h : SetM w mb cnt n S) {v : List Int} (hv : domK n 48 v) {c : Bool} (hc : decide (v ∈ S) = c) :
    (Instr.lookup 118 (.map (some mb)) (keyV v) false).run Tryz.prog w = .ok (.bool c) w := by
  obtain ⟨D, h1, h2⟩ := h
  obtain ⟨v', ps, hrun, hv2⟩ := h1.lookup keyLaw Tryz.underlying118 (zeroB w) (plainElem_bool Tryz.underlying4 false) (key_read hv)
  obtain ⟨c', rfl, e⟩ := plainElem_bool_inv Tryz.underlying4 hv2
  rw [h2.at' v hv, (decide_eq_decide.2 Iff.rfl).trans hc] at e
  injection e with e _
  injection e with e
  injection e with e
  subst e
  exact hrun
theorem SetM.put {w : World} {mb cnt n : Nat} {S : List (List Int)} (h : SetM w mb cnt n S) (hn : n ≤ 6) (hcnt : cnt ≤ 1000000000) {v : List Int} (hv : domK n 48 v) :
    ∃ w', (Instr.mapUpdate 118 (.map (some mb)) (keyV v) (.bool true)).run Tryz.prog w = .ok () w' ∧ SetM w' mb (cnt + 1) n (v :: S) ∧ w.grownBy w' (some mb) := by
  obtain ⟨D, h1, h2⟩ := h
  obtain ⟨w', hrun, h3, h4⟩ := h1.update keyLaw Tryz.underlying118 (by simp only [maxLen]; omega) (key_read hv) (plainElem_bool Tryz.underlying4 true)
  exact ⟨w', hrun, ⟨_, h3, h2.put (fun _ _ => kl6_key _) (fun _ _ hu hv => klv_inj hn hu hv) hv⟩, h4⟩
end Go.Proofs.Tg
end
section
/- Walks: sign vectors as bits. -/
namespace Go.Proofs.Tg
open Go.RowKit Go.Gr
set_option maxHeartbeats 1000000
set_option maxRecDepth 100000
theorem i64_and_n (a b : Nat) (ha : a < 9223372036854775808) (hb : b < 9223372036854775808) : bits BinOp.and IntKind.i64 (a : Int) (b : Int) = ((a &&& b : Nat) : Int) := by
  have hx : a &&& b < 2 ^ 63 := Nat.and_lt_two_pow _ (by omega)
  show IntKind.i64.wrap ((BitVec.ofInt 64 (a : Int) &&& BitVec.ofInt 64 (b : Int)).toNat : Int) = _
  rw [BitVec.toNat_and, ofInt_u64 a (by omega), ofInt_u64 b (by omega), IntKind.wrap_i64]
  omega
theorem i64_xor_n (a b : Nat) (ha : a < 9223372036854775808) (hb : b < 9223372036854775808) : bits BinOp.xor IntKind.i64 (a : Int) (b : Int) = ((a ^^^ b : Nat) : Int) := by
  have hx : a ^^^ b < 2 ^ 63 := Nat.xor_lt_two_pow (by omega) (by omega)
  show IntKind.i64.wrap ((BitVec.ofInt 64 (a : Int) ^^^ BitVec.ofInt 64 (b : Int)).toNat : Int) = _
  rw [BitVec.toNat_xor, ofInt_u64 a (by omega), ofInt_u64 b (by omega), IntKind.wrap_i64]
  omega
theorem pow_62 {k : Nat} (hk : k < 62) : 2 ^ k ≤ 2305843009213693952 := by
  have : 2 ^ k ≤ 2 ^ 61 := Nat.pow_le_pow_right (by omega) (by omega)
  exact Nat.le_trans this (by decide)
theorem wrap64_nat (n : Nat) (h : n < 9223372036854775808) : wrap64 (n : Int) = (n : Int) := by unfold wrap64; omega
theorem pack_step (q k : Nat) (x : Int) (hx : 0 ≤ x) (hx2 : x < 9223372036854775808) (hk : k < 62) (hq : q < 2 ^ k) :
    bits BinOp.xor IntKind.i64 (q : Int) (wrap64 (bits BinOp.and IntKind.i64 x 1 * 2 ^ k)) = ((q ^^^ ((x.toNat % 2) <<< k) : Nat) : Int) := by
  obtain ⟨X, rfl⟩ := Int.eq_ofNat_of_zero_le hx
  have hp := pow_62 hk
  have e1 : bits BinOp.and IntKind.i64 (X : Int) 1 = ((X % 2 : Nat) : Int) := by
    rw [show (1 : Int) = ((1 : Nat) : Int) from rfl, i64_and_n X 1 (by omega) (by omega), Nat.and_one_is_mod]
  have h2 : X % 2 * 2 ^ k ≤ 2 ^ k := by
    have : X % 2 ≤ 1 := by omega
    calc X % 2 * 2 ^ k ≤ 1 * 2 ^ k := Nat.mul_le_mul_right _ this
      _ = 2 ^ k := Nat.one_mul _
  have e2 : ((X % 2 : Nat) : Int) * 2 ^ k = ((X % 2 * 2 ^ k : Nat) : Int) := by simp
  rw [e1, e2, wrap64_nat _ (by omega), i64_xor_n _ _ (by omega) (by omega), Int.toNat_natCast, Nat.shiftLeft_eq]
theorem int_info : (Tryz.prog.info? 3).map (fun i => (i.zero, i.size, i.bytes)) = some (some (.int .i64 0), 1, 8) := by kernel_rfl
theorem make_ints (l n : Nat) (hl : l ≤ n) (hn : n ≤ 1000000) (w : World) : (Instr.makeSlice 36 (.int .i64 (l : Int)) (.int .i64 (n : Int))).run Tryz.prog w = .ok (.slice (some ⟨w.heap.size, 0, none⟩) l n) (w.alloc (.cells (madeCells #[.int .i64 0] n) 3)) := by
  obtain ⟨i0, hi, hz0, hz1, hz2⟩ := info_parts int_info
  have hr := run_make (P := Tryz.prog) w 36 3 i0 (.int .i64 0) Tryz.underlying36 hi hz0 .i64 .i64 l n (by omega) (by omega) (by rw [hz2]; omega) (by omega)
  rw [hz1, Nat.mul_one, Int.toNat_natCast, Int.toNat_natCast] at hr
  exact hr
theorem shr_bit (x i : Nat) (hx : x < 9223372036854775808) : bits BinOp.and IntKind.i64 ((x : Int) / 2 ^ i) 1 = if x.testBit i = true then 1 else 0 := by
  have e : (x : Int) / 2 ^ i = ((x / 2 ^ i : Nat) : Int) := by simp
  have hl : x / 2 ^ i < 9223372036854775808 := Nat.lt_of_le_of_lt (Nat.div_le_self _ _) hx
  rw [e, show (1 : Int) = ((1 : Nat) : Int) from rfl, i64_and_n _ 1 hl (by omega), Nat.and_one_is_mod, Nat.testBit_eq_decide_div_mod_eq]
  by_cases h : x / 2 ^ i % 2 = 1
  · rw [h]; simp
  · have : x / 2 ^ i % 2 = 0 := by omega
    rw [this]; simp
/-- The value that a call returns is a new block of numbers. -/
def RetNew (l : List Int) (w : World) (e : Ending) (w' : World) : Prop :=
  e = .returned (.slice (some ⟨w.heap.size, 0, none⟩) l.length l.length) ∧ Blk w' w.heap.size 3 (iarr l) ∧ Below w.heap.size w w'
theorem unp_set (x n k : Nat) (hk : k < n) : (Ev.unp x k ++ List.replicate (n - k) 0).set k (if x.testBit k = true then 1 else 0) = Ev.unp x (k + 1) ++ List.replicate (n - (k + 1)) 0 := by
  obtain ⟨m, hm⟩ : ∃ m, n - k = m + 1 := ⟨n - k - 1, by omega⟩
  rw [hm, show n - (k + 1) = m by omega]
  have hl : (Ev.unp x k).length = k := Ev.unp_len x k
  have e : Ev.unp x (k + 1) = Ev.unp x k ++ [if x.testBit k = true then 1 else 0] := by
    unfold Ev.unp; rw [List.range_succ, List.map_append]; rfl
  rw [e, List.replicate_succ, List.set_append_right _ _ (by rw [hl]; exact Nat.le_refl _), hl, Nat.sub_self, List.set_cons_zero]; simp
def bit01 (l : List Int) : Bool := l.all fun x => x == 0 || x == 1
theorem bit01_iff {l : List Int} : bit01 l = true ↔ Ev.Bit01 l := by unfold bit01 Ev.Bit01; simp
theorem bit01_bad {l : List Int} {x : Int} (hx : x ∈ l) (h0 : ¬ x = 0) (h1 : ¬ x = 1) : bit01 l = false := by
  apply eq_false_of_ne_true
  rw [bit01_iff]
  exact fun h => (h x hx).elim h0 h1
end Go.Proofs.Tg
end
section
/- Walks: the check of sign vectors and monomials; characters. -/
namespace Go.Proofs.Tg
open Go.RowKit Go.Gr Go.Ev Go.Mo
set_option maxHeartbeats 2000000
set_option maxRecDepth 100000
theorem bit_same (l : List Int) : bit01 l = b01 l := rfl
theorem vld_lit (A : Option Addr) (c : Nat) (m : List Int) (w : World) (hA : Ints w A m) (hn : m.length ≤ 1000) (b : Bool) (hb : vldM m = b) :
    Calls Tryz.prog 66 #[.slice A m.length c] w fun e w' => e = .returned (.bool b) ∧ w = w' := by rw [← hb]; exact valid_any A c m w hA hn
theorem all_take {α : Type} {P : α → Prop} {l : List α} {k : Nat} (hk : k < l.length) (h : ∀ x ∈ l.take k, P x) (h1 : P l[k]) : ∀ x ∈ l.take (k + 1), P x := by
  rw [List.take_succ_eq_append_getElem hk]
  intro x hx
  rcases List.mem_append.1 hx with h2 | h2
  · exact h x h2
  · simp at h2; rw [h2]; exact h1
end Go.Proofs.Tg
end
section
/- The check of a polynomial and a basis. -/
namespace Go.Proofs.Tg
open Go.RowKit Go.Gr Go.Sp Go.Ev Go.Mo
set_option maxHeartbeats 4000000
set_option maxRecDepth 100000
theorem vvld_lit (A : Option Addr) (c : Nat) (m : List Int) (w : World) (hA : Ints w A m) (hn : m.length ≤ 1000) (b : Bool) (hb : vldM m = b) :
    Calls Tryz.prog 66 #[.slice A m.length c] w fun e w' => e = .returned (.bool b) ∧ w = w' := by rw [← hb]; exact valid_any A c m w hA hn
theorem take_mem_succ {α : Type} {l : List α} {k : Nat} (hk : k < l.length) (v : α) : v ∈ l[k] :: l.take k ↔ v ∈ l.take (k + 1) := by
  rw [List.take_succ_eq_append_getElem hk, List.mem_append, List.mem_singleton, List.mem_cons]
  exact Or.comm
theorem take_nodup_succ {α : Type} {l : List α} {k : Nat} (hk : k < l.length) (h : (l.take k).Nodup) (hn : l[k] ∉ l.take k) : (l.take (k + 1)).Nodup := by
  rw [List.take_succ_eq_append_getElem hk, List.nodup_append]
  refine ⟨h, by simp, fun a ha b hb => ?_⟩
  rw [List.mem_singleton.1 hb]
  rintro rfl
  exact hn ha
theorem not_nodup_take {α : Type} {l : List α} {k : Nat} (hk : k < l.length) (hn : l[k] ∈ l.take k) : ¬ l.Nodup := by
  intro h
  obtain ⟨i, hi, e⟩ := List.getElem_of_mem hn
  have hik : i < k := by rw [List.length_take] at hi; omega
  rw [List.getElem_take] at e
  have := (List.getElem_inj h).1 e
  omega
theorem scheck_any (p : PVal) (B : Option Addr) (cb : Nat) (b : List (List Int)) (ok : Bool) (w : World) (hP : TermsAt w p.adr p.tv) (hsm : p.small) (hB : Lists w B b) (hbl : b.length ≤ 64) (hml : ∀ m ∈ b, m.length ≤ 1000) (hok : ok = true ↔ p.ok) (hT : Tab w) :
    Calls Tryz.prog 36 #[.agg #[.int .i64 p.vars, .slice p.adr p.tv.length p.cap], .slice B b.length cb] w fun e w' => e = .returned (.int .i64 (errS ok p.vars b)) ∧ Below w.heap.size w w' := by
  obtain ⟨V, T, cT, tv⟩ := p
  simp only at *
  obtain ⟨W, hW⟩ : ∃ W, w.alloc (.cells #[.int .i64 V, .slice T tv.length cT] 24) = W := ⟨_, rfl⟩
  have hbA : Below w.heap.size w W := by rw [← hW]; exact (Below.refl _ _).alloc (Nat.le_refl _) _
  have B0 : Blk W w.heap.size 24 #[.int .i64 V, .slice T tv.length cT] := by rw [← hW]; exact Blk.new _ _ _
  have HPV := Lib.hid (pvalid_any V T cT tv ok W (hP.keep hbA) hsm.1 hsm.2 hok (hT.below hbA hT.1))
  have HOK := Lib.hid hok
  have HML := Lib.hid hml
  have hBW := hB.keep hbA
  have HWW := Lib.hid hW
  clear hok hml hW hB hP
  obtain ⟨c0, c1, _, _⟩ := B0.two
  go_enter Tryz.func36, Tryz.ntmps36
  go_upto_region 1 with (fail)
  rw [HWW.out]
  clear HWW
  cases ok with
  | false =>
    have HF : Hid (errS false V b = 1) := Lib.hid (errS_bad (.inl rfl))
    go_wp2_with (go_at_call 54; refine HPV.out.mono ?_; rintro e w1 ⟨rfl, hb1⟩)
    go_ret
    exact ⟨by rw [HF.out]; rfl, below_all hbA hb1⟩
  | true =>
    have hv := HOK.out.1 rfl
    obtain ⟨n, rfl⟩ : ∃ n : Nat, V = n := ⟨V.toNat, by have := hv.2.1.1; simp only at this; omega⟩
    have hn6 : n ≤ 6 := by have := hv.2.1.2.1; simp only at this; omega
    clear hv HOK
    go_wp2_with (go_at_call 54; refine HPV.out.mono ?_; rintro e w1 ⟨rfl, hb1⟩)
    have D0 := B0.keep hb1 B0.lt
    have hL := hBW.keep hb1
    have hbw := below_all hbA hb1
    have hgl := D0.lt
    clear c0 c1 B0 hBW hb1 hbA HPV
    obtain ⟨c0, c1, _, _⟩ := D0.two
    go_loop [17] (fun i => ∃ k : Nat, i = .int .i64 k ∧ k ≤ b.length ∧ Hid (∀ m ∈ b.take k, vldM m = true)) (fun i => b.length - (intOf i).toNat)
    case atStart => exact ⟨0, rfl, Nat.zero_le _, Lib.hid (by simp)⟩
    case round =>
      obtain ⟨k, rfl, hk, HG⟩ := hrel
      by_cases hlt : k < b.length
      · obtain ⟨ad, A, c, rfl, hc, hA⟩ := hL.at hlt
        have hml := HML.out b[k] (List.getElem_mem _)
        have HM : Hid (b[k] ∈ b) := Lib.hid (List.getElem_mem _)
        have HN : Hid (vldM b[k] = true → ∀ m ∈ b.take (k + 1), vldM m = true) := Lib.hid (all_take hlt HG.out)
        generalize b[k] = m at *
        by_cases hv : vldM m = true
        · have HV := Lib.hid (vvld_lit A c m w1 hA hml true hv)
          have HG2 := Lib.hid (HN.out hv)
          clear hv
          go_wp2_with (go_at_call 66; refine HV.out.mono ?_; rintro e w' ⟨rfl, rfl⟩)
          go_round
          case rel => exact ⟨k + 1, by go_num, by omega, HG2⟩
          case measure => simp [intOf]; omega
        · have hv : vldM m = false := eq_false_of_ne_true hv
          have HV := Lib.hid (vvld_lit A c m w1 hA hml false hv)
          have HF : Hid (errS true n b = 1) := Lib.hid (errS_bad (.inr ⟨m, HM.out, hv⟩))
          clear hv
          go_wp2_with (go_at_call 66; refine HV.out.mono ?_; rintro e w' ⟨rfl, rfl⟩)
          go_ret
          exact ⟨by rw [HF.out]; rfl, hbw⟩
      · have HAV : Hid (∀ m ∈ b, vldM m = true) := Lib.hid (by have := HG.out; rwa [List.take_of_length_le (by omega)] at this)
        clear HG
        go_wp2
        go_loop [27] (fun i => ∃ k : Nat, i = .int .i64 k ∧ k ≤ b.length ∧ Hid (∀ m ∈ b.take k, (m.length : Int) = n)) (fun i => b.length - (intOf i).toNat)
        case atStart => exact ⟨0, rfl, Nat.zero_le _, Lib.hid (by simp)⟩
        case round =>
          obtain ⟨k', rfl, hk', HG⟩ := hrel
          by_cases hlt' : k' < b.length
          · obtain ⟨ad, A, c, rfl, hc, hA⟩ := hL.at hlt'
            have HM : Hid (b[k'] ∈ b) := Lib.hid (List.getElem_mem _)
            have HN : Hid ((b[k'].length : Int) = n → ∀ m ∈ b.take (k' + 1), (m.length : Int) = n) := Lib.hid (all_take (P := fun m : List Int => (m.length : Int) = n) hlt' HG.out)
            generalize b[k'] = m at *
            by_cases hl : (m.length : Int) = n
            · have hb : ((m.length : Int) != (n : Int)) = false := by simp; omega
              have HG2 := Lib.hid (HN.out hl)
              have HL := Lib.hid hl
              clear hl
              go_wp2
              go_round
              case rel => exact ⟨k' + 1, by go_num, by omega, HG2⟩
              case measure => simp [intOf]; omega
            · have hb : ((m.length : Int) != (n : Int)) = true := by simp; omega
              have HF : Hid (errS true n b = 4) := Lib.hid (errS_shape HAV.out ⟨m, HM.out, hl⟩)
              clear hl
              go_wp2
              go_ret
              exact ⟨by rw [HF.out]; rfl, hbw⟩
          · have HAL : Hid (∀ m ∈ b, (m.length : Int) = n) := Lib.hid (by have := HG.out; rwa [List.take_of_length_le (by omega)] at this)
            have d64 : decide ((64 : Int) < (b.length : Int)) = false := by simp; omega
            have d64' : decide (64 < b.length) = false := by simp; omega
            have hmm := @run_makeMap Tryz.prog
            clear HG c0 c1 D0
            go_wp2
            go_loopw [43] (fun i wr => ∃ k : Nat, i = .int .i64 k ∧ k ≤ b.length ∧ SetM wr w1.heap.size k n (b.take k) ∧ Hid ((b.take k).Nodup) ∧ Below w.heap.size w wr ∧ Lists wr B b) (fun i _ => b.length - (intOf i).toNat)
            case atStart => exact ⟨0, rfl, Nat.zero_le _, SetM.made w1 n, Lib.hid (by simp), hbw.alloc hbw.size _, hL.keep ((Below.refl _ _).alloc (Nat.le_refl _) _)⟩
            case round =>
              obtain ⟨wo, rfl⟩ : ∃ wo : World, wo = wr := ⟨_, rfl⟩
              obtain ⟨j, rfl, hj, hS, HND, hbr, hLr⟩ := hrel
              by_cases hjl : j < b.length
              · obtain ⟨ad, A, c, rfl, hc, hA⟩ := hLr.at hjl
                have HM : Hid (b[j] ∈ b) := Lib.hid (List.getElem_mem _)
                have hdom : domK n 24 b[j] := by
                  have h1 := vld_dom (HAV.out b[j] (List.getElem_mem _))
                  have h2 := HAL.out b[j] (List.getElem_mem _)
                  rwa [show b[j].length = n by omega] at h1
                have HTM : Hid (∀ v, v ∈ b[j] :: b.take j ↔ v ∈ b.take (j + 1)) := Lib.hid (take_mem_succ hjl)
                have HTN : Hid (b[j] ∉ b.take j → (b.take (j + 1)).Nodup) := Lib.hid (take_nodup_succ hjl HND.out)
                have HTB : Hid (b[j] ∈ b.take j → errS true n b = 10) := Lib.hid (fun h => errS_dup HAV.out HAL.out hbl (not_nodup_take hjl h))
                have hLK : ∀ W, Below wo.heap.size wo W → Lists W (some ad) b := fun W h => hLr.keep h
                have HLK := Lib.hid hLK
                generalize b[j] = m at *
                have HKO : Hid (∀ W, Below wo.heap.size wo W → Calls Tryz.prog 56 #[.slice A m.length c] W fun e w' => e = .returned (keyV m) ∧ Below wo.heap.size wo w') := Lib.hid (fun W h => (keyOf_any A c m W (hA.keep h) (by rw [hdom.1]; exact hn6)).mono fun e w' h2 => ⟨h2.1, below_all h h2.2⟩)
                have hdom' : domK n 48 m := hdom.mono (by omega)
                have hml2 : w1.heap.size < wo.heap.size := hS.mapB.lt
                have hbo : Below wo.heap.size wo wo := Below.refl _ _
                clear hLr hLK hA
                by_cases hin : m ∈ b.take j
                · have HF := Lib.hid (HTB.out hin)
                  have hdec : decide (m ∈ b.take j) = true := decide_eq_true hin
                  clear hin
                  go_wp2_with (go_at_call 56; with_reducible refine Calls.mono (HKO.out _ (by assumption)) ?_; rintro e w2 ⟨rfl, hb2⟩; have hrun := (hS.below hb2 hml2).look hdom' hdec)
                  go_ret
                  exact ⟨by rw [HF.out]; rfl, hbr.trans (hb2.mono hbr.size)⟩
                · have HN2 := Lib.hid (HTN.out hin)
                  have hdec : decide (m ∈ b.take j) = false := decide_eq_false hin
                  clear hin
                  go_upto_region 23 with (go_at_call 56; with_reducible refine Calls.mono (HKO.out _ (by assumption)) ?_; rintro e w2 ⟨rfl, hb2⟩; have hrun := (hS.below hb2 hml2).look hdom' hdec)
                  clear hrun
                  go_wp2_with (go_at_call 56; with_reducible refine Calls.mono (HKO.out _ hb2) ?_; rintro e w3 ⟨rfl, hb3⟩; obtain ⟨w4, hrun, hS4, hg4⟩ := (hS.below hb3 hml2).put hn6 (by omega) hdom')
                  go_roundw
                  case rel =>
                    have hL3 := HLK.out _ hb3
                    have hm3 := (hS.below hb3 hml2).mapB
                    refine ⟨j + 1, by go_num, by omega, hS4.congr HTM.out, HN2, ?_, hL3.turn hm3 hg4⟩
                    exact (hbr.trans (hb3.mono hbr.size)).grown hg4 (by have := hbr.size; have := hb3.size; omega) (fun q hq => by injection hq with hq; have := hbw.size; omega)
                  case measure => simp [intOf]; omega
              · have HF : Hid (errS true n b = 0) := Lib.hid (errS_ok HAV.out HAL.out hbl (by have := HND.out; rwa [List.take_of_length_le (by omega)] at this))
                go_wp2
                go_ret
                exact ⟨by rw [HF.out]; rfl, hbr⟩
end Go.Proofs.Tg
end
section
/- The reference's table of a set of monomials: plain. -/
namespace Go.Sp
open Go.Gr Go.Ev Go.Jt
/-- Row i and the rows ahead of it, row i up to column k: who is joined. -/
def tP (b s : List (List Int)) (i k x y : Nat) : Bool := decide (min x y < max x y ∧ (max x y < i ∨ (max x y = i ∧ min x y < k)) ∧ addL (b.getD x []) (b.getD y []) ∈ s)
theorem tP_zero (b s : List (List Int)) : tP b s 0 0 = fun _ _ => false := by
  funext x y
  unfold tP
  exact decide_eq_false (fun h => by rcases h.2.1 with h | h <;> omega)
theorem tP_row (b s : List (List Int)) (i : Nat) : tP b s i i = tP b s (i + 1) 0 := by
  funext x y
  unfold tP
  rw [decide_eq_decide]
  constructor
  · rintro ⟨h1, h2, h3⟩; exact ⟨h1, .inl (by omega), h3⟩
  · rintro ⟨h1, h2, h3⟩; exact ⟨h1, by omega, h3⟩
theorem tP_no {b s : List (List Int)} {i k : Nat} (hk : k < i) (h : addL (b.getD i []) (b.getD k []) ∉ s) : tP b s i (k + 1) = tP b s i k := by
  funext x y
  unfold tP
  rw [decide_eq_decide]
  constructor
  · rintro ⟨h1, h2, h3⟩
    refine ⟨h1, ?_, h3⟩
    rcases h2 with h2 | ⟨h2, h4⟩
    · exact .inl h2
    · by_cases hm : min x y = k
      · exfalso
        have : (x = i ∧ y = k) ∨ (x = k ∧ y = i) := by omega
        rcases this with ⟨rfl, rfl⟩ | ⟨rfl, rfl⟩
        · exact h h3
        · rw [addL_comm] at h3; exact h h3
      · exact .inr ⟨h2, by omega⟩
  · rintro ⟨h1, h2, h3⟩; exact ⟨h1, by omega, h3⟩
theorem tP_yes {b s : List (List Int)} {i k : Nat} (hk : k < i) (h : addL (b.getD i []) (b.getD k []) ∈ s) : tP b s i (k + 1) = setT (setT (tP b s i k) i k) k i := by
  funext x y
  unfold setT
  by_cases h1 : x = k ∧ y = i
  · rw [if_pos h1]
    obtain ⟨rfl, rfl⟩ := h1
    unfold tP
    exact decide_eq_true ⟨by omega, .inr ⟨by omega, by omega⟩, by rw [addL_comm]; exact h⟩
  · rw [if_neg h1]
    by_cases h2 : x = i ∧ y = k
    · rw [if_pos h2]
      obtain ⟨rfl, rfl⟩ := h2
      unfold tP
      exact decide_eq_true ⟨by omega, .inr ⟨by omega, by omega⟩, h⟩
    · rw [if_neg h2]
      unfold tP
      rw [decide_eq_decide]
      constructor
      · rintro ⟨h3, h4, h5⟩; exact ⟨h3, by omega, h5⟩
      · rintro ⟨h3, h4, h5⟩; exact ⟨h3, by omega, h5⟩
theorem tP_full {b s : List (List Int)} {x y : Nat} (hx : x < b.length) (hy : y < b.length) : tP b s b.length 0 x y = decide (x ≠ y ∧ addL (b.getD x []) (b.getD y []) ∈ s) := by
  unfold tP
  rw [decide_eq_decide]
  constructor
  · rintro ⟨h1, h2, h3⟩; exact ⟨by omega, h3⟩
  · rintro ⟨h1, h3⟩; exact ⟨by omega, .inl (by omega), h3⟩
theorem tP_read {b s : List (List Int)} {x y : Nat} (hx : x < b.length) (hy : y < b.length) : tP b s b.length 0 x y = readT (edTo b s b.length) x y := by
  rw [tP_full hx hy, Bool.eq_iff_iff, decide_eq_true_eq, readT_iff]
  constructor
  · rintro ⟨h1, h2⟩
    by_cases hlt : x < y
    · exact ⟨_, edTo_mem.2 ⟨x, y, rfl, hlt, hy, h2⟩, .inl ⟨rfl, rfl⟩⟩
    · exact ⟨_, edTo_mem.2 ⟨y, x, rfl, by omega, hx, by rw [addL_comm]; exact h2⟩, .inr ⟨rfl, rfl⟩⟩
  · rintro ⟨e, he, h⟩
    obtain ⟨i, j, rfl, h1, h2, h3⟩ := edTo_mem.1 he
    simp only [Int.toNat_natCast] at h
    rcases h with ⟨rfl, rfl⟩ | ⟨rfl, rfl⟩
    · exact ⟨by omega, h3⟩
    · exact ⟨by omega, by rw [addL_comm]; exact h3⟩
theorem tP_edges (b s : List (List Int)) : tableEdges (tP b s b.length 0) b.length b.length = edTo b s b.length := by
  unfold tableEdges edTo
  have : ∀ i ∈ List.range b.length, rowT (tP b s b.length 0) i b.length = edRow b s i := by
    intro i hi
    have hi := List.mem_range.1 hi
    unfold rowT edRow
    have hf : ((List.range b.length).filter fun k => decide (i < k) && tP b s b.length 0 i k) = (List.range b.length).filter fun j => decide (i < j) && decide (addL (b.getD i []) (b.getD j []) ∈ s) := by
      refine List.filter_congr (fun j hj => ?_)
      have hj := List.mem_range.1 hj
      by_cases hij : i < j
      · rw [tP_full hi hj, decide_eq_true hij]
        simp only [Bool.true_and]
        rw [decide_eq_decide]
        exact ⟨fun h => h.2, fun h => ⟨by omega, h⟩⟩
      · rw [decide_eq_false hij]; rfl
    rw [hf]
  rw [List.flatMap_def, List.flatMap_def, List.map_congr_left this]
end Go.Sp
end
section
/- The products within blocks, as the reference and the program add them: plain. -/
namespace Go.Sp
open Go.Gr Go.Ev Go.Jt
def Blks (b ls : List (List Int)) (v : List Int) : Prop := ∃ l ∈ ls, ∃ x ∈ l, ∃ y ∈ l, v = addL (b.getD x.toNat []) (b.getD y.toNat [])
theorem blks_nil {b : List (List Int)} {v : List Int} : ¬ Blks b [] v := fun ⟨_, h, _⟩ => by cases h
theorem blks_take_zero {b ls : List (List Int)} {v : List Int} : ¬ Blks b (ls.take 0) v := fun ⟨_, h, _⟩ => by simp at h
theorem blks_succ {b ls : List (List Int)} {v : List Int} {i : Nat} (h : i < ls.length) : Blks b (ls.take (i + 1)) v ↔ Blks b (ls.take i) v ∨ InB b ls[i] ls[i].length v := by
  rw [inB_full, List.take_succ_eq_append_getElem h]
  unfold Blks
  constructor
  · rintro ⟨l, hl, r⟩
    rcases List.mem_append.1 hl with hl | hl
    · exact .inl ⟨l, hl, r⟩
    · rw [List.mem_singleton.1 hl] at r; exact .inr r
  · rintro (⟨l, hl, r⟩ | r)
    · exact ⟨l, List.mem_append_left _ hl, r⟩
    · exact ⟨ls[i], List.mem_append_right _ (by simp), r⟩
theorem setAt_blks {b S : List (List Int)} {t : Nat} {v : List Int} : v ∈ setAt b S (t + 1) ↔ v ∈ setAt b S t ∨ Blks b (comps b (setAt b S t)) v := setAt_mem
/-- The pairs of a block that the reference has met: rows ahead of a, row a up to c. -/
def RB (b : List (List Int)) (l : List Int) (a c : Nat) (v : List Int) : Prop := ∃ x y : Nat, y < x ∧ (x < a ∨ (x = a ∧ y < c)) ∧ x < l.length ∧ v = addL (b.getD (l.getD x 0).toNat []) (b.getD (l.getD y 0).toNat [])
theorem rb_zero {b : List (List Int)} {l v : List Int} : ¬ RB b l 0 0 v := fun ⟨x, y, h1, h2, _⟩ => by omega
theorem rb_row {b : List (List Int)} {l v : List Int} {a : Nat} : RB b l a a v ↔ RB b l (a + 1) 0 v := by
  constructor
  · rintro ⟨x, y, h1, h2, h3⟩; exact ⟨x, y, h1, .inl (by omega), h3⟩
  · rintro ⟨x, y, h1, h2, h3⟩; exact ⟨x, y, h1, by omega, h3⟩
theorem rb_succ {b : List (List Int)} {l v : List Int} {a c : Nat} (hc : c < a) (ha : a < l.length) : RB b l a (c + 1) v ↔ RB b l a c v ∨ v = addL (b.getD (l.getD a 0).toNat []) (b.getD (l.getD c 0).toNat []) := by
  constructor
  · rintro ⟨x, y, h1, h2, h3, h4⟩
    by_cases h : x = a ∧ y = c
    · obtain ⟨rfl, rfl⟩ := h; exact .inr h4
    · exact .inl ⟨x, y, h1, by omega, h3, h4⟩
  · rintro (⟨x, y, h1, h2, h3, h4⟩ | h4)
    · exact ⟨x, y, h1, by omega, h3, h4⟩
    · exact ⟨a, c, hc, .inr ⟨rfl, by omega⟩, ha, h4⟩
theorem rb_full {b : List (List Int)} {l v : List Int} : RB b l l.length 0 v ↔ ∃ x y : Nat, y < x ∧ x < l.length ∧ v = addL (b.getD (l.getD x 0).toNat []) (b.getD (l.getD y 0).toNat []) := by
  constructor
  · rintro ⟨x, y, h1, h2, h3, h4⟩; exact ⟨x, y, h1, h3, h4⟩
  · rintro ⟨x, y, h1, h3, h4⟩; exact ⟨x, y, h1, .inl h3, h3, h4⟩
def RBlks (b ls : List (List Int)) (v : List Int) : Prop := ∃ l ∈ ls, RB b l l.length 0 v
theorem rblks_zero {b ls : List (List Int)} {v : List Int} : ¬ RBlks b (ls.take 0) v := fun ⟨_, h, _⟩ => by simp at h
theorem rblks_succ {b ls : List (List Int)} {v : List Int} {i : Nat} (h : i < ls.length) : RBlks b (ls.take (i + 1)) v ↔ RBlks b (ls.take i) v ∨ RB b ls[i] ls[i].length 0 v := by
  rw [List.take_succ_eq_append_getElem h]
  unfold RBlks
  constructor
  · rintro ⟨l, hl, r⟩
    rcases List.mem_append.1 hl with hl | hl
    · exact .inl ⟨l, hl, r⟩
    · rw [List.mem_singleton.1 hl] at r; exact .inr r
  · rintro (⟨l, hl, r⟩ | r)
    · exact ⟨l, List.mem_append_left _ hl, r⟩
    · exact ⟨ls[i], List.mem_append_right _ (by simp), r⟩
theorem comps_lt {b S : List (List Int)} (hv : valid b.length (edTo b S b.length)) : ∀ l ∈ comps b S, ∀ x ∈ l, ∃ v : Nat, x = (v : Int) ∧ v < b.length := by
  intro l hl x hx
  obtain ⟨r, hr, h⟩ := (made_r (comps_made hv)).each l hl
  obtain ⟨v, rfl, hc⟩ := (h x).1 hx
  exact ⟨v, rfl, conn_lt hv hr hc⟩
theorem rblks_full {b ls S : List (List Int)} (hl : ∀ l ∈ ls, ∀ x ∈ l, ∃ v : Nat, x = (v : Int) ∧ v < b.length) (hsq : ∀ m ∈ b, addL m m ∈ S) {v : List Int} : (v ∈ S ∨ RBlks b ls v) ↔ (v ∈ S ∨ Blks b ls v) := by
  have hg : ∀ (l : List Int) (i : Nat), i < l.length → l.getD i 0 ∈ l := fun l i h => by rw [List.getD_eq_getElem?_getD, List.getElem?_eq_getElem h, Option.getD_some]; exact List.getElem_mem h
  constructor
  · rintro (h | ⟨l, h1, h2⟩)
    · exact .inl h
    · obtain ⟨x, y, hxy, hx, e⟩ := rb_full.1 h2
      exact .inr ⟨l, h1, _, hg l x hx, _, hg l y (by omega), e⟩
  · rintro (h | ⟨l, h1, x, hx, y, hy, rfl⟩)
    · exact .inl h
    · by_cases hxy : x = y
      · subst hxy
        left
        obtain ⟨v, rfl, hv⟩ := hl l h1 x hx
        rw [Int.toNat_natCast, List.getD_eq_getElem?_getD, List.getElem?_eq_getElem hv, Option.getD_some]
        exact hsq _ (List.getElem_mem _)
      · right
        refine ⟨l, h1, rb_full.2 ?_⟩
        obtain ⟨i, hi, rfl⟩ := List.getElem_of_mem hx
        obtain ⟨j, hj, rfl⟩ := List.getElem_of_mem hy
        have e1 : l.getD i 0 = l[i] := by simp [hi]
        have e2 : l.getD j 0 = l[j] := by simp [hj]
        rcases Nat.lt_trichotomy i j with h | h | h
        · exact ⟨j, i, h, hj, by rw [e1, e2, addL_comm]⟩
        · subst h; exact absurd rfl hxy
        · exact ⟨i, j, h, hi, by rw [e1, e2]⟩
theorem s0_sq {es b : List (List Int)} : ∀ m ∈ b, addL m m ∈ S0 es b := fun m hm => List.mem_append_right _ (List.mem_map.2 ⟨m, hm, rfl⟩)
/-- Only what is known decides the blocks. -/
theorem edTo_set {b S S' : List (List Int)} (h : ∀ v, v ∈ S ↔ v ∈ S') : edTo b S b.length = edTo b S' b.length := edTo_congr (fun _ _ _ _ => h _)
theorem comps_set {b S S' : List (List Int)} (h : ∀ v, v ∈ S ↔ v ∈ S') : comps b S = comps b S' := by
  unfold comps
  rw [edTo_set h]
end Go.Sp
end
