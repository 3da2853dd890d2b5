/- Parts of the proof: LI2. -/
import Derived.StillTailTactics
import Derived.Deep.Cut
import Derived.Deep.RegionHeld3
import Derived.Test.YticpnfjdooileaaGreatDoorMCPC23
section
/- The statement ParityInvariant, walked. -/
namespace Go.Proofs.Tg
open Go.RowKit Go.Gr Go.Ev Go.Mo Go.Qn
set_option maxHeartbeats 4000000
set_option maxRecDepth 100000
theorem bit_01 (p : Bool) : (if p = true then (1 : Int) else 0) = 0 ∨ (if p = true then (1 : Int) else 0) = 1 := by cases p <;> simp
theorem same_exps {ts tv : List TV} (h : ts.map TV.pl = tv.map TV.pl) (hs : ∀ t ∈ tv, t.coef.size ≤ 8 ∧ t.exps.length ≤ 64) : ∀ t ∈ ts, t.exps.length ≤ 1000000 := by
  intro t ht
  have h1 : TV.pl t ∈ tv.map TV.pl := by rw [← h]; exact List.mem_map_of_mem ht
  obtain ⟨u, hu, he⟩ := List.mem_map.1 h1
  have h2 := (hs u hu).2
  have h3 : u.exps = t.exps := congrArg Prod.snd he
  rw [← h3]; omega
theorem law_invariant (L : Option Addr) (c : Nat) (ps : List PVal) (bt : Int) (V0 : Option Addr) (cv : Nat) (v : List Int) (w : World) (hL : PolysAt w L ps) (hV : Ints w V0 v) (hT : Tab w) :
    Calls Tryz.prog 6 #[.slice L ps.length c, .int .i64 bt, .slice V0 v.length cv] w fun e w' => e = .returned (.bool true) ∧ Below w.heap.size w w' := by
  by_cases hs : ps.length ≤ 3 ∧ ∀ p ∈ ps, p.few 6 8
  · have hlen : ps.length ≤ 3 := hs.1
    have HF8 : Hid (∀ p ∈ ps, p.few 8 8) := Lib.hid (fun p hp => ⟨by have := (hs.2 p hp).1; omega, (hs.2 p hp).2⟩)
    have HFS : Hid ((rowsOf ps).length ≤ 100000) := Lib.hid (by have := rows_few ps HF8.out; omega)
    have HSM : Hid (∀ p ∈ ps, p.small) := Lib.hid (fun p hp => ⟨by have := (hs.2 p hp).1; omega, fun t ht => by have := (hs.2 p hp).2 t ht; omega⟩)
    have HTL : Hid (∀ p ∈ ps, p.tv.length ≤ 100000) := Lib.hid (fun p hp => by have := (hs.2 p hp).1; omega)
    have HSZ : Hid (∀ p ∈ ps, p.tv.length ≤ 4096 ∧ ∀ t ∈ p.tv, t.coef.size ≤ 8 ∧ t.exps.length ≤ 64) := Lib.hid (fun p hp => ⟨by have := (hs.2 p hp).1; omega, fun t ht => by have := (hs.2 p hp).2 t ht; omega⟩)
    have HP := Lib.hid (fun W (h : PolysAt W L ps) => spolys_any L c 3 6 8 ps true W h (by simp [hs.1]; exact hs.2) (by omega) (by omega) (by omega))
    have HRA := Lib.hid (fun W (h : PolysAt W L ps) => rsigns_any L c ps W (by omega) HFS.out HTL.out (readall_any L c ps W h (by omega) HF8.out))
    have hsg := sg_both ps
    clear hs
    rcases hsg with ⟨cc, hc0, H1, H2⟩ | ⟨H1, H2⟩
    · have HM1 := Lib.hid H1
      have HM2 := Lib.hid H2
      clear H1 H2
      have hcb : (cc != 0) = true := by simp [hc0]
      have hcb' : (cc == 0) = false := by simp [hc0]
      clear hc0
      go_enter Tryz.func6, Tryz.ntmps6
      go_wp2_with (fail)
      refine (HP.out w hL).mono ?_
      rintro e w0 ⟨rfl, hb0⟩
      go_wp2_with (fail)
      refine (signs_any L c ps w0 (hL.keep hb0) (by omega) HSM.out (hT.below hb0 hT.1)).mono ?_
      intro e w1 hm
      obtain ⟨rfl, hb1⟩ := HM1.out _ _ _ hm
      clear hm
      have hb1 := below_all hb0 hb1
      clear hb0
      go_wp2_with (fail)
      refine (HRA.out w1 (hL.keep hb1)).mono ?_
      intro e w2 hm
      obtain ⟨rfl, hb2⟩ := HM2.out _ _ _ hm
      clear hm
      have hb2 := below_all hb1 hb2
      clear hb1
      go_wp2_with (fail)
      refine (awake_any w2 (hT.below hb2 hT.1)).mono ?_
      rintro e w4 ⟨rfl, hb4⟩
      go_wp2_with (fail)
      go_ret
      exact ⟨rfl, below_all hb2 hb4⟩
    · have HM1 := Lib.hid H1
      have HM2 := Lib.hid H2
      clear H1 H2
      go_enter Tryz.func6, Tryz.ntmps6
      go_wp2_with (fail)
      refine (HP.out w hL).mono ?_
      rintro e w0 ⟨rfl, hb0⟩
      go_wp2_with (fail)
      refine (signs_any L c ps w0 (hL.keep hb0) (by omega) HSM.out (hT.below hb0 hT.1)).mono ?_
      intro e w1 hm
      obtain ⟨hb1, n, us, r, A, ca, hok, rfl, hLS⟩ := HM1.out _ _ _ hm
      clear hm
      have hKl : (us.take r).length ≤ 64 := by rw [List.length_take]; have := hok.len; omega
      have HKV : Hid (∀ x ∈ us.take r, V (rowsOf ps) n x) := Lib.hid hok.rows
      rw [List.length_map]
      generalize us.take r = K at *
      have hb1 := below_all hb0 hb1
      clear hb0
      go_wp2_with (fail)
      refine (HRA.out w1 (hL.keep hb1)).mono ?_
      intro e w2 hm
      obtain ⟨hb2, A', m', c', rfl⟩ := HM2.out _ _ _ hm
      clear hm
      have hLS2 := hLS.keep hb2
      have hbw2 := below_all hb1 hb2
      clear hb1 hb2 hLS HP HRA HM1 HM2 HFS HTL HSM
      have HOK := Lib.hid hok
      have hn6 := hok.n6
      have hp0 : 0 < ps.length := List.length_pos_iff.2 hok.ne
      clear hok
      obtain ⟨ad, rfl, d0, _, _⟩ := PolysAt.at (hL.keep hbw2) hp0
      have hv0 : ps[0].vars = n := HOK.out.vars _ (List.getElem_mem _)
      rw [hv0, Nat.zero_mul] at d0
      have d00 : w2.cell? ad = some (.int .i64 n) := by simpa [Addr.add] using d0
      clear d0 hv0
      have hmk := fun W => make_ints n n (Nat.le_refl _) (by omega) W
      have hmod := modZ_in bt (n := 64) (by omega)
      have HMD := Lib.hid (fun W => mod_any bt 64 W (by omega) (by omega))
      obtain ⟨b, hb⟩ : ∃ b : Nat, modZ bt 64 = b := ⟨(modZ bt 64).toNat, by omega⟩
      rw [hb] at HMD hmod
      clear hb
      have hb64 : b < 64 := by omega
      clear hmod
      have qp : (0 : Int) < (ps.length : Int) := by omega
      go_upto_region 9 with (fail)
      obtain ⟨W3, hW3⟩ : ∃ W3, w2.alloc (.cells (madeCells #[.int .i64 0] n) 3) = W3 := ⟨_, rfl⟩
      have B12 : Blk W3 w2.heap.size 3 (iarr (unp (selX K b 0) n)) := by
        rw [← hW3]
        have e : iarr (unp (selX K b 0) n) = madeCells #[.int .i64 0] n := by
          show iarr (unp 0 n) = _
          rw [unp_zero, iarr_made]
        rw [e]
        exact Blk.new w2 3 _
      have hb3 : Below w2.heap.size w2 W3 := by rw [← hW3]; exact (Below.refl _ _).alloc (Nat.le_refl _) _
      rw [hW3]
      clear hW3 d00
      go_wp2
      go_loopw [13] (fun s13 wr => ∃ i : Nat, s13 = .int .i64 i ∧ i ≤ K.length ∧ Blk wr w2.heap.size 3 (iarr (unp (selX K b i) n)) ∧ Below w2.heap.size w2 wr) (fun s13 _ => K.length - (intOf s13).toNat)
      case atStart => exact ⟨0, rfl, Nat.zero_le _, B12, hb3⟩
      case round =>
        clear B12 hb3
        obtain ⟨wo, rfl⟩ : ∃ wo : World, wo = wr := ⟨_, rfl⟩
        obtain ⟨i, rfl, hi, B12, hbr⟩ := hrel
        by_cases hil : i < K.length
        · obtain ⟨bd, E, ce, rfl, hcell, hI⟩ := Lists.at hLS2 (k := i) (by rw [List.length_map]; exact hil)
          simp only [List.getElem_map] at hcell hI
          have HSX : Hid (selX K b (i + 1) = selX K b i ^^^ (if b.testBit i = true then K[i] else 0)) := Lib.hid (by
            show selX K b i ^^^ (if b.testBit i = true then K.getD i 0 else 0) = _
            simp [hil])
          rw [unp_len] at hcell
          generalize K[i] = u at *
          obtain ⟨y, hy⟩ : ∃ y, (if b.testBit i = true then u else 0) = y := ⟨_, rfl⟩
          rw [hy] at HSX
          have HY := Lib.hid hy
          clear hy
          generalize selX K b i = x at *
          have hc1 := keep_cell hbr hcell
          have hsb := shr_bit b i (by omega)
          have q0 : (0 : Int) ≤ (i : Int) := by omega
          have q1 : (i : Int) < (K.length : Int) := by omega
          have q3 : ((i : Int)).toNat = i := by omega
          go_wp2
          go_loopw [14] (fun s14 wx => ∃ k : Nat, s14 = .int .i64 k ∧ k ≤ n ∧ Blk wx w2.heap.size 3 (iarr (mixL x y n k)) ∧ Below w2.heap.size w2 wx) (fun s14 _ => n - (intOf s14).toNat)
          case atStart => exact ⟨0, rfl, Nat.zero_le _, by rw [mixL_zero]; exact B12, hbr⟩
          case round =>
            clear B12 hc1
            obtain ⟨wi, rfl⟩ : ∃ wi : World, wi = wr := ⟨_, rfl⟩
            obtain ⟨k, rfl, hk, B12, hbx⟩ := hrel
            have hc1 := keep_cell hbx hcell
            by_cases hkn : k < n
            · have hml := mixL_len x y (Nat.le_of_lt hkn)
              have c0 := B12.cell k
              have f0 := B12.frozen k
              rw [iarr_at _ (by rw [hml]; exact hkn), mixL_at x y hkn] at c0
              obtain ⟨ed, rfl, hce⟩ := Ints.at (hI.keep hbx) (k := k) (by rw [unp_len]; exact hkn)
              have e1 : (unp u n)[k]'(by rw [unp_len]; exact hkn) = if u.testBit k = true then 1 else 0 := by simp [unp]
              rw [e1] at hce
              have hst := bit_step (x.testBit k) (u.testBit k) (b.testBit i)
              have p1 := bit_01 (x.testBit k)
              have p2 := bit_01 (u.testBit k)
              have p3 := bit_01 (b.testBit i)
              have HZ : Hid ((if (x.testBit k ^^ (b.testBit i && u.testBit k)) = true then (1 : Int) else 0) = if (x ^^^ y).testBit k = true then 1 else 0) := Lib.hid (by
                rw [Nat.testBit_xor, ← HY.out, sel_bit])
              rw [HZ.out] at hst
              have HB := Lib.hid B12
              have HBS : Hid ((mixL x y n k).set k (if (x ^^^ y).testBit k = true then 1 else 0) = mixL x y n (k + 1)) := Lib.hid (mixL_set x y hkn)
              clear B12 e1
              generalize (if x.testBit k = true then (1 : Int) else 0) = pv at *
              generalize (if u.testBit k = true then (1 : Int) else 0) = qv at *
              generalize (if b.testBit i = true then (1 : Int) else 0) = bv at *
              generalize (if (x ^^^ y).testBit k = true then (1 : Int) else 0) = zv at *
              have r0 : (0 : Int) ≤ (k : Int) := by omega
              have r1 : (k : Int) < (n : Int) := by omega
              have r3 : ((k : Int)).toNat = k := by omega
              have hqb : qv * bv = 0 ∨ qv * bv = 1 := by rcases p2 with rfl | rfl <;> rcases p3 with rfl | rfl <;> simp
              have w1 : wrap64 (qv * bv) = qv * bv := by unfold wrap64; omega
              have w2' : wrap64 (pv + qv * bv) = pv + qv * bv := by unfold wrap64; omega
              have w3 : (pv + qv * bv).tmod 2 = zv := by rw [← hst, Int.tmod_eq_emod_of_nonneg (by omega)]
              have w4 : IntKind.i64.wrap (qv * bv) = qv * bv := IntWalk.i64_in _ (by omega)
              have w5 : IntKind.i64.wrap (pv + qv * bv) = pv + qv * bv := IntWalk.i64_in _ (by omega)
              clear hst p1 p2 p3 hqb HZ
              go_wp2
              go_still_tail 22, (by kernel_rfl)
              still_call ((HMD.out _).mono fun e w' h => ⟨h.1, h.2.symm⟩)
              repeat still_step
              try refine wpStill_nil ?_
              change wpList _ _ _ _ _ wi.drew
              go_wp2
              go_roundw
              case rel =>
                refine ⟨k + 1, by go_num, by omega, ?_, below_far hbx.drew (Nat.le_refl _) _ _⟩
                have := HB.out.drew.set k (.int .i64 zv)
                rwa [iarr_set, HBS.out] at this
              case measure => simp [intOf]; omega
            · obtain rfl : k = n := by omega
              have dd : decide (k < k) = false := by simp
              go_wp2
              go_roundw
              case rel =>
                refine ⟨i + 1, by go_num, by omega, ?_, hbx⟩
                rw [HSX.out, ← mixL_full x y k]
                exact B12
              case measure => simp [intOf]; omega
        · obtain rfl : i = K.length := by omega
          have HX : Hid (V (rowsOf ps) n (selX K b K.length)) := Lib.hid (selX_V HKV.out b K.length)
          generalize selX K b K.length = X at *
          have dd : decide (K.length < K.length) = false := by simp
          clear hLS2 HKV HMD
          have hz2 := B12.lt
          go_upto_region 19 with (fail)
          obtain ⟨W4, hW4⟩ : ∃ W4, wo.alloc (.cells (madeCells #[.int .i64 0] n) 3) = W4 := ⟨_, rfl⟩
          have B15 : Blk W4 wo.heap.size 3 (iarr (List.replicate n 0)) := by
            rw [← hW4, ← iarr_made]
            exact Blk.new wo 3 _
          have C12 : Blk W4 w2.heap.size 3 (iarr (unp X n)) := by rw [← hW4]; exact B12.alloc _
          have hb4 : Below w2.heap.size w2 W4 := by rw [← hW4]; exact hbr.alloc hbr.size _
          rw [hW4]
          clear hW4 B12
          have HV := Lib.hid hV
          go_wp2
          go_loopw [16] (fun s16 wr => ∃ (k : Nat) (ls : List Int), s16 = .int .i64 k ∧ k ≤ n ∧ ls.length = n ∧ Hid (bit01 ls = true) ∧ Blk wr wo.heap.size 3 (iarr ls) ∧ Blk wr w2.heap.size 3 (iarr (unp X n)) ∧ Below w2.heap.size w2 wr) (fun s16 _ => n - (intOf s16).toNat)
          case atStart => exact ⟨0, List.replicate n 0, rfl, Nat.zero_le _, by simp, Lib.hid (by rw [bit01_iff]; intro x hx; exact .inl (List.eq_of_mem_replicate hx)), B15, C12, hb4⟩
          case round =>
            clear B15 C12 hb4
            obtain ⟨wi, rfl⟩ : ∃ wi : World, wi = wr := ⟨_, rfl⟩
            obtain ⟨k, ls, rfl, hk, hls, HB1, B15, C12, hbx⟩ := hrel
            by_cases hkn : k < n ∧ k < v.length
            · obtain ⟨hkn, hkv⟩ := hkn
              obtain ⟨ed, rfl, hcv⟩ := Ints.at (HV.out.keep (below_all hbw2 hbx)) hkv
              generalize v[k] = vk at *
              have hz := modZ_in vk (n := 2) (by omega)
              have HM := Lib.hid (fun W => mod_any vk 2 W (by omega) (by omega))
              generalize modZ vk 2 = z at *
              have c0 := B15.cell k
              have f0 := B15.frozen k
              rw [iarr_at _ (by rw [hls]; exact hkn)] at c0
              generalize ls[k]'(by rw [hls]; exact hkn) = old at c0
              have HB2 : Hid (bit01 (ls.set k z) = true) := Lib.hid (by
                rw [bit01_iff]
                intro y hy
                rcases List.mem_or_eq_of_mem_set hy with h | h
                · exact (bit01_iff.1 HB1.out) y h
                · omega)
              have HB15 := Lib.hid B15
              have HC12 := Lib.hid C12
              have r0 : (0 : Int) ≤ (k : Int) := by omega
              have r1 : (k : Int) < (n : Int) := by omega
              have r2 : (k : Int) < (v.length : Int) := by omega
              have r3 : ((k : Int)).toNat = k := by omega
              have HLS := Lib.hid hls
              have hne : w2.heap.size ≠ wo.heap.size := by omega
              clear B15 C12 hls
              go_wp2_with (go_at_call 24; refine (HM.out _).mono ?_; rintro e w' ⟨rfl, rfl⟩)
              go_roundw
              case rel =>
                refine ⟨k + 1, ls.set k z, by go_num, by omega, by rw [List.length_set]; exact HLS.out, HB2, ?_, HC12.out.far hne _, below_far hbx (by omega) _ _⟩
                have := HB15.out.set k (.int .i64 z)
                rwa [iarr_set] at this
              case measure => simp [intOf]; omega
            · have HLS := Lib.hid hls
              clear hls
              go_upto_region 20 with (fail)
              go_cut [107] from 99 (fun s107 wx => s107 = .bool false ∧ wx = wi)
              case first =>
                by_cases hk1 : k < n
                · have d1 : decide ((k : Int) < (n : Int)) = true := by simp; omega
                  have d1' : decide (k < n) = true := by simp; omega
                  have d2 : decide ((k : Int) < (v.length : Int)) = false := by simp; omega
                  have d2' : decide (k < v.length) = false := by simp; omega
                  go_wp2
                  go_meet
                  exact ⟨rfl, rfl⟩
                · have d1 : decide ((k : Int) < (n : Int)) = false := by simp; omega
                  have d1' : decide (k < n) = false := by simp; omega
                  go_wp2
                  go_meet
                  exact ⟨rfl, rfl⟩
              case rest =>
                obtain ⟨rfl, hwx⟩ := hcut
                subst hwx
                obtain ⟨w5, hw5⟩ : ∃ w5 : World, w5 = wc := ⟨_, rfl⟩
                subst hw5
                have HI1 := Lib.hid (ints_of_blk C12 (by rw [unp_len]; omega))
                have HI2 := Lib.hid (ints_of_blk B15 (by rw [HLS.out]; omega))
                have hbw5 := below_all hbw2 hbx
                have HTB : Hid (∀ V, Below w5.heap.size w5 V → Tab V) := Lib.hid (fun V h => hT.below (below_all hbw5 h) hT.1)
                have hL5 := hL.keep hbw5
                clear C12 B15 hbx hkn
                go_wp2
                go_loopw [17] (fun s17 wr => ∃ i : Nat, s17 = .int .i64 i ∧ i ≤ ps.length ∧ Below w5.heap.size w5 wr) (fun s17 _ => ps.length - (intOf s17).toNat)
                case atStart => exact ⟨0, rfl, Nat.zero_le _, Below.refl _ _⟩
                case round =>
                  obtain ⟨wp, rfl⟩ : ∃ wp : World, wp = wr := ⟨_, rfl⟩
                  obtain ⟨i, rfl, hi, hbp⟩ := hrel
                  by_cases hil : i < ps.length
                  · obtain ⟨ad', hade, hc0, hc1, hTp⟩ := PolysAt.at (hL5.keep hbp) hil
                    obtain rfl : ad = ad' := by simpa using hade
                    have HMEM : Hid (ps[i] ∈ ps) := Lib.hid (List.getElem_mem _)
                    have hvars := HOK.out.vars _ HMEM.out
                    have hokp := HOK.out.ok _ HMEM.out
                    have hstl := HOK.out.still HX.out HMEM.out
                    have hszp := HSZ.out _ HMEM.out
                    generalize ps[i] = p at *
                    obtain ⟨pv, T, cT, tv⟩ := p
                    simp only [PVal.ok] at *
                    subst hvars
                    have HA1 : Hid (∀ V, Below w5.heap.size w5 V → TermsAt V T tv → Calls Tryz.prog 21 #[.slice (some ⟨w2.heap.size, 0, none⟩) n n, .agg #[.int .i64 n, .slice T tv.length cT]] V fun e w' => Below V.heap.size V w' ∧ ∃ (O : Option Addr) (co : Nat) (ts : List TV), e = .returned (.tuple #[.agg #[.int .i64 n, .slice O ts.length co], .int .i64 0]) ∧ TermsAt w' O ts ∧ ts.map TV.pl = tv.map TV.pl) := Lib.hid (fun V h ht => by
                      have := apply_ok (some ⟨w2.heap.size, 0, none⟩) n (unp X n) n T cT tv V (HI1.out.keep h) ht hszp.1 (fun t ht => by have := hszp.2 t ht; omega) (HTB.out V h) hokp (bit01_iff.2 (unp_bit X n)) (unp_len X n)
                      rwa [hstl] at this)
                    have HA2 : Hid (∀ V, Below w5.heap.size w5 V → TermsAt V T tv → Calls Tryz.prog 21 #[.slice (some ⟨wo.heap.size, 0, none⟩) n n, .agg #[.int .i64 n, .slice T tv.length cT]] V fun e w' => Below V.heap.size V w' ∧ ∃ (O : Option Addr) (co : Nat) (ts : List TV), e = .returned (.tuple #[.agg #[.int .i64 n, .slice O ts.length co], .int .i64 0]) ∧ TermsAt w' O ts ∧ ts.map TV.pl = (tv.map TV.pl).map (appT ls)) := Lib.hid (fun V h ht =>
                      apply_ok (some ⟨wo.heap.size, 0, none⟩) n ls n T cT tv V (HI2.out.keep h) ht hszp.1 (fun t ht => by have := hszp.2 t ht; omega) (HTB.out V h) hokp HB1.out HLS.out)
                    have HA3 : Hid (∀ V O co (ts : List TV), Below w5.heap.size w5 V → TermsAt V O ts → ts.map TV.pl = (tv.map TV.pl).map (appT ls) → Calls Tryz.prog 21 #[.slice (some ⟨wo.heap.size, 0, none⟩) n n, .agg #[.int .i64 n, .slice O ts.length co]] V fun e w' => Below V.heap.size V w' ∧ ∃ (O : Option Addr) (co : Nat) (ts : List TV), e = .returned (.tuple #[.agg #[.int .i64 n, .slice O ts.length co], .int .i64 0]) ∧ TermsAt w' O ts ∧ ts.map TV.pl = tv.map TV.pl) := Lib.hid (fun V O co ts h ht he => by
                      obtain ⟨hl, hsz⟩ := app_sizes he hszp.2
                      have := apply_ok (some ⟨wo.heap.size, 0, none⟩) n ls n O co ts V (HI2.out.keep h) ht (by rw [hl]; exact hszp.1) hsz (HTB.out V h) (by rw [he]; exact app_valid hokp) HB1.out HLS.out
                      rwa [he, app_app hokp] at this)
                    have HSP := Lib.hid hszp
                    have q0 : (0 : Int) ≤ (i : Int) := by omega
                    have q1 : (i : Int) < (ps.length : Int) := by omega
                    have q3 : ((i : Int)).toNat = i := by omega
                    clear hokp hstl hszp
                    go_wp2_with (fail)
                    refine (HA1.out _ hbp hTp).mono ?_
                    rintro e w6 ⟨hb6, O1, co1, ts1, rfl, hT1, hpl1⟩
                    have HP1 := Lib.hid hpl1
                    clear hpl1
                    go_upto_region 27 with (fail)
                    obtain ⟨W6, hW6⟩ : ∃ W6, w6.alloc (.cells #[.int .i64 n, .slice O1 ts1.length co1] 36) = W6 := ⟨_, rfl⟩
                    have D18 : Blk W6 w6.heap.size 36 #[.int .i64 n, .slice O1 ts1.length co1] := by rw [← hW6]; exact Blk.new _ _ _
                    have hb66 : Below w6.heap.size w6 W6 := by rw [← hW6]; exact (Below.refl _ _).alloc (Nat.le_refl _) _
                    rw [hW6]
                    clear hW6
                    have hT1 := hT1.keep hb66
                    have hb6 := below_all hb6 hb66
                    have hc0 := keep_cell hb6 hc0
                    have hc1 := keep_cell hb6 hc1
                    have hTp := hTp.keep hb6
                    have hb6 := below_all hbp hb6
                    go_wp2_with (fail)
                    refine (HA2.out _ hb6 hTp).mono ?_
                    rintro e w7 ⟨hb7, O2, co2, ts2, rfl, hT2, hpl2⟩
                    have HP2 := Lib.hid hpl2
                    clear hpl2
                    go_upto_region 28 with (fail)
                    obtain ⟨W7, hW7⟩ : ∃ W7, w7.alloc (.cells #[.int .i64 n, .slice O2 ts2.length co2] 36) = W7 := ⟨_, rfl⟩
                    have D20 : Blk W7 w7.heap.size 36 #[.int .i64 n, .slice O2 ts2.length co2] := by rw [← hW7]; exact Blk.new _ _ _
                    have hb77 : Below w7.heap.size w7 W7 := by rw [← hW7]; exact (Below.refl _ _).alloc (Nat.le_refl _) _
                    rw [hW7]
                    clear hW7
                    have hT2 := hT2.keep hb77
                    have hb7 := below_all hb7 hb77
                    have hT1 := hT1.keep hb7
                    have D18 := D18.keep hb7 D18.lt
                    have hc0 := keep_cell hb7 hc0
                    have hc1 := keep_cell hb7 hc1
                    have hTp := hTp.keep hb7
                    have hb7 := below_all hb6 hb7
                    obtain ⟨x0, x1, _, _⟩ := D20.two
                    go_wp2_with (fail)
                    refine (HA3.out _ _ _ _ hb7 hT2 HP2.out).mono ?_
                    rintro e w8 ⟨hb8, O3, co3, ts3, rfl, hT3, hpl3⟩
                    have HP3 := Lib.hid hpl3
                    clear hpl3
                    go_upto_region 29 with (fail)
                    obtain ⟨W8, hW8⟩ : ∃ W8, w8.alloc (.cells #[.int .i64 n, .slice O3 ts3.length co3] 36) = W8 := ⟨_, rfl⟩
                    have D22 : Blk W8 w8.heap.size 36 #[.int .i64 n, .slice O3 ts3.length co3] := by rw [← hW8]; exact Blk.new _ _ _
                    have hb88 : Below w8.heap.size w8 W8 := by rw [← hW8]; exact (Below.refl _ _).alloc (Nat.le_refl _) _
                    rw [hW8]
                    clear hW8 x0 x1
                    have hT3 := hT3.keep hb88
                    have hb8 := below_all hb8 hb88
                    have hT1 := hT1.keep hb8
                    have D18 := D18.keep hb8 D18.lt
                    have hc0 := keep_cell hb8 hc0
                    have hc1 := keep_cell hb8 hc1
                    have hTp := hTp.keep hb8
                    have hb8 := below_all hb7 hb8
                    obtain ⟨x0, x1, _, _⟩ := D18.two
                    obtain ⟨y0, y1, _, _⟩ := D22.two
                    have HQ1 : Hid (∀ V, Below W8.heap.size W8 V → Calls Tryz.prog 23 #[.agg #[.int .i64 n, .slice O1 ts1.length co1], .agg #[.int .i64 n, .slice T tv.length cT]] V fun e w' => e = .returned (.bool true) ∧ Below W8.heap.size W8 w') := Lib.hid (fun V h => by
                      have hl : ts1.length = tv.length := by have := congrArg List.length HP1.out; simpa using this
                      have hes := (same_exps HP1.out HSP.out.2)
                      exact (polys_any ⟨n, O1, co1, ts1⟩ ⟨n, T, cT, tv⟩ true V (hT1.keep h) (hTp.keep h) (by simp [HP1.out]) (by have := HSP.out.1; simp only; omega) (by have := HSP.out.1; simp only; omega) hes).mono fun e w' ⟨h1, h2⟩ => ⟨h1, below_all h h2⟩)
                    have HQ3 : Hid (∀ V, Below W8.heap.size W8 V → Calls Tryz.prog 23 #[.agg #[.int .i64 n, .slice O3 ts3.length co3], .agg #[.int .i64 n, .slice T tv.length cT]] V fun e w' => e = .returned (.bool true) ∧ Below W8.heap.size W8 w') := Lib.hid (fun V h => by
                      have hl : ts3.length = tv.length := by have := congrArg List.length HP3.out; simpa using this
                      have hes := (same_exps HP3.out HSP.out.2)
                      exact (polys_any ⟨n, O3, co3, ts3⟩ ⟨n, T, cT, tv⟩ true V (hT3.keep h) (hTp.keep h) (by simp [HP3.out]) (by have := HSP.out.1; simp only; omega) (by have := HSP.out.1; simp only; omega) hes).mono fun e w' ⟨h1, h2⟩ => ⟨h1, below_all h h2⟩)
                    have hbe : Below W8.heap.size W8 W8.drew := (Below.refl _ _).drew
                    clear hT1 hT2 hT3 hTp D18 D20 D22 hb6 hb7 hb66 hb77 hb88 HA1 HA2 HA3 HP1 HP2 HP3
                    go_region_held3 (fun w' => w'.cell? ⟨w6.heap.size, 0, none⟩ = some (.int .i64 n) ∧ w'.cell? ⟨w6.heap.size, 1, none⟩ = some (.slice O1 ts1.length co1) ∧ w'.cell? ⟨w8.heap.size, 0, none⟩ = some (.int .i64 n) ∧ w'.cell? ⟨w8.heap.size, 1, none⟩ = some (.slice O3 ts3.length co3) ∧ w'.cell? (ad.add (i * 2)) = some (.int .i64 n) ∧ w'.cell? ⟨(ad.add (i * 2)).block, (ad.add (i * 2)).off + 1, none⟩ = some (.slice T tv.length cT))
                      (first | exact ⟨keep_cell hbe x0, keep_cell hbe x1, keep_cell hbe y0, keep_cell hbe y1, keep_cell hbe hc0, keep_cell hbe hc1⟩)
                      (first
                        | (go_at_call 23; with_reducible refine Calls.mono (HQ1.out _ (by assumption)) ?_; rintro e w' ⟨rfl, hbe⟩)
                        | (go_at_call 23; with_reducible refine Calls.mono (HQ3.out _ (by assumption)) ?_; rintro e w' ⟨rfl, hbe⟩))
                    all_goals
                      go_wp2
                      go_roundw
                      case rel => exact ⟨i + 1, by go_num, by omega, below_all hb8 hbe⟩
                      case measure => simp [intOf]; omega
                  · obtain rfl : i = ps.length := by omega
                    have dd : decide (ps.length < ps.length) = false := by simp
                    go_wp2_with (fail)
                    refine (awake_any wp (HTB.out _ hbp)).mono ?_
                    rintro e w9 ⟨rfl, hb9⟩
                    go_wp2_with (fail)
                    go_ret
                    exact ⟨rfl, below_all (below_all hbw5 hbp) hb9⟩
  · have HP := Lib.hid (spolys_any L c 3 6 8 ps false w hL (by simp only [Bool.false_eq_true, false_iff]; exact hs) (by omega) (by omega) (by omega))
    clear hs
    go_enter Tryz.func6, Tryz.ntmps6
    go_wp2_with (fail)
    refine HP.out.mono ?_
    rintro e w0 ⟨rfl, hb0⟩
    go_wp2_with (fail)
    refine (awake_any w0 (hT.below hb0 hT.1)).mono ?_
    rintro e w4 ⟨rfl, hb4⟩
    go_wp2_with (fail)
    go_ret
    exact ⟨rfl, below_all hb0 hb4⟩
end Go.Proofs.Tg
end
