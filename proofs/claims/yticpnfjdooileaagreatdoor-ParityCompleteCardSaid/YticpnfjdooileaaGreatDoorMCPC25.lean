/- Parts of the proof: E7, LK1. -/
import Derived.StillTailTactics
import Derived.Deep.Cut
import Derived.Deep.RegionHeld3
import Derived.Test.YticpnfjdooileaaGreatDoorMCPC23
import Derived.Test.YticpnfjdooileaaGreatDoorMCPC24
section
/- Every vector of the space is a sum of vectors of the basis: plain. -/
namespace Go.Ev
open Go.Gr Go.Mo
theorem EInv.r_le {V : Nat → Prop} {n r : Nat} {vs : List Nat} {p : Nat → Nat} (h : EInv V n vs r p) : r ≤ n := by
  have key : ∀ j, j < r → j ≤ p j := by
    intro j
    induction j with
    | zero => intro _; exact Nat.zero_le _
    | succ j ih =>
      intro hj
      have h1 := ih (by omega)
      have h2 := h.mono j (j + 1) (by omega) hj
      omega
  by_cases h0 : r = 0
  · omega
  · have h1 := key (r - 1) (by omega)
    have h2 := h.lt (r - 1) (by omega)
    omega
theorem sel_comb {us : List Nat} {r : Nat} {p : Nat → Nat} (hr : r ≤ us.length) (x b : Nat) (hb : ∀ j, j < r → b.testBit j = x.testBit (p j)) : ∀ i, i ≤ r → selX (us.take r) b i = comb us p x i
  | 0, _ => rfl
  | i + 1, hi => by
    have h1 := sel_comb hr x b hb i (by omega)
    have h2 : (us.take r).getD i 0 = us.getD i 0 := by
      simp only [List.getD_eq_getElem?_getD, List.getElem?_take, if_pos (show i < r by omega)]
    show selX (us.take r) b i ^^^ (if b.testBit i = true then (us.take r).getD i 0 else 0) = _
    rw [h1, h2, hb i (by omega)]
    rfl
theorem complete {rows : List (List Int)} {n r : Nat} {us : List Nat} {q : Nat → Nat} (h : EInv (V rows n) n us r q) {x : Nat} (hx : V rows n x) : ∃ b, b < 2 ^ r ∧ selX (us.take r) b r = x := by
  refine ⟨pk ((List.range r).map fun j => if x.testBit (q j) = true then 1 else 0) r, pk_lt _ _, ?_⟩
  rw [sel_comb h.hr x _ ?_ r (Nat.le_refl _), comb_eq h (V_space rows n) hx]
  intro j hj
  rw [pk_bit]
  have e : ((List.range r).map fun j => if x.testBit (q j) = true then (1 : Int) else 0).getD j 0 = if x.testBit (q j) = true then 1 else 0 := by
    simp [hj]
  rw [e]
  cases x.testBit (q j) <;> simp [hj]
theorem unp_pk {l : List Int} {n : Nat} (hb : Bit01 l) (hl : l.length = n) : unp (pk l n) n = l := by
  subst hl
  refine List.ext_getElem (by rw [unp_len]) fun j h1 h2 => ?_
  have e : (unp (pk l l.length) l.length)[j] = if (pk l l.length).testBit j = true then 1 else 0 := by simp [unp]
  rw [e, pk_bit]
  have hj : l.getD j 0 = l[j] := by simp [h2]
  rw [hj]
  rcases hb l[j] (List.getElem_mem _) with h | h <;> rw [h] <;> simp [h2]
end Go.Ev
end
section
/- The statement ParityComplete, walked. -/
namespace Go.Proofs.Tg
open Go.RowKit Go.Gr Go.Ev Go.Mo Go.Qn
set_option maxHeartbeats 4000000
set_option maxRecDepth 100000
theorem law_complete (L : Option Addr) (c : Nat) (ps : List PVal) (V0 : Option Addr) (cv : Nat) (v : List Int) (w : World) (hL : PolysAt w L ps) (hV : Ints w V0 v) (hT : Tab w) :
    Calls Tryz.prog 7 #[.slice L ps.length c, .slice V0 v.length cv] w fun e w' => e = .returned (.bool true) ∧ Below w.heap.size w w' := by
  by_cases hs : ps.length ≤ 3 ∧ ∀ p ∈ ps, p.few 6 8
  · have hlen : ps.length ≤ 3 := hs.1
    have HF8 : Hid (∀ p ∈ ps, p.few 8 8) := Lib.hid (fun p hp => ⟨by have := (hs.2 p hp).1; omega, (hs.2 p hp).2⟩)
    have HFS : Hid ((rowsOf ps).length ≤ 100000) := Lib.hid (by have := rows_few ps HF8.out; omega)
    have HSM : Hid (∀ p ∈ ps, p.small) := Lib.hid (fun p hp => ⟨by have := (hs.2 p hp).1; omega, fun t ht => by have := (hs.2 p hp).2 t ht; omega⟩)
    have HTL : Hid (∀ p ∈ ps, p.tv.length ≤ 100000) := Lib.hid (fun p hp => by have := (hs.2 p hp).1; omega)
    have HSZ : Hid (∀ p ∈ ps, p.tv.length ≤ 4096 ∧ ∀ t ∈ p.tv, t.coef.size ≤ 8 ∧ t.exps.length ≤ 64) := Lib.hid (fun p hp => ⟨by have := (hs.2 p hp).1; omega, fun t ht => by have := (hs.2 p hp).2 t ht; omega⟩)
    have HP := Lib.hid (fun W (h : PolysAt W L ps) => spolys_any L c 3 6 8 ps true W h (by simp [hs.1]; exact hs.2) (by omega) (by omega) (by omega))
    have HRA := Lib.hid (fun W (h : PolysAt W L ps) => rsigns_any L c ps W (by omega) HFS.out HTL.out (readall_any L c ps W h (by omega) HF8.out))
    have hsg := sg_both ps
    clear hs
    rcases hsg with ⟨cc, hc0, H1, H2⟩ | ⟨H1, H2⟩
    · have HM1 := Lib.hid H1
      have HM2 := Lib.hid H2
      clear H1 H2
      have hcb : (cc != 0) = true := by simp [hc0]
      have hcb' : (cc == 0) = false := by simp [hc0]
      clear hc0
      go_enter Tryz.func7, Tryz.ntmps7
      go_wp2_with (fail)
      refine (HP.out w hL).mono ?_
      rintro e w0 ⟨rfl, hb0⟩
      go_wp2_with (fail)
      refine (signs_any L c ps w0 (hL.keep hb0) (by omega) HSM.out (hT.below hb0 hT.1)).mono ?_
      intro e w1 hm
      obtain ⟨rfl, hb1⟩ := HM1.out _ _ _ hm
      clear hm
      have hb1 := below_all hb0 hb1
      clear hb0
      go_wp2_with (fail)
      refine (HRA.out w1 (hL.keep hb1)).mono ?_
      intro e w2 hm
      obtain ⟨rfl, hb2⟩ := HM2.out _ _ _ hm
      clear hm
      have hb2 := below_all hb1 hb2
      clear hb1
      go_wp2_with (fail)
      refine (awake_any w2 (hT.below hb2 hT.1)).mono ?_
      rintro e w4 ⟨rfl, hb4⟩
      go_wp2_with (fail)
      go_ret
      exact ⟨rfl, below_all hb2 hb4⟩
    · have HM1 := Lib.hid H1
      have HM2 := Lib.hid H2
      clear H1 H2
      go_enter Tryz.func7, Tryz.ntmps7
      go_wp2_with (fail)
      refine (HP.out w hL).mono ?_
      rintro e w0 ⟨rfl, hb0⟩
      go_wp2_with (fail)
      refine (signs_any L c ps w0 (hL.keep hb0) (by omega) HSM.out (hT.below hb0 hT.1)).mono ?_
      intro e w1 hm
      obtain ⟨hb1, n, us, r, A, ca, hok, rfl, hLS⟩ := HM1.out _ _ _ hm
      clear hm
      have hKl : (us.take r).length ≤ 6 := by
        obtain ⟨q, hq⟩ := hok.inv
        have := hq.r_le
        have := hok.n6
        rw [List.length_take]; omega
      have HCM : Hid (∀ x, V (rowsOf ps) n x → ∃ b, b < 2 ^ (us.take r).length ∧ selX (us.take r) b (us.take r).length = x) := Lib.hid (fun x hx => by
        obtain ⟨q, hq⟩ := hok.inv
        rw [List.length_take, Nat.min_eq_left hq.hr]
        exact complete hq hx)
      have HKV : Hid (∀ x ∈ us.take r, x < 2 ^ n) := Lib.hid (fun x hx => (hok.rows x hx).1)
      rw [List.length_map]
      generalize us.take r = K at *
      have hb1 := below_all hb0 hb1
      clear hb0
      go_wp2_with (fail)
      refine (HRA.out w1 (hL.keep hb1)).mono ?_
      intro e w2 hm
      obtain ⟨hb2, A', m', c', rfl⟩ := HM2.out _ _ _ hm
      clear hm
      have hLS2 := hLS.keep hb2
      have hbw2 := below_all hb1 hb2
      clear hb1 hb2 hLS HP HRA HM1 HM2 HFS HTL HSM
      have HOK := Lib.hid hok
      have hn6 := hok.n6
      have hp0 : 0 < ps.length := List.length_pos_iff.2 hok.ne
      clear hok
      obtain ⟨ad, rfl, d0, _, _⟩ := PolysAt.at (hL.keep hbw2) hp0
      have hv0 : ps[0].vars = n := HOK.out.vars _ (List.getElem_mem _)
      rw [hv0, Nat.zero_mul] at d0
      have d00 : w2.cell? ad = some (.int .i64 n) := by simpa [Addr.add] using d0
      clear d0 hv0
      have hd6 : decide ((6 : Int) < (K.length : Int)) = false := decide_eq_false (by omega)
      have hmk := fun W => make_ints n n (Nat.le_refl _) (by omega) W
      have qp : (0 : Int) < (ps.length : Int) := by omega
      go_upto_region 9 with (fail)
      obtain ⟨W4, hW4⟩ : ∃ W4, w2.alloc (.cells (madeCells #[.int .i64 0] n) 3) = W4 := ⟨_, rfl⟩
      have B15 : Blk W4 w2.heap.size 3 (iarr (List.replicate n 0)) := by
        rw [← hW4, ← iarr_made]
        exact Blk.new w2 3 _
      have hb4 : Below w2.heap.size w2 W4 := by rw [← hW4]; exact (Below.refl _ _).alloc (Nat.le_refl _) _
      rw [hW4]
      clear hW4 d00
      have HV := Lib.hid hV
      go_wp2
      go_loopw [11] (fun s11 wr => ∃ (k : Nat) (ls : List Int), s11 = .int .i64 k ∧ k ≤ n ∧ ls.length = n ∧ Hid (bit01 ls = true) ∧ Blk wr w2.heap.size 3 (iarr ls) ∧ Below w2.heap.size w2 wr) (fun s11 _ => n - (intOf s11).toNat)
      case atStart => exact ⟨0, List.replicate n 0, rfl, Nat.zero_le _, by simp, Lib.hid (by rw [bit01_iff]; intro x hx; exact .inl (List.eq_of_mem_replicate hx)), B15, hb4⟩
      case round =>
        clear B15 hb4
        obtain ⟨wi, rfl⟩ : ∃ wi : World, wi = wr := ⟨_, rfl⟩
        obtain ⟨k, ls, rfl, hk, hls, HB1, B15, hbx⟩ := hrel
        by_cases hkn : k < n ∧ k < v.length
        · obtain ⟨hkn, hkv⟩ := hkn
          obtain ⟨ed, rfl, hcv⟩ := Ints.at (HV.out.keep (below_all hbw2 hbx)) hkv
          generalize v[k] = vk at *
          have hz := modZ_in vk (n := 2) (by omega)
          have HM := Lib.hid (fun W => mod_any vk 2 W (by omega) (by omega))
          generalize modZ vk 2 = z at *
          have c0 := B15.cell k
          have f0 := B15.frozen k
          rw [iarr_at _ (by rw [hls]; exact hkn)] at c0
          generalize ls[k]'(by rw [hls]; exact hkn) = old at c0
          have HB2 : Hid (bit01 (ls.set k z) = true) := Lib.hid (by
            rw [bit01_iff]
            intro y hy
            rcases List.mem_or_eq_of_mem_set hy with h | h
            · exact (bit01_iff.1 HB1.out) y h
            · omega)
          have HB15 := Lib.hid B15
          have r0 : (0 : Int) ≤ (k : Int) := by omega
          have r1 : (k : Int) < (n : Int) := by omega
          have r2 : (k : Int) < (v.length : Int) := by omega
          have r3 : ((k : Int)).toNat = k := by omega
          have HLS := Lib.hid hls
          clear B15 hls
          go_wp2_with (go_at_call 24; refine (HM.out _).mono ?_; rintro e w' ⟨rfl, rfl⟩)
          go_roundw
          case rel =>
            refine ⟨k + 1, ls.set k z, by go_num, by omega, by rw [List.length_set]; exact HLS.out, HB2, ?_, below_far hbx (by omega) _ _⟩
            have := HB15.out.set k (.int .i64 z)
            rwa [iarr_set] at this
          case measure => simp [intOf]; omega
        · have HLS := Lib.hid hls
          clear hls
          go_upto_region 10 with (fail)
          go_cut [69] from 61 (fun s69 wx => s69 = .bool false ∧ wx = wi)
          case first =>
            by_cases hk1 : k < n
            · have d1 : decide ((k : Int) < (n : Int)) = true := by simp; omega
              have d1' : decide (k < n) = true := by simp; omega
              have d2 : decide ((k : Int) < (v.length : Int)) = false := by simp; omega
              have d2' : decide (k < v.length) = false := by simp; omega
              go_wp2
              go_meet
              exact ⟨rfl, rfl⟩
            · have d1 : decide ((k : Int) < (n : Int)) = false := by simp; omega
              have d1' : decide (k < n) = false := by simp; omega
              go_wp2
              go_meet
              exact ⟨rfl, rfl⟩
          case rest =>
            obtain ⟨rfl, hwx⟩ := hcut
            subst hwx
            obtain ⟨w5, hw5⟩ : ∃ w5 : World, w5 = wc := ⟨_, rfl⟩
            subst hw5
            have HI2 := Lib.hid (ints_of_blk B15 (by rw [HLS.out]; omega))
            have hbw5 := below_all hbw2 hbx
            have HTB : Hid (∀ V, Below w5.heap.size w5 V → Tab V) := Lib.hid (fun V h => hT.below (below_all hbw5 h) hT.1)
            have hL5 := hL.keep hbw5
            have hLS5 := hLS2.keep hbx
            clear B15 hbx hkn hLS2
            go_wp2
            go_loopw [12] (fun s12 wr => ∃ i : Nat, s12 = .int .i64 i ∧ i ≤ ps.length ∧ Hid (∀ p ∈ ps.take i, (p.tv.map TV.pl).map (appT ls) = p.tv.map TV.pl) ∧ Below w5.heap.size w5 wr) (fun s12 _ => ps.length - (intOf s12).toNat)
            case atStart => exact ⟨0, rfl, Nat.zero_le _, Lib.hid (by simp), Below.refl _ _⟩
            case round =>
              obtain ⟨wp, rfl⟩ : ∃ wp : World, wp = wr := ⟨_, rfl⟩
              obtain ⟨i, rfl, hi, HSO, hbp⟩ := hrel
              by_cases hil : i < ps.length
              · obtain ⟨ad', hade, hc0, hc1, hTp⟩ := PolysAt.at (hL5.keep hbp) hil
                obtain rfl : ad = ad' := by simpa using hade
                have HMEM : Hid (ps[i] ∈ ps) := Lib.hid (List.getElem_mem _)
                have HT1 : Hid (ps.take (i + 1) = ps.take i ++ [ps[i]]) := Lib.hid (List.take_succ_eq_append_getElem hil)
                have hvars := HOK.out.vars _ HMEM.out
                have hokp := HOK.out.ok _ HMEM.out
                have hszp := HSZ.out _ HMEM.out
                generalize ps[i] = p at *
                obtain ⟨pv, T, cT, tv⟩ := p
                simp only [PVal.ok] at *
                subst hvars
                have HA2 : Hid (∀ V, Below w5.heap.size w5 V → TermsAt V T tv → Calls Tryz.prog 21 #[.slice (some ⟨w2.heap.size, 0, none⟩) n n, .agg #[.int .i64 n, .slice T tv.length cT]] V fun e w' => Below V.heap.size V w' ∧ ∃ (O : Option Addr) (co : Nat) (ts : List TV), e = .returned (.tuple #[.agg #[.int .i64 n, .slice O ts.length co], .int .i64 0]) ∧ TermsAt w' O ts ∧ ts.map TV.pl = (tv.map TV.pl).map (appT ls)) := Lib.hid (fun V h ht =>
                  apply_ok (some ⟨w2.heap.size, 0, none⟩) n ls n T cT tv V (HI2.out.keep h) ht hszp.1 (fun t ht => by have := hszp.2 t ht; omega) (HTB.out V h) hokp HB1.out HLS.out)
                have HSP := Lib.hid hszp
                have q0 : (0 : Int) ≤ (i : Int) := by omega
                have q1 : (i : Int) < (ps.length : Int) := by omega
                have q3 : ((i : Int)).toNat = i := by omega
                clear hokp hszp
                go_wp2_with (fail)
                refine (HA2.out _ hbp hTp).mono ?_
                rintro e w6 ⟨hb6, O1, co1, ts1, rfl, hT1, hpl1⟩
                have HP1 := Lib.hid hpl1
                clear hpl1
                go_upto_region 17 with (fail)
                obtain ⟨W6, hW6⟩ : ∃ W6, w6.alloc (.cells #[.int .i64 n, .slice O1 ts1.length co1] 36) = W6 := ⟨_, rfl⟩
                have D18 : Blk W6 w6.heap.size 36 #[.int .i64 n, .slice O1 ts1.length co1] := by rw [← hW6]; exact Blk.new _ _ _
                have hb66 : Below w6.heap.size w6 W6 := by rw [← hW6]; exact (Below.refl _ _).alloc (Nat.le_refl _) _
                rw [hW6]
                clear hW6
                have hT1 := hT1.keep hb66
                have hb6 := below_all hb6 hb66
                have hc0 := keep_cell hb6 hc0
                have hc1 := keep_cell hb6 hc1
                have hTp := hTp.keep hb6
                have hb6 := below_all hbp hb6
                obtain ⟨x0, x1, _, _⟩ := D18.two
                obtain ⟨rb, hrb⟩ : ∃ rb : Bool, rb = true ↔ (tv.map TV.pl).map (appT ls) = tv.map TV.pl := by classical exact ⟨decide ((tv.map TV.pl).map (appT ls) = tv.map TV.pl), decide_eq_true_iff⟩
                have HQ : Hid (∀ V, Below W6.heap.size W6 V → Calls Tryz.prog 23 #[.agg #[.int .i64 n, .slice O1 ts1.length co1], .agg #[.int .i64 n, .slice T tv.length cT]] V fun e w' => e = .returned (.bool rb) ∧ Below W6.heap.size W6 w') := Lib.hid (fun V h => by
                  obtain ⟨hl, hsz⟩ := app_sizes HP1.out HSP.out.2
                  exact (polys_any ⟨n, O1, co1, ts1⟩ ⟨n, T, cT, tv⟩ rb V (hT1.keep h) (hTp.keep h) (by simp only [true_and]; rw [HP1.out]; exact hrb) (by have := HSP.out.1; simp only; omega) (by have := HSP.out.1; simp only; omega) (fun t ht => by have := (hsz t ht).2; omega)).mono fun e w' ⟨h1, h2⟩ => ⟨h1, below_all h h2⟩)
                have HRB := Lib.hid hrb
                have hbe : Below W6.heap.size W6 W6.drew := (Below.refl _ _).drew
                clear hT1 hTp D18 hb66 HA2 HP1 hrb
                go_upto_region 19 with (fail)
                cases rb with
                | true =>
                  have HS2 : Hid (∀ p ∈ ps.take (i + 1), (p.tv.map TV.pl).map (appT ls) = p.tv.map TV.pl) := Lib.hid (by
                    rw [HT1.out]
                    intro p hp
                    rcases List.mem_append.1 hp with h | h
                    · exact HSO.out p h
                    · rw [List.mem_singleton.1 h]; exact HRB.out.1 rfl)
                  go_region_held3 (fun w' => w'.cell? ⟨w6.heap.size, 0, none⟩ = some (.int .i64 n) ∧ w'.cell? ⟨w6.heap.size, 1, none⟩ = some (.slice O1 ts1.length co1) ∧ w'.cell? (ad.add (i * 2)) = some (.int .i64 n) ∧ w'.cell? ⟨(ad.add (i * 2)).block, (ad.add (i * 2)).off + 1, none⟩ = some (.slice T tv.length cT))
                    (first | exact ⟨keep_cell hbe x0, keep_cell hbe x1, keep_cell hbe hc0, keep_cell hbe hc1⟩)
                    (first
                      | (go_at_call 23; with_reducible refine Calls.mono (HQ.out _ (by assumption)) ?_; rintro e w' ⟨rfl, hbe⟩))
                  all_goals
                    go_wp2
                    go_roundw
                    case rel => exact ⟨i + 1, by go_num, by omega, HS2, below_all hb6 hbe⟩
                    case measure => simp [intOf]; omega
                | false =>
                  go_region_held3 (fun w' => w'.cell? ⟨w6.heap.size, 0, none⟩ = some (.int .i64 n) ∧ w'.cell? ⟨w6.heap.size, 1, none⟩ = some (.slice O1 ts1.length co1) ∧ w'.cell? (ad.add (i * 2)) = some (.int .i64 n) ∧ w'.cell? ⟨(ad.add (i * 2)).block, (ad.add (i * 2)).off + 1, none⟩ = some (.slice T tv.length cT))
                    (first | exact ⟨keep_cell hbe x0, keep_cell hbe x1, keep_cell hbe hc0, keep_cell hbe hc1⟩)
                    (first
                      | (go_at_call 23; with_reducible refine Calls.mono (HQ.out _ (by assumption)) ?_; rintro e w' ⟨rfl, hbe⟩))
                  all_goals
                    have hbz := below_all hb6 hbe
                    go_wp2_with (fail)
                    refine (awake_any _ (HTB.out _ hbz)).mono ?_
                    rintro e w9 ⟨rfl, hb9⟩
                    go_wp2_with (fail)
                    go_ret
                    exact ⟨rfl, below_all (below_all hbw5 hbz) hb9⟩
              · obtain rfl : i = ps.length := by omega
                have dd : decide (ps.length < ps.length) = false := by simp
                rw [List.take_length] at HSO
                have HUP : Hid (unp (pk ls n) n = ls) := Lib.hid (unp_pk (bit01_iff.1 HB1.out) HLS.out)
                have hXV : V (rowsOf ps) n (pk ls n) := by
                  have hrow : ∀ e ∈ rowsOf ps, e.length = n ∧ oddT (unp (pk ls n) n) e = false := by
                    intro e he
                    obtain ⟨p, hp, he⟩ := List.mem_flatMap.1 he
                    obtain ⟨t, ht, rfl⟩ := List.mem_map.1 he
                    rw [HUP.out]
                    refine ⟨?_, app_same.1 (HSO.out p hp) (TV.pl t) (List.mem_map_of_mem ht)⟩
                    obtain ⟨j, hj, rfl⟩ := List.getElem_of_mem ht
                    have := ((HOK.out.ok p hp).2.1.2.2 j (by simpa using hj) (by simpa using hj)).1
                    rw [List.getElem_map, termOk_iff] at this
                    have h2 := this.2.1
                    rw [HOK.out.vars p hp] at h2
                    simp only [TV.pl] at h2
                    exact_mod_cast h2
                  exact V_odd (by omega) (pk_lt ls n) (fun e he => (hrow e he).1) (fun e he => (hrow e he).2)
                obtain ⟨bb, hbb, hsel⟩ := HCM.out _ hXV
                have HSEL : Hid (unp (selX K bb K.length) n = ls) := Lib.hid (by rw [hsel, HUP.out])
                clear hXV hsel HUP HSO HCM
                go_wp2
                go_loopw [15] (fun s15 wr => ∃ m : Nat, s15 = .int .i64 m ∧ m ≤ bb ∧ Below w5.heap.size w5 wr) (fun s15 _ => 2 ^ K.length - (intOf s15).toNat)
                case atStart => exact ⟨0, rfl, Nat.zero_le _, hbp⟩
                case round =>
                  clear hbp
                  obtain ⟨wq, rfl⟩ : ∃ wq : World, wq = wr := ⟨_, rfl⟩
                  obtain ⟨m, rfl, hm, hbq⟩ := hrel
                  obtain ⟨hw2, h64⟩ := wrap_pow2 K.length hKl
                  have HPW : Hid (bb < 2 ^ K.length) := Lib.hid hbb
                  obtain ⟨N, hN⟩ : ∃ N, 2 ^ K.length = N := ⟨_, rfl⟩
                  rw [hN] at hw2 h64 hbb ⊢
                  clear hN
                  have dN : decide ((m : Int) < (N : Int)) = true := by simp; omega
                  have dN' : decide (m < N) = true := by simp; omega
                  go_upto_region 25 with (fail)
                  obtain ⟨W9, hW9⟩ : ∃ W9, wq.alloc (.cells (madeCells #[.int .i64 0] n) 3) = W9 := ⟨_, rfl⟩
                  have B12 : Blk W9 wq.heap.size 3 (iarr (unp (selX K m 0) n)) := by
                    rw [← hW9]
                    have e : iarr (unp (selX K m 0) n) = madeCells #[.int .i64 0] n := by
                      show iarr (unp 0 n) = _
                      rw [unp_zero, iarr_made]
                    rw [e]
                    exact Blk.new wq 3 _
                  have hb9 : Below wq.heap.size wq W9 := by rw [← hW9]; exact (Below.refl _ _).alloc (Nat.le_refl _) _
                  rw [hW9]
                  try rw [hw2]
                  clear hW9 hw2
                  have hLSq := hLS5.keep hbq
                  go_wp2
                  go_loopw [17] (fun s17 wr => ∃ i : Nat, s17 = .int .i64 i ∧ i ≤ K.length ∧ Blk wr wq.heap.size 3 (iarr (unp (selX K m i) n)) ∧ Below wq.heap.size wq wr) (fun s17 _ => K.length - (intOf s17).toNat)
                  case atStart => exact ⟨0, rfl, Nat.zero_le _, B12, hb9⟩
                  case round =>
                    clear B12 hb9
                    obtain ⟨wo, rfl⟩ : ∃ wo : World, wo = wr := ⟨_, rfl⟩
                    obtain ⟨i, rfl, hi, B12, hbr⟩ := hrel
                    by_cases hil : i < K.length
                    · obtain ⟨bd, E, ce, rfl, hcell, hI⟩ := Lists.at hLSq (k := i) (by rw [List.length_map]; exact hil)
                      simp only [List.getElem_map] at hcell hI
                      have HSX : Hid (selX K m (i + 1) = selX K m i ^^^ (if m.testBit i = true then K[i] else 0)) := Lib.hid (by
                        show selX K m i ^^^ (if m.testBit i = true then K.getD i 0 else 0) = _
                        simp [hil])
                      rw [unp_len] at hcell
                      generalize K[i] = u at *
                      obtain ⟨y, hy⟩ : ∃ y, (if m.testBit i = true then u else 0) = y := ⟨_, rfl⟩
                      rw [hy] at HSX
                      have HY := Lib.hid hy
                      clear hy
                      generalize selX K m i = x at *
                      have hsb := shr_bit m i (by omega)
                      have q0 : (0 : Int) ≤ (i : Int) := by omega
                      have q1 : (i : Int) < (K.length : Int) := by omega
                      have q3 : ((i : Int)).toNat = i := by omega
                      go_wp2
                      go_loopw [18] (fun s18 wx => ∃ k : Nat, s18 = .int .i64 k ∧ k ≤ n ∧ Blk wx wq.heap.size 3 (iarr (mixL x y n k)) ∧ Below wq.heap.size wq wx) (fun s18 _ => n - (intOf s18).toNat)
                      case atStart => exact ⟨0, rfl, Nat.zero_le _, by rw [mixL_zero]; exact B12, hbr⟩
                      case round =>
                        clear B12
                        obtain ⟨wi, rfl⟩ : ∃ wi : World, wi = wr := ⟨_, rfl⟩
                        obtain ⟨k, rfl, hk, B12, hbx⟩ := hrel
                        have hc1 := keep_cell hbx hcell
                        by_cases hkn : k < n
                        · have hml := mixL_len x y (Nat.le_of_lt hkn)
                          have c0 := B12.cell k
                          have f0 := B12.frozen k
                          rw [iarr_at _ (by rw [hml]; exact hkn), mixL_at x y hkn] at c0
                          obtain ⟨ed, rfl, hce⟩ := Ints.at (hI.keep hbx) (k := k) (by rw [unp_len]; exact hkn)
                          have e1 : (unp u n)[k]'(by rw [unp_len]; exact hkn) = if u.testBit k = true then 1 else 0 := by simp [unp]
                          rw [e1] at hce
                          have hst := bit_step (x.testBit k) (u.testBit k) (m.testBit i)
                          have p1 := bit_01 (x.testBit k)
                          have p2 := bit_01 (u.testBit k)
                          have p3 := bit_01 (m.testBit i)
                          have HZ : Hid ((if (x.testBit k ^^ (m.testBit i && u.testBit k)) = true then (1 : Int) else 0) = if (x ^^^ y).testBit k = true then 1 else 0) := Lib.hid (by
                            rw [Nat.testBit_xor, ← HY.out, sel_bit])
                          rw [HZ.out] at hst
                          have HB := Lib.hid B12
                          have HBS : Hid ((mixL x y n k).set k (if (x ^^^ y).testBit k = true then 1 else 0) = mixL x y n (k + 1)) := Lib.hid (mixL_set x y hkn)
                          clear B12 e1
                          generalize (if x.testBit k = true then (1 : Int) else 0) = pv at *
                          generalize (if u.testBit k = true then (1 : Int) else 0) = qv at *
                          generalize (if m.testBit i = true then (1 : Int) else 0) = bv at *
                          generalize (if (x ^^^ y).testBit k = true then (1 : Int) else 0) = zv at *
                          have r0 : (0 : Int) ≤ (k : Int) := by omega
                          have r1 : (k : Int) < (n : Int) := by omega
                          have r3 : ((k : Int)).toNat = k := by omega
                          have hqb : qv * bv = 0 ∨ qv * bv = 1 := by rcases p2 with rfl | rfl <;> rcases p3 with rfl | rfl <;> simp
                          have v1 : wrap64 (qv * bv) = qv * bv := by unfold wrap64; omega
                          have v2 : wrap64 (pv + qv * bv) = pv + qv * bv := by unfold wrap64; omega
                          have v3 : (pv + qv * bv).tmod 2 = zv := by rw [← hst, Int.tmod_eq_emod_of_nonneg (by omega)]
                          have v4 : IntKind.i64.wrap (qv * bv) = qv * bv := IntWalk.i64_in _ (by omega)
                          have v5 : IntKind.i64.wrap (pv + qv * bv) = pv + qv * bv := IntWalk.i64_in _ (by omega)
                          clear hst p1 p2 p3 hqb HZ
                          go_wp2
                          go_still_tail 21, (by kernel_rfl)
                          change wpList _ _ _ _ _ wi.drew
                          go_wp2
                          go_roundw
                          case rel =>
                            have hset := HB.out.drew.set k (.int .i64 zv)
                            rw [iarr_set, HBS.out] at hset
                            exact ⟨k + 1, by go_num, by omega, hset, below_far hbx.drew (Nat.le_refl _) _ _⟩
                          case measure => simp [intOf]; omega
                        · obtain rfl : k = n := by omega
                          have dd : decide (k < k) = false := by simp
                          go_wp2
                          go_roundw
                          case rel =>
                            refine ⟨i + 1, by go_num, by omega, ?_, hbx⟩
                            rw [HSX.out, ← mixL_full x y k]
                            exact B12
                          case measure => simp [intOf]; omega
                    · obtain rfl : i = K.length := by omega
                      have dk : decide (K.length < K.length) = false := by simp
                      have hbo := below_all hbq hbr
                      have HCI : Hid (Calls Tryz.prog 18 #[.slice (some ⟨wq.heap.size, 0, none⟩) n n, .slice (some ⟨w2.heap.size, 0, none⟩) n n] wo fun e w' => e = .returned (.bool (decide (unp (selX K m K.length) n = ls))) ∧ Dr wo w') := Lib.hid (by
                        have := ints_any (some ⟨wq.heap.size, 0, none⟩) (some ⟨w2.heap.size, 0, none⟩) (unp (selX K m K.length) n) ls n n wo (ints_of_blk B12 (by rw [unp_len]; omega)) (HI2.out.keep hbo) (by rw [unp_len]; omega)
                        rwa [unp_len, HLS.out] at this)
                      by_cases heq : unp (selX K m K.length) n = ls
                      · rw [decide_eq_true heq] at HCI
                        clear heq
                        go_wp2_with (go_at_call 18; refine HCI.out.mono ?_; rintro e w7 ⟨rfl, hd7⟩)
                        all_goals
                          have hb7 := below_all hbo hd7.below
                          refine (awake_any _ (HTB.out _ hb7)).mono ?_
                          rintro e w9 ⟨rfl, hb9⟩
                          go_wp2_with (fail)
                          go_ret
                          exact ⟨rfl, below_all (below_all hbw5 hb7) hb9⟩
                      · rw [decide_eq_false heq] at HCI
                        have hmb : m < bb := by
                          rcases Nat.lt_or_ge m bb with h | h
                          · exact h
                          · obtain rfl : m = bb := by omega
                            exact absurd HSEL.out heq
                        clear heq
                        go_wp2_with (go_at_call 18; refine HCI.out.mono ?_; rintro e w7 ⟨rfl, hd7⟩)
                        go_roundw
                        case rel => exact ⟨m + 1, by go_num, by omega, below_all hbo hd7.below⟩
                        case measure => simp [intOf]; omega
  · have HP := Lib.hid (spolys_any L c 3 6 8 ps false w hL (by simp only [Bool.false_eq_true, false_iff]; exact hs) (by omega) (by omega) (by omega))
    clear hs
    go_enter Tryz.func7, Tryz.ntmps7
    go_wp2_with (fail)
    refine HP.out.mono ?_
    rintro e w0 ⟨rfl, hb0⟩
    go_wp2_with (fail)
    refine (awake_any w0 (hT.below hb0 hT.1)).mono ?_
    rintro e w4 ⟨rfl, hb4⟩
    go_wp2_with (fail)
    go_ret
    exact ⟨rfl, below_all hb0 hb4⟩
end Go.Proofs.Tg
end
