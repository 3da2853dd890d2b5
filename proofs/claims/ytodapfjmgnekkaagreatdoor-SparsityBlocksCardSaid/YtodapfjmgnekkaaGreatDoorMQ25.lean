/- Parts of the proof: RS8, RS9. -/
import Derived.Test.YtodapfjmgnekkaaGreatDoorMQ24
section
/- The reference's rounds. -/
namespace Go.Proofs.Tg.Sx
open Go.RowKit Go.Gr Go.Sp Go.Ev Go.Mo Go.Qn Go.Jt
set_option maxHeartbeats 4000000
set_option maxRecDepth 100000
def RetRR16 (K : Nat) (b S : List (List Int)) (hb : b.length ≤ 64) (w : World) (e : Ending) (w' : World) : Prop :=
  ∃ m R c, (rnd b S hb).Final K m ∧ e = .returned (.tuple #[.slice R ((rnd b S hb).B (m - 1)).length c, .int .i64 (m : Nat)]) ∧ Lists w' R ((rnd b S hb).B (m - 1)) ∧ Below w.heap.size w w'
theorem rrounds_any (V : Int) (O : Option Addr) (co : Nat) (ts : List RT) (B : Option Addr) (cb n : Nat) (b : List (List Int)) (nr : Int) (K : Nat) (w : World) (hP : RTermsAt w O ts) (hB : Lists w B b) (hn : n ≤ 6) (hl : ts.length ≤ 4096) (hbl : b.length ≤ 64)
    (hd : ∀ t ∈ ts, domK n 24 t.exps) (hdb : ∀ m ∈ b, domK n 24 m) (hK1 : 1 ≤ K) (hK2 : ∀ k : Nat, k ≤ 66 → (k : Int) = nr → k = K) (hK3 : ∀ k : Nat, k ≤ 66 → (k : Int) ≠ nr → k ≤ K → k + 1 ≤ K) :
    Calls Tryz.prog 44 #[.agg #[.int .i64 V, .slice O ts.length co], .slice B b.length cb, .int .i64 nr] w (RetRR16 K b (S0 (ts.map RT.exps) b) hbl w) := by
  obtain ⟨W, hW⟩ : ∃ W, w.alloc (.cells #[.int .i64 V, .slice O ts.length co] 47) = W := ⟨_, rfl⟩
  have hbA : Below w.heap.size w W := by rw [← hW]; exact (Below.refl _ _).alloc (Nat.le_refl _) _
  have B0 : Blk W w.heap.size 47 #[.int .i64 V, .slice O ts.length co] := by rw [← hW]; exact Blk.new _ _ _
  have HFI := Lib.hid (rfirst_any V O co ts B cb n b W (hP.keep hbA) (hB.keep hbA) hn hl hbl hdb)
  have hsd : ∀ m ∈ S0 (ts.map RT.exps) b, domK n 48 m := fun m hm => by
    have hm : m ∈ (ts.map RT.exps) ++ b.map fun m => addL m m := hm
    rcases List.mem_append.1 hm with h | h
    · obtain ⟨t, ht, rfl⟩ := List.mem_map.1 h
      exact (hd t ht).mono (by omega)
    · obtain ⟨x, hx, rfl⟩ := List.mem_map.1 h
      exact addL_dom (hdb x hx) (hdb x hx)
  have hsl : (S0 (ts.map RT.exps) b).length ≤ 5000 := by
    unfold S0
    rw [List.length_append, List.length_map, List.length_map]; omega
  have hsq : ∀ m ∈ b, addL m m ∈ S0 (ts.map RT.exps) b := s0_sq
  unfold RetRR16
  generalize S0 (ts.map RT.exps) b = S at *
  obtain ⟨RR, hRR⟩ : ∃ RR, rnd b S hbl = RR := ⟨_, rfl⟩
  have HRB : Hid (∀ t, RR.B t = comps b (setAt b S t)) := Lib.hid (fun t => by rw [← hRR]; rfl)
  have HBL : Hid (∀ t, (RR.B t).length ≤ 64 ∧ ∀ l ∈ RR.B t, l.length ≤ 64) := Lib.hid (fun t => by rw [← hRR]; exact B_lens hbl t)
  have HBX : Hid (∀ t, ∀ l ∈ RR.B t, ∀ x ∈ l, ∃ v : Nat, x = (v : Int) ∧ v < b.length) := Lib.hid (fun t l hl => by
    rw [← hRR, rnd_B] at hl
    exact comps_lt (ed_valid b _ hbl) l hl)
  have HNX : Hid (∀ t v, (v ∈ setAt b S t ∨ RBlks b (RR.B t) v) ↔ v ∈ setAt b S (t + 1)) := Lib.hid (fun t v => by
    rw [rblks_full (HBX.out t) (fun m hm => setAt_low (hsq m hm) t), setAt_blks, HRB.out])
  have hBW := hB.keep hbA
  have HTB : Hid (∀ X A ca (s : List (List Int)) t, Below W.heap.size W X → Lists X A s → s.length ≤ 1000000000 → (∀ m ∈ s, m.length ≤ 1000000) → (∀ v, v ∈ s ↔ v ∈ setAt b S t) → Calls Tryz.prog 42 #[.slice A s.length ca, .slice B b.length cb] X fun e w1 => ∃ g, e = .returned (.slice (some ⟨g, 0, none⟩) b.length b.length) ∧ Below X.heap.size X w1 ∧
      Calls Tryz.prog 72 #[.slice (some ⟨g, 0, none⟩) b.length b.length] w1 fun e w' => ∃ (R : Option Addr) (cr base : Nat) (rb : List Rw), e = .returned (.slice R (RR.B t).length cr) ∧ rb.map (fun r => r.2.2) = RR.B t ∧ w1.heap.size ≤ base ∧
        w'.ownsRow base 36 1 (.slice R rb.length cr) rb.length (rb.map cellR) ∧ (∀ w0, RowsK w0 w' base rb) ∧ Below w1.heap.size w1 w') := Lib.hid (fun X A ca s t hX hA h1 h2 h3 => by
    refine (rblocks_any A B ca cb n s b X hA (hBW.keep hX) hn hbl hdb h1 h2).mono ?_
    rintro e w1 ⟨g, rfl, hb1, hp⟩
    refine ⟨g, rfl, hb1, hp.mono ?_⟩
    rintro e w' ⟨R, cr, base, rb, q1, q2, q3, q4, q5, _, q7⟩
    have q2' : rb.map (fun r => r.2.2) = RR.B t := by rw [q2, HRB.out]; exact comps_set h3
    have q8 : rb.length = (RR.B t).length := by rw [← q2', List.length_map]
    exact ⟨R, cr, base, rb, by rw [← q8]; exact q1, q2', q3, q4, q5, q7⟩)
  have HHS : Hid (∀ X A ca (s : List (List Int)) g (m : List Int) q, Lists X A s → s.length ≤ 1000000000 → (∀ v ∈ s, v.length ≤ 1000000) → Blk X g 3 (iarr m) → m.length = n → decide (m ∈ s) = q → Calls Tryz.prog 70 #[.slice A s.length ca, .slice (some ⟨g, 0, none⟩) n n] X fun e w' => e = .returned (.bool q) ∧ Dr X w') := Lib.hid (fun X A ca s g m q h1 h2 h3 h4 h5 h6 => by
    have := rhas_any A (some ⟨g, 0, none⟩) ca n s m q X h1 (Sl.own (base := 0) (by have := own_iarr (b := 0) h4 (by omega) h5 (by omega); rwa [← h5] at this)) h2 h3 h6
    rwa [h5] at this)
  have HM1 : Hid (RR.Fell 0 ∧ RR.Fell 1) := Lib.hid ⟨fun t ht => by omega, fun t ht => by omega⟩
  have HMS : Hid (∀ m, RR.Fell m → 1 ≤ m → (RR.B m).length ≠ (RR.B (m - 1)).length → RR.Fell (m + 1)) := Lib.hid (fun m h1 h2 h3 => RR.fell_succ h1 h2 h3)
  have HML : Hid (∀ m, RR.Fell m → m ≤ 65) := Lib.hid (fun m h => by have := RR.fell_le h; omega)
  have HSL := Lib.hid hsl
  have HBW2 := Lib.hid hBW
  have HSD := Lib.hid hsd
  have HDB := Lib.hid hdb
  have HK2 := Lib.hid hK2
  have HK3 := Lib.hid hK3
  obtain ⟨pv, hpv1, hpv2⟩ : ∃ pv : Nat → List (List Int), pv 1 = [] ∧ ∀ k, 2 ≤ k → pv k = RR.B (k - 2) := ⟨fun k => if k = 1 then [] else RR.B (k - 2), by simp, fun k hk => by show (if k = 1 then [] else RR.B (k - 2)) = _; rw [if_neg (by omega)]⟩
  have HPV := Lib.hid hpv2
  have HP1 := Lib.hid hpv1
  obtain ⟨j0, hj, hjz0, hjz1, hjz2⟩ := info_parts Gx.rows_info
  have HWW := Lib.hid hW
  rw [hRR]
  obtain ⟨c0, c1, _, _⟩ := B0.two
  clear hW hP hB hd hdb hsd hsl hsq hK2 hK3 hpv1 hpv2 hRR hl
  go_enter Tryz.func44, Tryz.ntmps44
  go_upto_region 1 with (fail)
  rw [HWW.out]
  clear HWW
  go_upto_region 2 with (go_at_call 43; refine HFI.out.mono ?_; rintro e w1 ⟨hb1, A, c, rs, hrs, rfl, hown, hK⟩)
  have HST : AdS W none 0 [] w1 A c rs (5000 + 300000 * 0) (fun v => v ∈ setAt b S 0) :=
    ⟨hown, hK, World.ownsRow_nil _ _ _ _, (fun r hr => by cases hr), .inl rfl, hb1, by have := HSL.out; rw [hrs, List.length_map] at this; omega, fun r hr => by
      have := (HSD.out r.2.2 (by rw [hrs]; exact List.mem_map.2 ⟨r, hr, rfl⟩)).1
      omega, fun v => by rw [← hrs]; rfl⟩
  clear hown hK hb1 hrs HFI c0 c1 B0 HSL HSD
  go_wp2
  go_loopw [10, 9, 8] (fun s10 s9 s8 wr => ∃ (k : Nat) (R : Option Addr) (cr : Nat) (rb : List Rw) (A : Option Addr) (ca : Nat) (rs : List Rw), s10 = .int .i64 k ∧ 1 ≤ k ∧ k ≤ K ∧ s9 = .slice R (pv k).length cr ∧ s8 = .slice A rs.length ca ∧ Hid (rb.map (fun r => r.2.2) = pv k) ∧
    AdS W R cr rb wr A ca rs (5000 + 300000 * (k - 1)) (fun v => v ∈ setAt b S (k - 1)) ∧ Hid (RR.Fell (k - 1))) (fun s10 _ _ _ => 1000 - (intOf s10).toNat)
  case atStart => exact ⟨1, none, 0, [], A, c, rs, rfl, by omega, hK1, by rw [HP1.out]; rfl, rfl, Lib.hid (by rw [HP1.out]; rfl), HST, HM1.out.1⟩
  case round =>
    clear HST
    obtain ⟨wo, rfl⟩ : ∃ wo : World, wo = wr := ⟨_, rfl⟩
    obtain ⟨k, R, cr, rb, A, ca, rs, rfl, hk1, hkK, rfl, rfl, HRBK, hA, HF⟩ := hrel
    have hk66 : k ≤ 66 := by have := HML.out _ HF.out; omega
    have hlsl := hA.few
    have HT2 := HTB.out wo A ca (rs.map fun r => r.2.2) (k - 1) hA.below hA.lists (by rw [List.length_map]; omega) (fun m hm => by
      obtain ⟨r, hr, rfl⟩ := List.mem_map.1 hm
      have := hA.dom r hr
      omega) hA.iff
    rw [List.length_map] at HT2
    have HT3 := Lib.hid HT2
    clear HT2
    go_upto_region 6 with (first
      | (go_at_call 42; refine HT3.out.mono ?_; rintro e w2 ⟨g, rfl, hb2, HPT⟩)
      | (go_at_call 72; refine HPT.mono ?_; rintro e w3 ⟨R2, cr2, base, rb2, rfl, hrb2, hbase, hown2, hK2', hb3⟩))
    have hb23 := below_all hb2 hb3
    have hA3 := hA.keep hb23
    have HRL : Hid (rb2.length = (RR.B (k - 1)).length) := Lib.hid (by rw [← hrb2, List.length_map])
    have hbs : W.heap.size ≤ base := by have := hA.below.size; have := hb2.size; omega
    have hdis : (Value.slice R2 rb2.length cr2).ownBlock = none ∨ (Value.slice R2 rb2.length cr2).ownBlock ≠ (Value.slice A rs.length ca).ownBlock := by
      cases hz : (Value.slice R2 rb2.length cr2).ownBlock with
      | none => exact .inl rfl
      | some j =>
        right
        intro e
        have q1 := (hown2.lt j hz).1
        have q2 := (hA.own.lt j e.symm).2
        have := hb2.size
        omega
    have hAN : AdS W R2 cr2 rb2 w3 A ca rs (5000 + 300000 * (k - 1)) (fun v => v ∈ setAt b S (k - 1)) :=
      ⟨hA3.own, hA3.rows, own_base hown2 hbs, (hK2' W).base hbs, hdis, hA3.below, hA.few, hA.dom, hA.iff⟩
    have HRB2 := Lib.hid hrb2
    clear hA hb2 hb3 hb23 hown2 hK2' hdis hrb2 HT3 hbase hbs
    have HKC : Hid ((k = 1 ∨ (RR.B (k - 1)).length ≠ (pv k).length) → RR.Fell k) := Lib.hid (fun h => by
      by_cases h1 : k = 1
      · rw [h1]; exact HM1.out.2
      · have h2 := h.resolve_left h1
        rw [HPV.out k (by omega)] at h2
        have := HMS.out (k - 1) HF.out (by omega) (by rw [show k - 1 - 1 = k - 2 by omega]; exact h2)
        rwa [show k - 1 + 1 = k by omega] at this)
    by_cases hend : 1 < k ∧ (RR.B (k - 1)).length = (pv k).length
    · obtain ⟨he1, he2⟩ := hend
      have g1 : decide ((1 : Int) < (k : Int)) = true := decide_eq_true (by omega)
      have g1' : decide (1 < k) = true := decide_eq_true he1
      have g2 : (((RR.B (k - 1)).length : Int) == ((pv k).length : Int)) = true := by simp [he2]
      have w1' : IntKind.i64.wrap ((k : Int) - 1) = (k : Int) - 1 := IntWalk.i64_in _ (by omega)
      have HFN : Hid (RR.Final K (k - 1)) := Lib.hid ⟨by omega, by omega, HF.out, .inr (by rw [he2, HPV.out k (by omega), show k - 1 - 1 = k - 2 by omega])⟩
      have HEQ := Lib.hid he2
      clear he2
      go_wp2
      go_ret2
      have hBk : RR.B (k - 1 - 1) = pv k := by rw [HPV.out k (by omega), show k - 1 - 1 = k - 2 by omega]
      have hL := hA3.blocks
      rw [HRBK.out] at hL
      refine ⟨k - 1, R, cr, HFN.out, ?_, by rw [hBk]; exact hL, below_all hbA hA3.below⟩
      rw [hBk, show ((k - 1 : Nat) : Int) = (k : Int) - 1 by omega]
      rfl
    · have HFK := Lib.hid (HKC.out (by
        by_cases h1 : k = 1
        · exact .inl h1
        · exact .inr (fun h => hend ⟨by omega, h⟩)))
      have hLs := HBL.out (k - 1)
      have HBX2 := Lib.hid (HBX.out (k - 1))
      have HNX2 : Hid (∀ v, (v ∈ setAt b S (k - 1) ∨ RBlks b (RR.B (k - 1)) v) ↔ v ∈ setAt b S k) := Lib.hid (fun v => by
        have := HNX.out (k - 1) v
        rwa [show k - 1 + 1 = k by omega] at this)
      have HPK : Hid (pv (k + 1) = RR.B (k - 1)) := Lib.hid (by rw [HPV.out (k + 1) (by omega), show k + 1 - 2 = k - 1 by omega])
      have HFIN : Hid ((k : Int) = nr → RR.Final K k) := Lib.hid (fun h => ⟨hk1, hkK, HFK.out, .inl (HK2.out k (by omega) h)⟩)
      have HNXT : Hid ((k : Int) ≠ nr → k + 1 ≤ K) := Lib.hid (fun h => HK3.out k (by omega) h hkK)
      have hk65 := HML.out _ HFK.out
      have gz : (decide ((1 : Int) < (k : Int)) && (((RR.B (k - 1)).length : Int) == ((pv k).length : Int))) = false := by
        rw [Bool.and_eq_false_iff]
        by_cases h1 : 1 < k
        · right
          have : ¬ (RR.B (k - 1)).length = (pv k).length := fun h => hend ⟨h1, h⟩
          simp; omega
        · left
          exact decide_eq_false (by omega)
      have HGZ := Lib.hid gz
      clear gz hend HKC HM1 HMS HF HRBK hA3 HK2 HK3 HBX HNX HTB
      generalize hls : RR.B (k - 1) = ls at *
      have HLS := Lib.hid hls
      clear hls
      generalize setAt b S (k - 1) = T0 at *
      have hA0 : AdS W R2 cr2 rb2 w3 A ca rs (5000 + 300000 * (k - 1) + 4096 * 0) (fun v => v ∈ T0 ∨ RBlks b (ls.take 0) v) := hAN.more (by omega) (fun v => ⟨.inl, fun h => h.elim id (fun h => absurd h rblks_zero)⟩)
      clear hAN
      by_cases hkn : (k : Int) = nr
      all_goals
        have hq : ((k : Int) == nr) = decide ((k : Int) = nr) := by rw [Bool.eq_iff_iff]; simp
      · have HFN := Lib.hid (HFIN.out hkn)
        have hqq : ((k : Int) == nr) = true := by rw [hq]; exact decide_eq_true hkn
        have hL := hA0.blocks
        rw [HRB2.out] at hL
        have hbf := below_all hbA hA0.below
        clear hq hkn HFIN HNXT
        by_cases h1 : 1 < k
        · have g1 : decide ((1 : Int) < (k : Int)) = true := decide_eq_true (by omega)
          have g1' : decide (1 < k) = true := decide_eq_true h1
          have g2 : ((ls.length : Int) == ((pv k).length : Int)) = false := by have := HGZ.out; rwa [g1, Bool.true_and] at this
          clear h1
          go_wp2
          go_ret2
          exact ⟨k, R2, cr2, HFN.out, by rw [HLS.out]; rfl, by rw [HLS.out]; exact hL, hbf⟩
        · have g1 : decide ((1 : Int) < (k : Int)) = false := decide_eq_false (by omega)
          have g1' : decide (1 < k) = false := decide_eq_false h1
          clear h1
          go_wp2
          go_ret2
          exact ⟨k, R2, cr2, HFN.out, by rw [HLS.out]; rfl, by rw [HLS.out]; exact hL, hbf⟩
      · have hkK2 := HNXT.out hkn
        have hqq : ((k : Int) == nr) = false := by rw [hq]; exact decide_eq_false hkn
        clear hq hkn HFIN HNXT
        by_cases h1 : 1 < k
        · have g1 : decide ((1 : Int) < (k : Int)) = true := decide_eq_true (by omega)
          have g1' : decide (1 < k) = true := decide_eq_true h1
          have g2 : ((ls.length : Int) == ((pv k).length : Int)) = false := by have := HGZ.out; rwa [g1, Bool.true_and] at this
          clear h1
          go_wp2
          go_loopw [12, 8] (fun s12 s8 wr => ∃ (i : Nat) (A : Option Addr) (ca : Nat) (rs : List Rw), s12 = .int .i64 i ∧ i ≤ ls.length ∧ s8 = .slice A rs.length ca ∧ AdS W R2 cr2 rb2 wr A ca rs (5000 + 300000 * (k - 1) + 4096 * i) (fun v => v ∈ T0 ∨ RBlks b (ls.take i) v)) (fun s12 _ _ => ls.length - (intOf s12).toNat)
          case atStart => exact ⟨0, A, ca, rs, rfl, Nat.zero_le _, rfl, hA0⟩
          case round =>
            clear hA0
            obtain ⟨wp, rfl⟩ : ∃ wp : World, wp = wr := ⟨_, rfl⟩
            obtain ⟨i, A, ca, rs, rfl, hi, rfl, hA⟩ := hrel
            by_cases hil : i < ls.length
            · have hll := hLs.2 ls[i] (List.getElem_mem _)
              have HLX := Lib.hid (HBX2.out ls[i] (List.getElem_mem _))
              have HRS : Hid (∀ v, (v ∈ T0 ∨ RBlks b (ls.take (i + 1)) v) ↔ (v ∈ T0 ∨ RBlks b (ls.take i) v) ∨ RB b ls[i] ls[i].length 0 v) := Lib.hid (fun v => by rw [rblks_succ hil]; exact or_assoc.symm)
              have HGI : Hid (ls[i]? = some ls[i]) := Lib.hid (List.getElem?_eq_getElem hil)
              obtain ⟨Q, hQ⟩ : ∃ Q : List Int → Prop, ∀ v, Q v ↔ (v ∈ T0 ∨ RBlks b (ls.take i) v) := ⟨_, fun v => Iff.rfl⟩
              have hA1 : AdS W R2 cr2 rb2 wp A ca rs (5000 + 300000 * (k - 1) + 4096 * i + 64 * 0) (fun v => Q v ∨ RB b ls[i] 0 0 v) := hA.more (by omega) (fun v => by rw [hQ]; exact ⟨.inl, fun h => h.elim id (fun h => absurd h rb_zero)⟩)
              have HQ := Lib.hid hQ
              have HCELL : Hid (∀ X A ca rs bd P, AdS W R2 cr2 rb2 X A ca rs bd P → ∃ rd L cl, R2 = some rd ∧ X.cell? (rd.add i) = some (.slice L ls[i].length cl) ∧ Ints X L ls[i]) := Lib.hid (fun X A ca rs bd P h => by
                have h2 := h.blocks
                rw [HRB2.out] at h2
                obtain ⟨rd, L, cl, q1, q2, q3⟩ := h2.at hil
                exact ⟨rd, L, cl, q1, q2, q3⟩)
              generalize ls[i] = l at *
              clear hA hQ HGI
              have ip0 : (0 : Int) ≤ (i : Int) := by omega
              have ip1 : (i : Int) < (ls.length : Int) := by omega
              have ip3 : ((i : Int)).toNat = i := by omega
              have wi : IntKind.i64.wrap ((i : Int) + 1) = (i : Int) + 1 := IntWalk.i64_in _ (by omega)
              go_wp2
              go_loopw [13, 8] (fun s13 s8 wr => ∃ (a : Nat) (A : Option Addr) (ca : Nat) (rs : List Rw), s13 = .int .i64 a ∧ a ≤ l.length ∧ s8 = .slice A rs.length ca ∧ AdS W R2 cr2 rb2 wr A ca rs (5000 + 300000 * (k - 1) + 4096 * i + 64 * a) (fun v => Q v ∨ RB b l a 0 v)) (fun s13 _ _ => l.length - (intOf s13).toNat)
              case atStart => exact ⟨0, A, ca, rs, rfl, Nat.zero_le _, rfl, hA1⟩
              case round =>
                clear hA1
                obtain ⟨wq, rfl⟩ : ∃ wq : World, wq = wr := ⟨_, rfl⟩
                obtain ⟨a, A, ca, rs, rfl, ha, rfl, hA⟩ := hrel
                obtain ⟨rd, L, cl, rfl, hcl, hIL⟩ := HCELL.out wq A ca rs _ _ hA
                by_cases hal : a < l.length
                · obtain ⟨x, hx, hxl⟩ := HLX.out l[a] (List.getElem_mem _)
                  have HGA : Hid (b.getD (l.getD a 0).toNat [] = b[x]) := Lib.hid (by
                    rw [show l.getD a 0 = (x : Int) by simp [hal, hx], Int.toNat_natCast]; simp [hxl])
                  have hdx := HDB.out b[x] (List.getElem_mem _)
                  have HXA := Lib.hid hx
                  have wa : IntKind.i64.wrap ((a : Int) + 1) = (a : Int) + 1 := IntWalk.i64_in _ (by omega)
                  clear hx
                  go_wp2
                  clear hcl hIL
                  go_loopw [14, 8] (fun s14 s8 wr => ∃ (c : Nat) (A : Option Addr) (ca : Nat) (rs : List Rw), s14 = .int .i64 c ∧ c ≤ a ∧ s8 = .slice A rs.length ca ∧ AdS W (some rd) cr2 rb2 wr A ca rs (5000 + 300000 * (k - 1) + 4096 * i + 64 * a + c) (fun v => Q v ∨ RB b l a c v)) (fun s14 _ _ => a - (intOf s14).toNat)
                  case atStart => exact ⟨0, A, ca, rs, rfl, Nat.zero_le _, rfl, hA.more (by omega) (fun v => Iff.rfl)⟩
                  case round =>
                    clear hA
                    obtain ⟨wz, rfl⟩ : ∃ wz : World, wz = wr := ⟨_, rfl⟩
                    obtain ⟨c, A, ca, rs, rfl, hc, rfl, hA⟩ := hrel
                    by_cases hcl' : c < a
                    · have hclen : c < l.length := by omega
                      obtain ⟨y, hy, hyl⟩ := HLX.out l[c] (List.getElem_mem _)
                      have hdy := HDB.out b[y] (List.getElem_mem _)
                      obtain ⟨rd2, L, cl, he, hcl, hIL⟩ := HCELL.out wz A ca rs _ _ hA
                      injection he with he
                      subst he
                      obtain ⟨Ld, rfl, hca⟩ := Ints.at hIL hal
                      obtain ⟨Ld2, he, hcc⟩ := Ints.at hIL hclen
                      injection he with he
                      subst he
                      rw [HXA.out] at hca
                      rw [hy] at hcc
                      obtain ⟨bd, E1, c1, rfl, hbx, hI1⟩ := (HBW2.out.keep hA.below).at hxl
                      obtain ⟨bd2, E2, c2, he, hby, hI2⟩ := (HBW2.out.keep hA.below).at hyl
                      injection he with he
                      subst he
                      have HRBS : Hid (∀ v, ((Q v ∨ RB b l a c v) ∨ v = addL b[x] b[y]) ↔ (Q v ∨ RB b l a (c + 1) v)) := Lib.hid (fun v => by
                        have h := rb_succ (b := b) (v := v) hcl' hal
                        rw [HGA.out, show l.getD c 0 = (y : Int) by simp [hclen, hy], Int.toNat_natCast, show b.getD y [] = b[y] by simp [hyl]] at h
                        rw [h]; exact or_assoc)
                      have HSL : Hid ((addL b[x] b[y]).length = n) := Lib.hid (addL_dom hdx hdy).1
                      have HPR : Hid (∀ X, Below wz.heap.size wz X → Calls Tryz.prog 71 #[.slice E1 b[x].length c1, .slice E2 b[y].length c2] X fun e w' => ∃ g, e = .returned (.slice (some ⟨g, 0, none⟩) n n) ∧ wz.heap.size ≤ g ∧ Blk w' g 3 (iarr (addL b[x] b[y])) ∧ Below wz.heap.size wz w') := Lib.hid (fun X h =>
                        (rprod_any E1 E2 c1 c2 n b[x] b[y] X (hI1.keep h) (hI2.keep h) hdx hdy hn).mono fun e w' h2 => ⟨X.heap.size, h2.1, h.size, h2.2.1, below_all h h2.2.2⟩)
                      have hA2 := Lib.hid hA
                      have hfew := hA.few
                      have hWz := hA.below.size
                      clear hA hI1 hI2 hIL hdy hy
                      generalize addL b[x] b[y] = xy at *
                      generalize b[y] = by' at *
                      obtain ⟨bx, hbxe⟩ : ∃ bx, b[x] = bx := ⟨_, rfl⟩
                      rw [hbxe] at hbx HPR
                      clear hbxe
                      have ap0 : (0 : Int) ≤ (a : Int) := by omega
                      have ap1 : (a : Int) < (l.length : Int) := by omega
                      have ap3 : ((a : Int)).toNat = a := by omega
                      have cp0 : (0 : Int) ≤ (c : Int) := by omega
                      have cp1 : (c : Int) < (l.length : Int) := by omega
                      have cp3 : ((c : Int)).toNat = c := by omega
                      have xp0 : (0 : Int) ≤ (x : Int) := by omega
                      have xp1 : (x : Int) < (b.length : Int) := by omega
                      have xp3 : ((x : Int)).toNat = x := by omega
                      have yp0 : (0 : Int) ≤ (y : Int) := by omega
                      have yp1 : (y : Int) < (b.length : Int) := by omega
                      have yp3 : ((y : Int)).toNat = y := by omega
                      have hbe : Below wz.heap.size wz wz.drew := (Below.refl _ _).drew
                      go_upto_region 20 with (fail)
                      go_region_held3 (fun w' => w'.cell? (rd.add i) = some (.slice (some Ld) l.length cl) ∧ w'.cell? (Ld.add a) = some (.int .i64 x) ∧ w'.cell? (Ld.add c) = some (.int .i64 y) ∧ w'.cell? (bd.add x) = some (.slice E1 bx.length c1) ∧ w'.cell? (bd.add y) = some (.slice E2 by'.length c2))
                        (first | exact ⟨keep_cell hbe hcl, keep_cell hbe hca, keep_cell hbe hcc, keep_cell hbe hbx, keep_cell hbe hby⟩)
                        (first
                          | (go_at_call 71; with_reducible refine Calls.mono (HPR.out _ (by assumption)) ?_; rintro e w5 ⟨g5, rfl, hg5, hG5, hb5⟩
                             have hbe := hb5))
                      all_goals
                        have hA5 := hA2.out.keep hb5
                        have hWg : W.heap.size ≤ g5 := by omega
                        clear hcl hca hcc hbx hby HPR hA2 hbe
                        obtain ⟨q, hq⟩ : ∃ q : Bool, decide (xy ∈ rs.map fun r => r.2.2) = q := ⟨_, rfl⟩
                        have HHQ := HHS.out w5 A ca (rs.map fun r => r.2.2) g5 xy q hA5.lists (by rw [List.length_map]; omega) (fun v hv => by
                          obtain ⟨r, hr, rfl⟩ := List.mem_map.1 hv
                          have := hA5.dom r hr
                          omega) hG5 HSL.out hq
                        rw [List.length_map] at HHQ
                        have HHQ := Lib.hid HHQ
                        have wc : IntKind.i64.wrap ((c : Int) + 1) = (c : Int) + 1 := IntWalk.i64_in _ (by omega)
                        cases q with
                        | true =>
                          have hin := of_decide_eq_true hq
                          clear hq
                          go_wp2_with (go_at_call 70; refine HHQ.out.mono ?_; rintro e w6 ⟨rfl, hd6⟩)
                          have hA6 : AdS W (some rd) cr2 rb2 w6 A ca rs (5000 + 300000 * (k - 1) + 4096 * i + 64 * a + (c + 1)) (fun v => Q v ∨ RB b l a (c + 1) v) := (hA5.keep hd6.below).more (by omega) (fun v => by
                            rw [← HRBS.out v]
                            exact ⟨.inl, fun h => h.elim id (fun h => by rw [h]; exact (hA5.iff xy).1 hin)⟩)
                          go_roundw
                          case rel => exact ⟨c + 1, A, ca, rs, by go_num, by omega, rfl, hA6⟩
                          case measure => simp [intOf]; omega
                        | false =>
                          clear hq
                          go_upto_region 22 with (go_at_call 70; refine HHQ.out.mono ?_; rintro e w6 ⟨rfl, hd6⟩)
                          have hA6 := hA5.keep hd6.below
                          have hG6 := hG5.keep hd6.below hG5.lt
                          have HNW := Lib.hid (cells_new w6 36 [.slice (some ⟨g5, 0, none⟩) n n])
                          have hs6 := hA6.below.size
                          clear hA5 hG5
                          go_wp2_with (at_builtin; go_must (refine wpList_append_lies _ rfl _ _ 25 rfl W.heap.size 36 j0 _ 1 24 Tryz.underlying25 hj hjz0 hjz1 hjz2 rfl (by decide) (.slice A rs.length ca) rs.length (rs.map cellR) rfl (hA6.own.alloc _) ⟨w6.heap.size, 0, none⟩ 1 1 [.slice (some ⟨g5, 0, none⟩) n n] rfl rfl HNW.out (by simp [Value.oneCell']) (by omega) (by simp only [maxLen]; omega) (by omega) (by simp; omega) (w6.heap.size + 1) (by simp) ?_)
                                       intro g2 cap w7 hown7 hg7 hloc _)
                          have hA7 := (hA6.snoc hG6 hWg HSL.out hn hown7 hg7 (by simpa using hloc)).more (show 5000 + 300000 * (k - 1) + 4096 * i + 64 * a + c + 1 ≤ 5000 + 300000 * (k - 1) + 4096 * i + 64 * a + (c + 1) by omega) (fun v => HRBS.out v)
                          go_roundw
                          case rel => exact ⟨c + 1, some ⟨g2, 0, none⟩, cap, _, by go_num, by omega, by simp, hA7⟩
                          case measure => simp [intOf]; omega
                    · obtain rfl : c = a := by omega
                      have dk : decide ((c : Int) < (c : Int)) = false := by simp
                      have hA3 : AdS W (some rd) cr2 rb2 wz A ca rs (5000 + 300000 * (k - 1) + 4096 * i + 64 * (c + 1)) (fun v => Q v ∨ RB b l (c + 1) 0 v) := hA.more (by omega) (fun v => by rw [rb_row])
                      clear hA
                      go_wp2
                      go_roundw
                      case rel => exact ⟨c + 1, A, ca, rs, by go_num, by omega, rfl, hA3⟩
                      case measure => simp [intOf]; omega
                · obtain rfl : a = l.length := by omega
                  have dk : decide ((l.length : Int) < (l.length : Int)) = false := by simp
                  have hA3 : AdS W (some rd) cr2 rb2 wq A ca rs (5000 + 300000 * (k - 1) + 4096 * (i + 1)) (fun v => v ∈ T0 ∨ RBlks b (ls.take (i + 1)) v) := hA.more (by omega) (fun v => by rw [HQ.out]; exact (HRS.out v).symm)
                  clear hA
                  go_wp2
                  go_roundw
                  case rel => exact ⟨i + 1, A, ca, rs, by go_num, by omega, rfl, hA3⟩
                  case measure => simp [intOf]; omega
            · obtain rfl : i = ls.length := by omega
              have dk : decide ((ls.length : Int) < (ls.length : Int)) = false := by simp
              have hA3 : AdS W R2 cr2 rb2 wp A ca rs (5000 + 300000 * k) (fun v => v ∈ setAt b S k) := hA.more (by omega) (fun v => by rw [List.take_length]; exact HNX2.out v)
              clear hA
              have wk : IntKind.i64.wrap ((k : Int) + 1) = (k : Int) + 1 := IntWalk.i64_in _ (by omega)
              go_wp2
              go_roundw
              case rel => exact ⟨k + 1, R2, cr2, rb2, A, ca, rs, by go_num, by omega, hkK2, by rw [HPK.out], rfl, Lib.hid (by rw [HPK.out]; exact HRB2.out), by rw [show k + 1 - 1 = k by omega]; exact hA3, Lib.hid (by rw [show k + 1 - 1 = k by omega]; exact HFK.out)⟩
              case measure => simp [intOf]; omega
        · have g1 : decide ((1 : Int) < (k : Int)) = false := decide_eq_false (by omega)
          have g1' : decide (1 < k) = false := decide_eq_false h1
          clear h1
          go_wp2
          go_loopw [12, 8] (fun s12 s8 wr => ∃ (i : Nat) (A : Option Addr) (ca : Nat) (rs : List Rw), s12 = .int .i64 i ∧ i ≤ ls.length ∧ s8 = .slice A rs.length ca ∧ AdS W R2 cr2 rb2 wr A ca rs (5000 + 300000 * (k - 1) + 4096 * i) (fun v => v ∈ T0 ∨ RBlks b (ls.take i) v)) (fun s12 _ _ => ls.length - (intOf s12).toNat)
          case atStart => exact ⟨0, A, ca, rs, rfl, Nat.zero_le _, rfl, hA0⟩
          case round =>
            clear hA0
            obtain ⟨wp, rfl⟩ : ∃ wp : World, wp = wr := ⟨_, rfl⟩
            obtain ⟨i, A, ca, rs, rfl, hi, rfl, hA⟩ := hrel
            by_cases hil : i < ls.length
            · have hll := hLs.2 ls[i] (List.getElem_mem _)
              have HLX := Lib.hid (HBX2.out ls[i] (List.getElem_mem _))
              have HRS : Hid (∀ v, (v ∈ T0 ∨ RBlks b (ls.take (i + 1)) v) ↔ (v ∈ T0 ∨ RBlks b (ls.take i) v) ∨ RB b ls[i] ls[i].length 0 v) := Lib.hid (fun v => by rw [rblks_succ hil]; exact or_assoc.symm)
              have HGI : Hid (ls[i]? = some ls[i]) := Lib.hid (List.getElem?_eq_getElem hil)
              obtain ⟨Q, hQ⟩ : ∃ Q : List Int → Prop, ∀ v, Q v ↔ (v ∈ T0 ∨ RBlks b (ls.take i) v) := ⟨_, fun v => Iff.rfl⟩
              have hA1 : AdS W R2 cr2 rb2 wp A ca rs (5000 + 300000 * (k - 1) + 4096 * i + 64 * 0) (fun v => Q v ∨ RB b ls[i] 0 0 v) := hA.more (by omega) (fun v => by rw [hQ]; exact ⟨.inl, fun h => h.elim id (fun h => absurd h rb_zero)⟩)
              have HQ := Lib.hid hQ
              have HCELL : Hid (∀ X A ca rs bd P, AdS W R2 cr2 rb2 X A ca rs bd P → ∃ rd L cl, R2 = some rd ∧ X.cell? (rd.add i) = some (.slice L ls[i].length cl) ∧ Ints X L ls[i]) := Lib.hid (fun X A ca rs bd P h => by
                have h2 := h.blocks
                rw [HRB2.out] at h2
                obtain ⟨rd, L, cl, q1, q2, q3⟩ := h2.at hil
                exact ⟨rd, L, cl, q1, q2, q3⟩)
              generalize ls[i] = l at *
              clear hA hQ HGI
              have ip0 : (0 : Int) ≤ (i : Int) := by omega
              have ip1 : (i : Int) < (ls.length : Int) := by omega
              have ip3 : ((i : Int)).toNat = i := by omega
              have wi : IntKind.i64.wrap ((i : Int) + 1) = (i : Int) + 1 := IntWalk.i64_in _ (by omega)
              go_wp2
              go_loopw [13, 8] (fun s13 s8 wr => ∃ (a : Nat) (A : Option Addr) (ca : Nat) (rs : List Rw), s13 = .int .i64 a ∧ a ≤ l.length ∧ s8 = .slice A rs.length ca ∧ AdS W R2 cr2 rb2 wr A ca rs (5000 + 300000 * (k - 1) + 4096 * i + 64 * a) (fun v => Q v ∨ RB b l a 0 v)) (fun s13 _ _ => l.length - (intOf s13).toNat)
              case atStart => exact ⟨0, A, ca, rs, rfl, Nat.zero_le _, rfl, hA1⟩
              case round =>
                clear hA1
                obtain ⟨wq, rfl⟩ : ∃ wq : World, wq = wr := ⟨_, rfl⟩
                obtain ⟨a, A, ca, rs, rfl, ha, rfl, hA⟩ := hrel
                obtain ⟨rd, L, cl, rfl, hcl, hIL⟩ := HCELL.out wq A ca rs _ _ hA
                by_cases hal : a < l.length
                · obtain ⟨x, hx, hxl⟩ := HLX.out l[a] (List.getElem_mem _)
                  have HGA : Hid (b.getD (l.getD a 0).toNat [] = b[x]) := Lib.hid (by
                    rw [show l.getD a 0 = (x : Int) by simp [hal, hx], Int.toNat_natCast]; simp [hxl])
                  have hdx := HDB.out b[x] (List.getElem_mem _)
                  have HXA := Lib.hid hx
                  have wa : IntKind.i64.wrap ((a : Int) + 1) = (a : Int) + 1 := IntWalk.i64_in _ (by omega)
                  clear hx
                  go_wp2
                  clear hcl hIL
                  go_loopw [14, 8] (fun s14 s8 wr => ∃ (c : Nat) (A : Option Addr) (ca : Nat) (rs : List Rw), s14 = .int .i64 c ∧ c ≤ a ∧ s8 = .slice A rs.length ca ∧ AdS W (some rd) cr2 rb2 wr A ca rs (5000 + 300000 * (k - 1) + 4096 * i + 64 * a + c) (fun v => Q v ∨ RB b l a c v)) (fun s14 _ _ => a - (intOf s14).toNat)
                  case atStart => exact ⟨0, A, ca, rs, rfl, Nat.zero_le _, rfl, hA.more (by omega) (fun v => Iff.rfl)⟩
                  case round =>
                    clear hA
                    obtain ⟨wz, rfl⟩ : ∃ wz : World, wz = wr := ⟨_, rfl⟩
                    obtain ⟨c, A, ca, rs, rfl, hc, rfl, hA⟩ := hrel
                    by_cases hcl' : c < a
                    · have hclen : c < l.length := by omega
                      obtain ⟨y, hy, hyl⟩ := HLX.out l[c] (List.getElem_mem _)
                      have hdy := HDB.out b[y] (List.getElem_mem _)
                      obtain ⟨rd2, L, cl, he, hcl, hIL⟩ := HCELL.out wz A ca rs _ _ hA
                      injection he with he
                      subst he
                      obtain ⟨Ld, rfl, hca⟩ := Ints.at hIL hal
                      obtain ⟨Ld2, he, hcc⟩ := Ints.at hIL hclen
                      injection he with he
                      subst he
                      rw [HXA.out] at hca
                      rw [hy] at hcc
                      obtain ⟨bd, E1, c1, rfl, hbx, hI1⟩ := (HBW2.out.keep hA.below).at hxl
                      obtain ⟨bd2, E2, c2, he, hby, hI2⟩ := (HBW2.out.keep hA.below).at hyl
                      injection he with he
                      subst he
                      have HRBS : Hid (∀ v, ((Q v ∨ RB b l a c v) ∨ v = addL b[x] b[y]) ↔ (Q v ∨ RB b l a (c + 1) v)) := Lib.hid (fun v => by
                        have h := rb_succ (b := b) (v := v) hcl' hal
                        rw [HGA.out, show l.getD c 0 = (y : Int) by simp [hclen, hy], Int.toNat_natCast, show b.getD y [] = b[y] by simp [hyl]] at h
                        rw [h]; exact or_assoc)
                      have HSL : Hid ((addL b[x] b[y]).length = n) := Lib.hid (addL_dom hdx hdy).1
                      have HPR : Hid (∀ X, Below wz.heap.size wz X → Calls Tryz.prog 71 #[.slice E1 b[x].length c1, .slice E2 b[y].length c2] X fun e w' => ∃ g, e = .returned (.slice (some ⟨g, 0, none⟩) n n) ∧ wz.heap.size ≤ g ∧ Blk w' g 3 (iarr (addL b[x] b[y])) ∧ Below wz.heap.size wz w') := Lib.hid (fun X h =>
                        (rprod_any E1 E2 c1 c2 n b[x] b[y] X (hI1.keep h) (hI2.keep h) hdx hdy hn).mono fun e w' h2 => ⟨X.heap.size, h2.1, h.size, h2.2.1, below_all h h2.2.2⟩)
                      have hA2 := Lib.hid hA
                      have hfew := hA.few
                      have hWz := hA.below.size
                      clear hA hI1 hI2 hIL hdy hy
                      generalize addL b[x] b[y] = xy at *
                      generalize b[y] = by' at *
                      obtain ⟨bx, hbxe⟩ : ∃ bx, b[x] = bx := ⟨_, rfl⟩
                      rw [hbxe] at hbx HPR
                      clear hbxe
                      have ap0 : (0 : Int) ≤ (a : Int) := by omega
                      have ap1 : (a : Int) < (l.length : Int) := by omega
                      have ap3 : ((a : Int)).toNat = a := by omega
                      have cp0 : (0 : Int) ≤ (c : Int) := by omega
                      have cp1 : (c : Int) < (l.length : Int) := by omega
                      have cp3 : ((c : Int)).toNat = c := by omega
                      have xp0 : (0 : Int) ≤ (x : Int) := by omega
                      have xp1 : (x : Int) < (b.length : Int) := by omega
                      have xp3 : ((x : Int)).toNat = x := by omega
                      have yp0 : (0 : Int) ≤ (y : Int) := by omega
                      have yp1 : (y : Int) < (b.length : Int) := by omega
                      have yp3 : ((y : Int)).toNat = y := by omega
                      have hbe : Below wz.heap.size wz wz.drew := (Below.refl _ _).drew
                      go_upto_region 20 with (fail)
                      go_region_held3 (fun w' => w'.cell? (rd.add i) = some (.slice (some Ld) l.length cl) ∧ w'.cell? (Ld.add a) = some (.int .i64 x) ∧ w'.cell? (Ld.add c) = some (.int .i64 y) ∧ w'.cell? (bd.add x) = some (.slice E1 bx.length c1) ∧ w'.cell? (bd.add y) = some (.slice E2 by'.length c2))
                        (first | exact ⟨keep_cell hbe hcl, keep_cell hbe hca, keep_cell hbe hcc, keep_cell hbe hbx, keep_cell hbe hby⟩)
                        (first
                          | (go_at_call 71; with_reducible refine Calls.mono (HPR.out _ (by assumption)) ?_; rintro e w5 ⟨g5, rfl, hg5, hG5, hb5⟩
                             have hbe := hb5))
                      all_goals
                        have hA5 := hA2.out.keep hb5
                        have hWg : W.heap.size ≤ g5 := by omega
                        clear hcl hca hcc hbx hby HPR hA2 hbe
                        obtain ⟨q, hq⟩ : ∃ q : Bool, decide (xy ∈ rs.map fun r => r.2.2) = q := ⟨_, rfl⟩
                        have HHQ := HHS.out w5 A ca (rs.map fun r => r.2.2) g5 xy q hA5.lists (by rw [List.length_map]; omega) (fun v hv => by
                          obtain ⟨r, hr, rfl⟩ := List.mem_map.1 hv
                          have := hA5.dom r hr
                          omega) hG5 HSL.out hq
                        rw [List.length_map] at HHQ
                        have HHQ := Lib.hid HHQ
                        have wc : IntKind.i64.wrap ((c : Int) + 1) = (c : Int) + 1 := IntWalk.i64_in _ (by omega)
                        cases q with
                        | true =>
                          have hin := of_decide_eq_true hq
                          clear hq
                          go_wp2_with (go_at_call 70; refine HHQ.out.mono ?_; rintro e w6 ⟨rfl, hd6⟩)
                          have hA6 : AdS W (some rd) cr2 rb2 w6 A ca rs (5000 + 300000 * (k - 1) + 4096 * i + 64 * a + (c + 1)) (fun v => Q v ∨ RB b l a (c + 1) v) := (hA5.keep hd6.below).more (by omega) (fun v => by
                            rw [← HRBS.out v]
                            exact ⟨.inl, fun h => h.elim id (fun h => by rw [h]; exact (hA5.iff xy).1 hin)⟩)
                          go_roundw
                          case rel => exact ⟨c + 1, A, ca, rs, by go_num, by omega, rfl, hA6⟩
                          case measure => simp [intOf]; omega
                        | false =>
                          clear hq
                          go_upto_region 22 with (go_at_call 70; refine HHQ.out.mono ?_; rintro e w6 ⟨rfl, hd6⟩)
                          have hA6 := hA5.keep hd6.below
                          have hG6 := hG5.keep hd6.below hG5.lt
                          have HNW := Lib.hid (cells_new w6 36 [.slice (some ⟨g5, 0, none⟩) n n])
                          have hs6 := hA6.below.size
                          clear hA5 hG5
                          go_wp2_with (at_builtin; go_must (refine wpList_append_lies _ rfl _ _ 25 rfl W.heap.size 36 j0 _ 1 24 Tryz.underlying25 hj hjz0 hjz1 hjz2 rfl (by decide) (.slice A rs.length ca) rs.length (rs.map cellR) rfl (hA6.own.alloc _) ⟨w6.heap.size, 0, none⟩ 1 1 [.slice (some ⟨g5, 0, none⟩) n n] rfl rfl HNW.out (by simp [Value.oneCell']) (by omega) (by simp only [maxLen]; omega) (by omega) (by simp; omega) (w6.heap.size + 1) (by simp) ?_)
                                       intro g2 cap w7 hown7 hg7 hloc _)
                          have hA7 := (hA6.snoc hG6 hWg HSL.out hn hown7 hg7 (by simpa using hloc)).more (show 5000 + 300000 * (k - 1) + 4096 * i + 64 * a + c + 1 ≤ 5000 + 300000 * (k - 1) + 4096 * i + 64 * a + (c + 1) by omega) (fun v => HRBS.out v)
                          go_roundw
                          case rel => exact ⟨c + 1, some ⟨g2, 0, none⟩, cap, _, by go_num, by omega, by simp, hA7⟩
                          case measure => simp [intOf]; omega
                    · obtain rfl : c = a := by omega
                      have dk : decide ((c : Int) < (c : Int)) = false := by simp
                      have hA3 : AdS W (some rd) cr2 rb2 wz A ca rs (5000 + 300000 * (k - 1) + 4096 * i + 64 * (c + 1)) (fun v => Q v ∨ RB b l (c + 1) 0 v) := hA.more (by omega) (fun v => by rw [rb_row])
                      clear hA
                      go_wp2
                      go_roundw
                      case rel => exact ⟨c + 1, A, ca, rs, by go_num, by omega, rfl, hA3⟩
                      case measure => simp [intOf]; omega
                · obtain rfl : a = l.length := by omega
                  have dk : decide ((l.length : Int) < (l.length : Int)) = false := by simp
                  have hA3 : AdS W (some rd) cr2 rb2 wq A ca rs (5000 + 300000 * (k - 1) + 4096 * (i + 1)) (fun v => v ∈ T0 ∨ RBlks b (ls.take (i + 1)) v) := hA.more (by omega) (fun v => by rw [HQ.out]; exact (HRS.out v).symm)
                  clear hA
                  go_wp2
                  go_roundw
                  case rel => exact ⟨i + 1, A, ca, rs, by go_num, by omega, rfl, hA3⟩
                  case measure => simp [intOf]; omega
            · obtain rfl : i = ls.length := by omega
              have dk : decide ((ls.length : Int) < (ls.length : Int)) = false := by simp
              have hA3 : AdS W R2 cr2 rb2 wp A ca rs (5000 + 300000 * k) (fun v => v ∈ setAt b S k) := hA.more (by omega) (fun v => by rw [List.take_length]; exact HNX2.out v)
              clear hA
              have wk : IntKind.i64.wrap ((k : Int) + 1) = (k : Int) + 1 := IntWalk.i64_in _ (by omega)
              go_wp2
              go_roundw
              case rel => exact ⟨k + 1, R2, cr2, rb2, A, ca, rs, by go_num, by omega, hkK2, by rw [HPK.out], rfl, Lib.hid (by rw [HPK.out]; exact HRB2.out), by rw [show k + 1 - 1 = k by omega]; exact hA3, Lib.hid (by rw [show k + 1 - 1 = k by omega]; exact HFK.out)⟩
              case measure => simp [intOf]; omega
end Go.Proofs.Tg.Sx
end
section
/- The reference's Blocks and Stable. -/
namespace Go.Proofs.Tg.Sx
open Go.RowKit Go.Gr Go.Sp Go.Ev Go.Mo Go.Qn Go.Jt
set_option maxHeartbeats 4000000
set_option maxRecDepth 100000
theorem rrounds_p (p : PVal) (B : Option Addr) (cb : Nat) (b : List (List Int)) (ok : Bool) (w : World) (hB : Lists w B b) (hbl : b.length ≤ 64) (hok : ok = true ↔ p.ok) (he : errS ok p.vars b = 0) (V : World) (hV : Below w.heap.size w V) (O : Option Addr) (co : Nat) (ts : List RT) (hR : RTermsAt V O ts) (hc : ts.map RT.core = p.tv.map TV.core)
    (nr : Int) (K : Nat) (hK1 : 1 ≤ K) (hK2 : ∀ k : Nat, k ≤ 66 → (k : Int) = nr → k = K) (hK3 : ∀ k : Nat, k ≤ 66 → (k : Int) ≠ nr → k ≤ K → k + 1 ≤ K) :
    Calls Tryz.prog 44 #[.agg #[.int .i64 p.vars, .slice O ts.length co], .slice B b.length cb, .int .i64 nr] V (RetRR16 K b (kn p b) hbl V) := by
  obtain ⟨n, hv, h6, hl, hd, hdb, _⟩ := dom_of hok he
  have hcl := core_len hc
  have hex := core_exps hc
  have hd2 : ∀ t ∈ ts, domK n 24 t.exps := fun t ht => by
    have h1 : t.exps ∈ ts.map RT.exps := List.mem_map.2 ⟨t, ht, rfl⟩
    rw [hex] at h1
    obtain ⟨t', ht', e⟩ := List.mem_map.1 h1
    rw [← e]
    exact hd t' ht'
  have := rrounds_any p.vars O co ts B cb n b nr K V hR (hB.keep hV) h6 (by omega) hbl hd2 hdb hK1 hK2 hK3
  rw [hex] at this
  exact this
theorem rblocks16_any (p : PVal) (B : Option Addr) (cb : Nat) (b : List (List Int)) (ok : Bool) (w : World) (hP : TermsAt w p.adr p.tv) (hs : ∀ t ∈ p.tv, t.coef.size ≤ 8 ∧ t.exps.length ≤ 64) (hn : p.tv.length ≤ 4096) (hB : Lists w B b) (hbl : b.length ≤ 64) (hml : ∀ m ∈ b, m.length ≤ 1000) (hok : ok = true ↔ p.ok) (K : Int) :
    Calls Tryz.prog 19 #[.agg #[.int .i64 p.vars, .slice p.adr p.tv.length p.cap], .slice B b.length cb, .int .i64 K] w (RetSB p b hbl (errS ok p.vars b) K w) := by
  obtain ⟨W, hW⟩ : ∃ W, w.alloc (.cells #[.int .i64 p.vars, .slice p.adr p.tv.length p.cap] 24) = W := ⟨_, rfl⟩
  have hbA : Below w.heap.size w W := by rw [← hW]; exact (Below.refl _ _).alloc (Nat.le_refl _) _
  have B0 : Blk W w.heap.size 24 #[.int .i64 p.vars, .slice p.adr p.tv.length p.cap] := by rw [← hW]; exact Blk.new _ _ _
  have HCK := Lib.hid (rcheck16_any p B cb b ok W (hP.keep hbA) hn hs (hB.keep hbA) hbl hml hok)
  have HRN : Hid (∀ V O co (ts : List RT), Below w.heap.size w V → errS ok p.vars b = 0 → 1 ≤ K → RTermsAt V O ts → ts.map RT.core = p.tv.map TV.core → Calls Tryz.prog 44 #[.agg #[.int .i64 p.vars, .slice O ts.length co], .slice B b.length cb, .int .i64 K] V (RetRR16 K.toNat b (kn p b) hbl V)) := Lib.hid (fun V O co ts hV he hK hR hc =>
    rrounds_p p B cb b ok w hB hbl hok he V hV O co ts hR hc K K.toNat (by omega) (fun k _ h => by omega) (fun k _ h1 h2 => by omega))
  generalize errS ok p.vars b = er at *
  have HWW := Lib.hid hW
  obtain ⟨P, T, cT, tv⟩ := p
  simp only at *
  obtain ⟨c0, c1, _, _⟩ := B0.two
  clear hW hP hB hok hml hs
  go_enter Tryz.func19, Tryz.ntmps19
  go_upto_region 1 with (fail)
  rw [HWW.out]
  clear HWW
  go_wp2_with (fail)
  refine HCK.out.mono ?_
  rintro e w1 ⟨hb1, ⟨her, v, O, no, co, rfl⟩ | ⟨rfl, O, co, ts, rfl, hR, hcore⟩⟩
  · have hne : (er != 0) = true := by simp [her]
    have hbx := (below_all hbA hb1).alloc (below_all hbA hb1).size (.cells #[.int .i64 v, .slice O no co] 47)
    go_wp2_with (fail)
    go_ret2
    exact ⟨hbx, .inl ⟨her, rfl⟩⟩
  · have C6 := Blk.new w1 47 #[.int .i64 P, .slice O ts.length co]
    have hbx := (below_all hbA hb1).alloc (below_all hbA hb1).size (.cells #[.int .i64 P, .slice O ts.length co] 47)
    have hRx := hR.keep ((Below.refl w1.heap.size w1).alloc (Nat.le_refl _) (.cells #[.int .i64 P, .slice O ts.length co] 47))
    have HCR := Lib.hid hcore
    clear hR hcore
    go_upto_region 2 with (fail)
    generalize w1.alloc (.cells #[.int .i64 P, .slice O ts.length co] 47) = X at *
    obtain ⟨x0, x1, _, _⟩ := C6.two
    by_cases hK : K < 1
    · have hk : decide (K < 1) = true := by simpa using hK
      go_wp2_with (fail)
      go_ret2
      exact ⟨hbx, .inr (.inl ⟨rfl, hK, rfl⟩)⟩
    · have hk : decide (K < 1) = false := by simpa using hK
      have hK1 : 1 ≤ K := by omega
      go_wp2_with (go_at_call 44; refine (HRN.out X O co ts hbx (by trivial) hK1 hRx HCR.out).mono ?_; rintro e w3 ⟨m, R, c, hF, rfl, hL, hb3⟩)
      go_ret2
      exact ⟨below_all hbx hb3, .inr (.inr ⟨rfl, hK1, m, R, c, hF, rfl, hL⟩)⟩
theorem rstable16_any (p : PVal) (B : Option Addr) (cb : Nat) (b : List (List Int)) (ok : Bool) (w : World) (hP : TermsAt w p.adr p.tv) (hs : ∀ t ∈ p.tv, t.coef.size ≤ 8 ∧ t.exps.length ≤ 64) (hn : p.tv.length ≤ 4096) (hB : Lists w B b) (hbl : b.length ≤ 64) (hml : ∀ m ∈ b, m.length ≤ 1000) (hok : ok = true ↔ p.ok) :
    Calls Tryz.prog 20 #[.agg #[.int .i64 p.vars, .slice p.adr p.tv.length p.cap], .slice B b.length cb] w (RetSS p b hbl (errS ok p.vars b) w) := by
  obtain ⟨W, hW⟩ : ∃ W, w.alloc (.cells #[.int .i64 p.vars, .slice p.adr p.tv.length p.cap] 24) = W := ⟨_, rfl⟩
  have hbA : Below w.heap.size w W := by rw [← hW]; exact (Below.refl _ _).alloc (Nat.le_refl _) _
  have B0 : Blk W w.heap.size 24 #[.int .i64 p.vars, .slice p.adr p.tv.length p.cap] := by rw [← hW]; exact Blk.new _ _ _
  have HCK := Lib.hid (rcheck16_any p B cb b ok W (hP.keep hbA) hn hs (hB.keep hbA) hbl hml hok)
  have HRN : Hid (∀ V O co (ts : List RT), Below w.heap.size w V → errS ok p.vars b = 0 → RTermsAt V O ts → ts.map RT.core = p.tv.map TV.core → Calls Tryz.prog 44 #[.agg #[.int .i64 p.vars, .slice O ts.length co], .slice B b.length cb, .int .i64 (-1)] V (RetRR16 bigK b (kn p b) hbl V)) := Lib.hid (fun V O co ts hV he hR hc =>
    rrounds_p p B cb b ok w hB hbl hok he V hV O co ts hR hc (-1) bigK (by decide) (fun k _ h => by omega) (fun k _ h1 h2 => by unfold bigK; omega))
  generalize errS ok p.vars b = er at *
  have HWW := Lib.hid hW
  obtain ⟨P, T, cT, tv⟩ := p
  simp only at *
  obtain ⟨c0, c1, _, _⟩ := B0.two
  clear hW hP hB hok hml hs
  go_enter Tryz.func20, Tryz.ntmps20
  go_upto_region 1 with (fail)
  rw [HWW.out]
  clear HWW
  go_wp2_with (fail)
  refine HCK.out.mono ?_
  rintro e w1 ⟨hb1, ⟨her, v, O, no, co, rfl⟩ | ⟨rfl, O, co, ts, rfl, hR, hcore⟩⟩
  · have hne : (er != 0) = true := by simp [her]
    have hbx := (below_all hbA hb1).alloc (below_all hbA hb1).size (.cells #[.int .i64 v, .slice O no co] 47)
    go_wp2_with (fail)
    refine bodyPost_ret (v := _) (results_tmp3 rfl _ _ _) rfl ?_
    exact ⟨hbx, .inl ⟨her, rfl⟩⟩
  · have C6 := Blk.new w1 47 #[.int .i64 P, .slice O ts.length co]
    have hbx := (below_all hbA hb1).alloc (below_all hbA hb1).size (.cells #[.int .i64 P, .slice O ts.length co] 47)
    have hRx := hR.keep ((Below.refl w1.heap.size w1).alloc (Nat.le_refl _) (.cells #[.int .i64 P, .slice O ts.length co] 47))
    have HCR := Lib.hid hcore
    clear hR hcore
    go_upto_region 2 with (fail)
    generalize w1.alloc (.cells #[.int .i64 P, .slice O ts.length co] 47) = X at *
    obtain ⟨x0, x1, _, _⟩ := C6.two
    go_wp2_with (go_at_call 44; refine (HRN.out X O co ts hbx (by trivial) hRx HCR.out).mono ?_; rintro e w3 ⟨m, R, c, hF, rfl, hL, hb3⟩)
    refine bodyPost_ret (v := _) (results_tmp3 rfl _ _ _) rfl ?_
    exact ⟨below_all hbx hb3, .inr ⟨rfl, m, R, c, hF, rfl, hL⟩⟩
end Go.Proofs.Tg.Sx
end
