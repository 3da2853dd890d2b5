/- Parts of the proof: WHB, AC3. -/
import Derived.Deep.RegionHeld3
import Derived.Deep.CutBlock
import Derived.Test.YtodjofbneeejpaaGreatDoorMBD6
import Derived.Test.YtodjofbneeejpaaGreatDoorMBD7
import Derived.Test.YtodjofbneeejpaaGreatDoorMBD8
section
/- The program's subsets: add (printed by wip/tools/mk_add.py). -/
namespace Go.Proofs.Tg.Bk
open Go.RowKit Go.Gr Go.Sp Go.Ev Go.Pm
open Go.Proofs.Tg.Gp (PRow cellP RowsB ints_blk prow_info commute_any bcompose_any)
set_option maxHeartbeats 4000000
set_option maxRecDepth 100000
theorem setM_far {w : World} {mb cnt n : Nat} {S : List (List Int)} {p : Addr} (h : SetM w mb cnt n S) (hne : mb ≠ p.block) (u : Value) : SetM (w.setCell p u) mb cnt n S := by
 obtain ⟨D, ⟨es, clock, hh, r⟩, h2⟩ := h
 exact ⟨D, ⟨es, clock, (Below.heap_setCell _ _ _ _ hne).trans hh, r⟩, h2⟩
theorem map_ne {w : World} {mb g : Nat} {t : TypeId} {cs : Array Value} (hm : MapB w mb) (hB : Blk w g t cs) : mb ≠ g := fun e => by
 obtain ⟨es, ck, hh⟩ := hm
 rw [e] at hh
 unfold Blk at hB
 rw [hB] at hh
 cases hh
theorem map_que {w : World} {mb base : Nat} {e : TypeId} {v : Value} {xs : List Value} (hm : MapB w mb) (hq : Que w base e v xs) : some mb ≠ v.ownBlock := fun e1 => by
 obtain ⟨es, ck, hh⟩ := hm
 obtain ⟨g, o, cap, cur, rfl, _, h3, _⟩ := hq
 injection e1 with e1
 subst e1
 rw [h3] at hh
 cases hh
theorem blk_ty {w : World} {g g' : Nat} {t t' : TypeId} {a b : Array Value} (h : Blk w g t a) (h' : Blk w g' t' b) (hne : t ≠ t') : g ≠ g' := fun e => by
 rw [e] at h
 unfold Blk at h h'
 rw [h'] at h
 injection h with h
 injection h with _ h2
 exact hne h2.symm
/-- What add leaves as it was. -/
structure Foot (w w' : World) (gs mb : Nat) (v : Value) : Prop where
  size : w.heap.size ≤ w'.heap.size
  same : ∀ k, k < w.heap.size → k ≠ gs → k ≠ mb → some k ≠ v.ownBlock → w'.heap[k]? = w.heap[k]?
theorem Foot.of_below {w w' : World} (h : Below w.heap.size w w') (gs mb : Nat) (v : Value) : Foot w w' gs mb v := ⟨h.size, fun k hk _ _ _ => h.block k hk⟩
/-- What the loop over the products holds. -/
structure AdSt (w : World) (base n : Nat) (P : List (List Int)) (a : List Int) (gs mb : Nat) (v0 : Value) (ad0 : Addr) (rs0 : List PRow) (wr : World) (j : Nat) (v : Value) (rs : List PRow) (S : List (List Int)) : Prop where
  at' : SubAt wr base n (P ++ (P.take j).map fun p => cmp p a) gs mb v rs S
  below : Below base w wr
  foot : Foot w wr gs mb v0
  loc : v.ownBlock = v0.ownBlock ∨ ∃ g, v.ownBlock = some g ∧ w.heap.size ≤ g
  old : Sl wr (some ad0) rs0.length 1 (rs0.map (cellP n))
  addr : (∃ m c, v = .slice (some ad0) m c) ∨ ∃ g, v.ownBlock = some g ∧ w.heap.size ≤ g
  olds : RowsB wr rs0
/-- What add returns. -/
def RetAdd (base n gs mb : Nat) (a : List Int) (l : List (List Int)) (v : Value) (rs : List PRow) (S : List (List Int)) (q : Bool) (w : World) (e : Ending) (w' : World) : Prop := e = .returned (.bool q) ∧ Below base w w' ∧ Foot w w' gs mb v ∧
  (q = false → SubAt w' base n (prods n l) gs mb v rs S) ∧ (q = true → ∃ v' rs' S', SubAt w' base n (prods n (l ++ [a])) gs mb v' rs' S' ∧ (v'.ownBlock = v.ownBlock ∨ ∃ g, v'.ownBlock = some g ∧ w.heap.size ≤ g))
theorem RetAdd.no {base n gs mb : Nat} {a : List Int} {l : List (List Int)} {v : Value} {rs : List PRow} {S : List (List Int)} {w w' : World} (h : SubAt w base n (prods n l) gs mb v rs S) (hb : Below w.heap.size w w') (hs : base ≤ w.heap.size) : RetAdd base n gs mb a l v rs S false w (.returned (.bool false)) w' :=
  ⟨rfl, hb.mono hs, Foot.of_below hb _ _ _, fun _ => h.keep hb, fun h => absurd h (by simp)⟩
theorem add_any (A : Option Addr) (c base n gs mb : Nat) (a : List Int) (l : List (List Int)) (v : Value) (rs : List PRow) (S : List (List Int)) (q : Bool) (w : World) (hA : Ints w A a) (ha : Perm n a) (hn : n ≤ 6) (hS : Sub n l) (hl : l.length ≤ 6) (hat : SubAt w base n (prods n l) gs mb v rs S) (hb : base ≤ w.heap.size)
    (hq : q = true ↔ a ∉ prods n l ∧ ∀ b ∈ l, cmp a b = cmp b a) (hnd : q = true → (prods n (l ++ [a])).Nodup) (hAb : 0 < n → ∀ ad, A = some ad → ad.block < base) :
    Calls Tryz.prog 33 #[.pointer (some ⟨gs, 0, none⟩), .slice A n c] w (RetAdd base n gs mb a l v rs S q w) := by
  have HQ := Lib.hid hq
  have HAT := Lib.hid hat
  have HA := Lib.hid hA
  have HPA := Lib.hid ha
  have HSU := Lib.hid hS
  have HAB := Lib.hid hAb
  have HND := Lib.hid hnd
  have HPL : Hid ((prods n l).length = 2 ^ l.length) := Lib.hid (prods_len n l)
  have HPA2 : Hid (∀ t (h : t < l.length), (prods n l)[2 ^ t]? = some l[t]) := Lib.hid (prods_at n l hS.perm)
  have HPP := Lib.hid (prods_perm hS.perm)
  have HAD := Lib.hid (perm_dom hn ha)
  obtain ⟨j0, hj0, hjz0, hjz1, hjz2⟩ := info_parts prow_info
  have hpw : (prods n l).length ≤ 64 := by
   rw [HPL.out]
   have : 2 ^ l.length ≤ 2 ^ 6 := Nat.pow_le_pow_right (by omega) hl
   exact this
  have hgsl := hat.box.lt
  have hmbl := hat.set.lt
  have HKY : Hid (∀ V, Below w.heap.size w V → Calls Tryz.prog 60 #[.slice A n c] V fun e w' => e = .returned (keyV a) ∧ Below V.heap.size V w') := Lib.hid (fun V h => by
   have := keyOf_any A c a V (hA.keep h) (by rw [ha.1]; exact hn)
   rw [ha.1] at this
   exact this)
  obtain ⟨od, cap, hv, hSl0, hod, hspot⟩ := hat.que.sl
  rw [List.length_map] at hv
  subst hv
  have HSL0 := Lib.hid hSl0
  have hcapl : rs.length ≤ cap := by
   obtain ⟨g', o', cap', cur, e1, _, _, e4, _⟩ := hat.que
   injection e1 with _ _ e5
   rw [e5]
   simpa using e4
  have hrsE := congrArg List.length hat.eq
  rw [List.length_map] at hrsE
  have HRE := Lib.hid hrsE
  have HRW := Lib.hid hat.rows
  have HEQ := Lib.hid hat.eq
  have HMEM := Lib.hid hat.mem
  have hrsl : rs.length ≤ 64 := by omega
  clear hSl0 hrsE
  obtain ⟨x0, x1, f0, f1⟩ := hat.box.two
  obtain ⟨qk, hqk⟩ : ∃ qk : Bool, decide (a ∈ S) = qk := ⟨_, rfl⟩
  have hbe : Below w.heap.size w w.drew := (Below.refl _ _).drew
  have hset := hat.set
  clear hq hat hA ha hS hAb hnd
  go_enter Tryz.func33, Tryz.ntmps33
  go_upto_region 1 with (fail)
  go_region_held3 (fun w' => w'.cell? ⟨gs, 1, none⟩ = some (.map (some mb)))
    (first | exact keep_cell hbe x1)
    (first
      | (go_at_call 60; with_reducible refine Calls.mono (HKY.out _ (by assumption)) ?_; rintro e w2 ⟨rfl, hb2⟩
         have hbe := below_all hbe hb2
         have hlook := (hset.below hbe hmbl).look HAD.out hqk))
  all_goals
    clear HKY hb2 hset
    cases qk with
    | true =>
      obtain rfl : q = false := eq_false_of_ne_true (fun h => (HQ.out.1 h).1 ((HMEM.out a).1 (of_decide_eq_true hqk)))
      clear hqk
      go_wp2
      go_ret
      exact RetAdd.no HAT.out hbe hb
    | false =>
      have HNI : Hid (a ∉ prods n l) := Lib.hid (fun h => of_decide_eq_false hqk ((HMEM.out a).2 h))
      clear hqk hlook
      go_wp2
      go_loopw [5] (fun s5 wr => ∃ (t N : Nat), s5 = .int .i64 N ∧ Hid (N = 2 ^ t) ∧ t ≤ l.length ∧ N ≤ 64 ∧ Hid (∀ j (h : j < l.length), j < t → cmp a l[j] = cmp l[j] a) ∧ Below w.heap.size w wr) (fun s5 _ => 65 - (intOf s5).toNat)
      case atStart => exact ⟨0, 1, rfl, Lib.hid rfl, Nat.zero_le _, by omega, Lib.hid (fun j _ h => absurd h (by omega)), hbe⟩
      case round =>
       clear hbe
       obtain ⟨wo, rfl⟩ : ∃ wo : World, wo = wr := ⟨_, rfl⟩
       obtain ⟨t, N, rfl, HN, ht, hN64, HC, hbo⟩ := hrel
       have y0 := keep_cell hbo x0
       by_cases htl : t < l.length
       ·have hNl : N < rs.length := by
         rw [HRE.out, HPL.out, HN.out]
         exact Nat.pow_lt_pow_right (by omega) htl
        have q0 : (0 : Int) ≤ (N : Int) := by omega
        have q1 : (N : Int) < (rs.length : Int) := by omega
        have q3 : ((N : Int)).toNat = N := by omega
        obtain ⟨od', hod', z2'⟩ := Sl.at1 (HSL0.out.keep hbo) (show N < (rs.map (cellP n)).length by simpa using hNl)
        injection hod' with hod'
        subst hod'
        have z2 : wo.cell? (od.add N) = some (.slice (some ⟨(rs[N]).1, 0, none⟩) n n) := by simpa [cellP] using z2'
        clear z2'
        have hr2 : rs[N].2 = l[t] := by
         have h1 : (rs.map Prod.snd)[N]? = some l[t] := by rw [HEQ.out, HN.out]; exact HPA2.out t htl
         rw [List.getElem?_map, List.getElem?_eq_getElem hNl] at h1
         simpa using h1
        have hrb := (HRW.out rs[N] (List.getElem_mem _)).keep hbo (HRW.out rs[N] (List.getElem_mem _)).lt
        rw [hr2] at hrb
        have hpt := HSU.out.perm l[t] (List.getElem_mem _)
        obtain ⟨qc, hqc⟩ : ∃ qc : Bool, decide (cmp a l[t] = cmp l[t] a) = qc := ⟨_, rfl⟩
        have HCM := Lib.hid (commute_any A (some ⟨(rs[N]).1, 0, none⟩) c n n a l[t] qc wo (HA.out.keep hbo) (ints_blk hrb hpt.1 hn) HPA.out hpt hn hqc)
        have HQC := Lib.hid hqc
        clear hr2 hrb hpt hqc
        generalize rs[N].1 = gN at *
        cases qc with
        | false =>
          obtain rfl : q = false := eq_false_of_ne_true (fun h => of_decide_eq_false HQC.out ((HQ.out.1 h).2 _ (List.getElem_mem _)))
          go_wp2_with (go_at_call 61; refine HCM.out.mono ?_; rintro e w4 ⟨rfl, hb4⟩)
          go_ret
          exact RetAdd.no HAT.out (below_all hbo hb4) hb
        | true =>
          have HC2 : Hid (∀ j (h : j < l.length), j < t + 1 → cmp a l[j] = cmp l[j] a) := Lib.hid (fun j h hj => by
           by_cases he : j = t
           ·subst he; exact of_decide_eq_true HQC.out
           ·exact HC.out j h (by omega))
          have HN2 : Hid (2 * N = 2 ^ (t + 1)) := Lib.hid (by rw [HN.out, Nat.pow_succ]; omega)
          have h2N : 2 * N ≤ 64 := by
           rw [HN2.out]
           have : 2 ^ (t + 1) ≤ 2 ^ 6 := Nat.pow_le_pow_right (by omega) (by omega)
           exact this
          have hN1 : 1 ≤ N := by rw [HN.out]; exact Nat.pow_pos (by omega)
          go_upto_region 5 with (go_at_call 61; refine HCM.out.mono ?_; rintro e w4 ⟨rfl, hb4⟩)
          clear HQC
          go_wp2
          go_roundw
          case rel => exact ⟨t + 1, 2 * N, by go_num, HN2, by omega, h2N, HC2, below_all hbo hb4⟩
          case measure => simp [intOf]; omega
       ·obtain rfl : t = l.length := by omega
        obtain rfl : q = true := HQ.out.2 ⟨HNI.out, fun b hb => by
         obtain ⟨j, hj, rfl⟩ := List.getElem_of_mem hb
         exact HC.out j hj hj⟩
        have HCP : Hid (∀ p ∈ prods n l, cmp a p = cmp p a) := Lib.hid (prods_com HSU.out.perm HPA.out (fun b hb => (HQ.out.1 rfl).2 b hb))
        have HX : Hid (prods n (l ++ [a]) = prods n l ++ (prods n l).map fun p => cmp p a) := Lib.hid (by
         rw [prods_snoc]
         congr 1
         exact List.map_congr_left fun p hp => HCP.out p hp)
        have hxn : (prods n l ++ (prods n l).map fun p => cmp p a).Nodup := by rw [← HX.out]; exact HND.out rfl
        have hNr : N = rs.length := by rw [HRE.out, HPL.out, HN.out]
        have d1 : decide ((N : Int) < (rs.length : Int)) = false := decide_eq_false (by omega)
        have d2 : decide (N < rs.length) = false := decide_eq_false (by omega)
        have hr1 : 1 ≤ rs.length := by
         rw [HRE.out, HPL.out]; exact Nat.pow_pos (by omega)
        have hrf : (rs.length = 0) = False := eq_false (by omega)
        clear HC HCP HN hNr HQ HND HNI
        obtain ⟨P, hPE⟩ : ∃ P, prods n l = P := ⟨_, rfl⟩
        rw [hPE] at hxn
        have HNEW : Hid (∀ j (h : j < P.length), cmp P[j] a ∉ P ++ (P.take j).map fun p => cmp p a) := Lib.hid (fun j h hm => by
         have h1 : (P ++ (P.take (j + 1)).map fun p => cmp p a).Nodup := List.Nodup.sublist (List.Sublist.append_left (List.Sublist.map _ (List.take_sublist _ _)) _) hxn
         rw [List.take_succ_eq_append_getElem h, List.map_append, ← List.append_assoc] at h1
         exact (List.nodup_append.1 h1).2.2 _ hm _ (by simp) rfl)
        have HPP2 : Hid (∀ p ∈ P, Perm n p) := Lib.hid (by rw [← hPE]; exact HPP.out)
        have HX2 : Hid (prods n (l ++ [a]) = P ++ P.map fun p => cmp p a) := Lib.hid (by rw [HX.out, hPE])
        have HRE2 : Hid (rs.length = P.length) := Lib.hid (by rw [HRE.out, hPE])
        have HEQ2 : Hid (rs.map Prod.snd = P) := Lib.hid (by rw [HEQ.out, hPE])
        have HAT2 : Hid (SubAt w base n P gs mb (.slice (some od) rs.length cap) rs S) := Lib.hid (by rw [← hPE]; exact HAT.out)
        have hbb := hbo.mono hb
        have hbo2 := hbo
        clear hxn hPE HX HPP HRE HEQ HAT HPL HPA2 HSU HMEM hbo
        go_upto_region 8 with (fail)
        go_quiet (fail)
        have hbq : Below w.heap.size w (wo.drewN nq) := below_all hbo2 (below_drewN (Below.refl _ _) _)
        have y0 := keep_cell (below_drewN (Below.refl wo.heap.size wo) nq) y0
        generalize wo.drewN nq = wd at *
        clear hbo2 hbb
        have H0 : Hid (AdSt w base n P a gs mb (.slice (some od) rs.length cap) od rs wd 0 (.slice (some od) rs.length cap) rs S) := Lib.hid
          ⟨by simpa using HAT2.out.keep hbq, hbq.mono hb, Foot.of_below hbq _ _ _, .inl rfl, (by have := HSL0.out.keep hbq; rwa [List.length_map] at this), .inl ⟨_, _, rfl⟩, HRW.out.keep hbq⟩
        clear y0 hbq d1 d2
        go_wp2
        go_loopw [51] (fun s51 wr => ∃ (j : Nat) (v2 : Value) (rs2 : List PRow) (S2 : List (List Int)), s51 = .int .i64 j ∧ j ≤ rs.length ∧ Hid (AdSt w base n P a gs mb (.slice (some od) rs.length cap) od rs wr j v2 rs2 S2)) (fun s51 _ => rs.length - (intOf s51).toNat)
        case atStart => exact ⟨0, _, rs, S, rfl, Nat.zero_le _, H0⟩
        case round =>
         clear H0
         obtain ⟨wi, rfl⟩ : ∃ wi : World, wi = wr := ⟨_, rfl⟩
         obtain ⟨j, v2, rs2, S2, rfl, hj, HST⟩ := hrel
         by_cases hjl : j < rs.length
         ·have hjP : j < P.length := by rw [← HRE2.out]; exact hjl
          have hbi := HST.out.below
          have q0 : (0 : Int) ≤ (j : Int) := by omega
          have q1 : (j : Int) < (rs.length : Int) := by omega
          have q3 : ((j : Int)).toNat = j := by omega
          obtain ⟨od', hod', z2'⟩ := Sl.at1 (xs := rs.map (cellP n)) (by simpa using HST.out.old) (show j < (rs.map (cellP n)).length by simpa using hjl)
          injection hod' with hod'
          subst hod'
          have z2 : wi.cell? (od.add j) = some (.slice (some ⟨(rs[j]).1, 0, none⟩) n n) := by simpa [cellP] using z2'
          clear z2'
          have hr2 : rs[j].2 = P[j] := by
           have h1 : (rs.map Prod.snd)[j]? = some P[j] := by rw [HEQ2.out]; exact List.getElem?_eq_getElem hjP
           rw [List.getElem?_map, List.getElem?_eq_getElem hjl] at h1
           simpa using h1
          have hrb := HST.out.olds rs[j] (List.getElem_mem _)
          rw [hr2] at hrb
          have hpj := HPP2.out P[j] (List.getElem_mem _)
          have hbs : base ≤ wi.heap.size := Nat.le_trans hb hbi.size
          have hAi : Ints wi A a := by
           refine ⟨HA.out.len, fun hp => ?_⟩
           obtain ⟨ad, e1, e2, e3⟩ := HA.out.lies hp
           exact ⟨ad, e1, Nat.lt_of_lt_of_le (HAB.out (by have := HPA.out.1; omega) ad e1) hbs, fun k u hu => (hbi.cell (by rw [add_block]; exact HAB.out (by have := HPA.out.1; omega) ad e1)).trans (e3 k u hu)⟩
          have HCO := Lib.hid (bcompose_any (some ⟨(rs[j]).1, 0, none⟩) A n c n P[j] a wi (ints_blk hrb hpj.1 hn) hAi hpj HPA.out hn)
          have HZL : Hid ((cmp P[j] a).length = n) := Lib.hid (cmp_perm hpj HPA.out).1
          have HZD := Lib.hid (perm_dom hn (cmp_perm hpj HPA.out))
          have HZN := Lib.hid (HNEW.out j hjP)
          have HZT : Hid ((P.take (j + 1)).map (fun p => cmp p a) = (P.take j).map (fun p => cmp p a) ++ [cmp P[j] a]) := Lib.hid (by rw [List.take_succ_eq_append_getElem hjP, List.map_append]; rfl)
          have HKZ : Hid (∀ V, Blk V wi.heap.size 3 (iarr (cmp P[j] a)) → Calls Tryz.prog 60 #[.slice (some ⟨wi.heap.size, 0, none⟩) n n] V fun e w' => e = .returned (keyV (cmp P[j] a)) ∧ Below V.heap.size V w') := Lib.hid (fun V h => by
           have := keyOf_any (some ⟨wi.heap.size, 0, none⟩) n (cmp P[j] a) V (ints_blk h HZL.out hn) (by rw [HZL.out]; exact hn)
           rw [HZL.out] at this
           exact this)
          obtain ⟨od2, cap2, hv2, hSl2, hod2, _⟩ := HST.out.at'.que.sl
          rw [List.length_map] at hv2
          subst hv2
          have hrs2 : rs2.length ≤ 200 := by
           have := congrArg List.length HST.out.at'.eq
           rw [List.length_map, List.length_append, List.length_map, List.length_take] at this
           have := HRE2.out
           omega
          obtain ⟨b0, b1, _, _⟩ := HST.out.at'.box.two
          clear hr2 hrb hpj hAi hSl2
          generalize cmp P[j] a = z at *
          generalize rs[j].1 = gj at *
          go_upto_region 13 with (first
            | (go_at_call 62; refine HCO.out.mono ?_; rintro e w4 ⟨rfl, hG4, hb4⟩
               have A4 := HST.out.at'.keep hb4
               have b0' := keep_cell hb4 b0
               obtain ⟨b0, b1, g0, g1⟩ := A4.box.two)
            | (at_builtin
               have hal4 := Below.alloc (Below.refl w4.heap.size w4) (Nat.le_refl _) (.cells #[.slice (some ⟨wi.heap.size, 0, none⟩) n n] 22)
               have A5 := A4.keep hal4
               have hG5 := hG4.keep hal4 hG4.lt
               have hb5 := below_all hb4 hal4
               refine wpList_que_append _ rfl _ _ 23 rfl base 22 j0 (.slice none 0 0) 24 Tryz.underlying23 hj0 hjz0 hjz1 hjz2 rfl _ (rs2.map (cellP n)) rfl A5.que ⟨w4.heap.size, 0, none⟩ 1 (.slice (some ⟨wi.heap.size, 0, none⟩) n n) rfl ((Blk.new w4 22 #[.slice (some ⟨wi.heap.size, 0, none⟩) n n]).cell 0) (by simp [Value.oneCell']) (by simp [maxLen]; omega) (by simp; omega) (Nat.le_trans hbs hb5.size) ?_
               intro v8 w8 hQ8 hg8 hloc8 hkeep8
               obtain ⟨od8, cap8, hv8, _, _, _⟩ := hQ8.sl
               subst hv8
               have hne5 := A5.que.ne A5.box (by decide)
               have B8 := A5.box.grown hg8 hne5
               obtain ⟨b0, b1, g0, g1⟩ := B8.two))
          obtain ⟨V8, hV8⟩ : ∃ V8 : Value, Value.slice (some od8) (rs2.length + 1) cap8 = V8 := ⟨_, rfl⟩
          have hlV : (Value.slice (some od8) (rs2.map (cellP n) ++ [Value.slice (some ⟨wi.heap.size, 0, none⟩) n n]).length cap8) = V8 := by rw [← hV8]; simp
          rw [hlV] at hQ8 hloc8 hkeep8
          have hgs8 : some gs ≠ V8.ownBlock := hQ8.ne B8 (by decide)
          have hm5 := A5.set.mapB
          have hmg := map_ne hm5 A5.box
          have hmq := map_que hm5 A5.que
          have R8 := (A5.rows.grown A5.que hg8).snoc (hG5.grown hg8 (A5.que.ne hG5 (by decide)))
          have S8 := A5.set.grown hg8 hmq
          have OL8 := RowsB.grown (HST.out.olds.keep hb5) A5.que hg8
          have hst8 : ∀ k u, (rs.map (cellP n))[k]? = some u → w8.cell? (od.add k) = some u := by
           intro k u hu
           have hkr : k < rs.length := by
            have := (List.getElem?_eq_some_iff.1 hu).1
            simpa using this
           have hO5 := HST.out.old.keep hb5
           obtain ⟨od', e1, _, h3⟩ := hO5.lies (by omega)
           injection e1 with e1
           subst e1
           have h4 := h3 k u hu
           rcases HST.out.addr with ⟨m2, c2, e2⟩ | ⟨g2, e2, h2⟩
           ·injection e2 with e2
            injection e2 with e2
            subst e2
            have hle : rs.length ≤ rs2.length := by
             have h1 := congrArg List.length HST.out.at'.eq
             rw [List.length_map, List.length_append] at h1
             have := HRE2.out
             omega
            rw [spot_add hspot] at h4 ⊢
            rw [(hkeep8 od2 _ _ rfl).2 (od2.off + k) (by simp; omega)]
            exact h4
           ·refine hg8.cell h4 (fun e3 => ?_)
            rw [add_block] at e3
            have e4 := e3.trans e2
            injection e4 with e4
            have := (HSL0.out.lies (by simp; omega))
            obtain ⟨od', e5, h5, _⟩ := this
            injection e5 with e5
            subst e5
            omega
          obtain ⟨w9, hw9⟩ : ∃ w9, w8.setCell ⟨gs, 0, none⟩ V8 = w9 := ⟨_, rfl⟩
          have B9 : Blk w9 gs 66 #[V8, .map (some mb)] := by rw [← hw9]; simpa using B8.set 0 V8
          have Q9 : Que w9 base 22 V8 (rs2.map (cellP n) ++ [.slice (some ⟨wi.heap.size, 0, none⟩) n n]) := by rw [← hw9]; exact hQ8.far hgs8 _
          have R9 : RowsB w9 (rs2 ++ [(wi.heap.size, z)]) := fun r hr => by rw [← hw9]; exact (R8 r hr).far (blk_ty (R8 r hr) B8 (by decide)) _
          have OL9 : RowsB w9 rs := fun r hr => by rw [← hw9]; exact (OL8 r hr).far (blk_ty (OL8 r hr) B8 (by decide)) _
          have S9 : SetM w9 mb S2.length n S2 := by rw [← hw9]; exact setM_far S8 hmg _
          have hodg : gs ≠ od.block := fun e1 => by
           have := HAT2.out.que.ne HAT2.out.box (by decide)
           exact this (by rw [e1]; rfl)
          have O9 : Sl w9 (some od) rs.length 1 (rs.map (cellP n)) := by
           refine ⟨by simp, fun _ => ⟨od, rfl, ?_, fun k u hu => ?_⟩⟩
           ·have h1 := World.block_lt_of_cell? _ _ (hst8 0 _ (List.getElem?_eq_getElem (by simp; omega)))
            rw [add_block] at h1
            rw [← hw9]
            simpa [World.setCell] using h1
           ·rw [← hw9, World.cell?_setCell_other _ _ _ _ (fun e1 => hodg (by have := congrArg Addr.block e1; rw [add_block] at this; exact this))]
            exact hst8 k u hu
          have hb8 : Below base w w8 := (hbi.trans (hb5.mono hbs)).grown hg8 (Nat.le_trans hb (Nat.le_trans hbi.size hb5.size)) (fun q hq => by
           obtain ⟨_, e1, h1, _⟩ := A5.que.blk
           have e2 := e1.symm.trans hq
           injection e2 with e2
           omega)
          have hb9 : Below base w w9 := by rw [← hw9]; exact below_far hb8 HAT2.out.lows _ _
          have hF9 : ∀ k, k < w.heap.size → k ≠ gs → k ≠ mb → some k ≠ (Value.slice (some od) rs.length cap).ownBlock → w9.heap[k]? = w.heap[k]? := by
           intro k hk hkg hkm hkv
           have h1 : w9.heap[k]? = w8.heap[k]? := by rw [← hw9]; exact Below.heap_setCell _ _ _ _ hkg
           have hk5 : k < wi.heap.size := Nat.lt_of_lt_of_le hk hbi.size
           have h2 : w8.heap[k]? = _ := hg8.block k (Nat.lt_of_lt_of_le hk5 hb5.size) (fun e1 => by
            rcases HST.out.loc with e2 | ⟨g2, e2, h2⟩
            ·exact hkv (e1.trans e2)
            ·have e3 := e1.trans e2
             injection e3 with e3
             omega)
           rw [h1, h2, hb5.block k hk5]
           exact HST.out.foot.same k hk hkg hkm hkv
          have hsz9 : w9.heap.size = w8.heap.size := by rw [← hw9]; simp [World.setCell]
          have hLOC : V8.ownBlock = (Value.slice (some od) rs.length cap).ownBlock ∨ ∃ g, V8.ownBlock = some g ∧ w.heap.size ≤ g := by
           rcases hloc8 with e1 | e1
           ·rw [e1]; exact HST.out.loc
           ·exact .inr ⟨_, e1, Nat.le_trans hbi.size hb5.size⟩
          have hADR : (∃ m c, V8 = .slice (some od) m c) ∨ ∃ g, V8.ownBlock = some g ∧ w.heap.size ≤ g := by
           rcases (hkeep8 od2 _ _ rfl).1 with ⟨m2, c2, e1⟩ | e1
           ·rcases HST.out.addr with ⟨m3, c3, e2⟩ | ⟨g2, e2, h2⟩
            ·injection e2 with e2
             injection e2 with e2
             subst e2
             exact .inl ⟨m2, c2, e1⟩
            ·refine .inr ⟨g2, ?_, h2⟩
             rw [e1]; exact e2
           ·exact .inr ⟨_, e1, Nat.le_trans hbi.size hb5.size⟩
          have HFIN : Hid (∀ wx wy S3, Below w9.heap.size w9 wx → MapB wx mb → SetM wy mb S3.length n S3 → (∀ x, x ∈ S3 ↔ x = z ∨ x ∈ S2) → S3.length ≤ S2.length + 1 → wx.grownBy wy (some mb) → AdSt w base n P a gs mb (.slice (some od) rs.length cap) od rs wy (j + 1) V8 (rs2 ++ [(wi.heap.size, z)]) S3) := Lib.hid (fun wx wy S3 hx hmx hS3 hmem hsl hg =>
           have hb10 := hb9.trans (hx.mono (by rw [hsz9]; exact Nat.le_trans hbs (Nat.le_trans hb5.size hg8.size)))
           have hbF := bturn hb10 hmx hg HAT2.out.lowm
           ⟨⟨(B9.keep hx B9.lt).turn hmx hg, by rw [List.map_append]; exact Gp.Que.turn (Q9.below hx) hmx hg, (R9.keep hx).turn hmx hg, by rw [List.map_append, HST.out.at'.eq, HZT.out, List.append_assoc]; rfl, hS3, fun x => by
            rw [hmem, HST.out.at'.mem, HZT.out]
            simp only [List.mem_append, List.mem_singleton]
            constructor
            ·rintro (h | h | h)
             ·exact .inr (.inr h)
             ·exact .inl h
             ·exact .inr (.inl h)
            ·rintro (h | h | h)
             ·exact .inr (.inl h)
             ·exact .inr (.inr h)
             ·exact .inl h, (by have := HST.out.at'.slen; rw [List.length_append, List.length_singleton]; omega), HAT2.out.lows, HAT2.out.lowm⟩, hbF, ⟨hbF.size, fun k hk h1 h2 h3 => by
            have hk9 : k < w9.heap.size := Nat.lt_of_lt_of_le hk hb9.size
            rw [hg.block k (Nat.lt_of_lt_of_le hk9 hx.size) (fun e => h2 (by injection e)), hx.block k hk9]
            exact hF9 k hk h1 h2 h3⟩, hLOC, (O9.keep hx).turn hmx hg, hADR, (OL9.keep hx).turn hmx hg⟩)
          have hZ9 := R9 (wi.heap.size, z) (by simp)
          have HKZ9 : Hid (∀ V, Below w9.heap.size w9 V → Calls Tryz.prog 60 #[.slice (some ⟨wi.heap.size, 0, none⟩) n n] V fun e w' => e = .returned (keyV z) ∧ Below V.heap.size V w') := Lib.hid (fun V h => HKZ.out V (hZ9.keep h hZ9.lt))
          have HZNS : Hid (z ∉ S2) := Lib.hid (fun h => HZN.out ((HST.out.at'.mem z).1 h))
          have hS2l : S2.length ≤ 1000000000 := by
           have := HST.out.at'.slen
           omega
          clear HCO HKZ hst8 R8 S8 OL8 hb8 hF9 hLOC hADR O9 OL9 R9 Q9 hQ8 hloc8 hkeep8 hgs8 hm5 hmg hmq B8 g0 g1 b0' hb9 hodg hg8 A4 A5 hG4 hG5 hlV b0 b1 z2
          rw [hV8, hw9]
          clear hw9 hV8
          obtain ⟨x9, y9, _, _⟩ := B9.two
          have hbe : Below w9.heap.size w9 w9.drew := (Below.refl _ _).drew
          have hmb9 := S9.lt
          go_region_held3 (fun w' => w'.cell? ⟨gs, 1, none⟩ = some (.map (some mb)))
            (first | exact r0 | exact keep_cell hbe y9)
            (first
              | (go_at_call 60; with_reducible refine Calls.mono (HKZ9.out _ (by assumption)) ?_; rintro e w10 ⟨rfl, hb10⟩
                 have hbe := below_all hbe hb10
                 have hM10 := S9.below hbe hmb9
                 have hm10 := hM10.mapB
                 obtain ⟨w11, hrun, hS11, hg11⟩ := hM10.put hn hS2l HZD.out HZNS.out
                 have r0 := cell_turn hm10 hg11 (keep_cell hbe y9)))
          all_goals
            go_wp2_with (fail)
            go_roundw
            case rel => exact ⟨j + 1, V8, rs2 ++ [(wi.heap.size, z)], z :: S2, by go_num, by omega, Lib.hid (HFIN.out w10 w11 (z :: S2) hbe hm10 hS11 (fun x => List.mem_cons) (Nat.le_refl _) hg11)⟩
            case measure => simp [intOf]; omega
         ·obtain rfl : j = rs.length := by omega
          have he := HST.out
          have dk : decide ((rs.length : Int) < (rs.length : Int)) = false := by simp
          have hF : SubAt wi base n (P ++ P.map fun p => cmp p a) gs mb v2 rs2 S2 := by
           have := HST.out.at'
           rwa [HRE2.out, List.take_length] at this
          clear he
          go_wp2
          go_ret
          exact ⟨rfl, HST.out.below, HST.out.foot, fun h => absurd h (by simp), fun _ => ⟨v2, rs2, S2, (by rw [HX2.out]; exact hF), HST.out.loc⟩⟩
end Go.Proofs.Tg.Bk
end
section
/- The package blocks: what a permutation of the variables does to the places of a basis. -/
namespace Go.Proofs.Tg.Bk
open Go.RowKit Go.Gr Go.Sp Go.Ev Go.Maps Go.WideShapes Go.Pm
set_option maxHeartbeats 4000000
set_option maxRecDepth 100000
theorem img_len (n : Nat) (a : List Int) (l : List (List Int)) : (img n a l).length = l.length := by simp [img]
theorem img_at (n : Nat) (a : List Int) (l : List (List Int)) {k : Nat} (h : k < (img n a l).length) : (img n a l)[k] = ((l.idxOf (mv n a (l[k]'(by rw [← img_len n a l]; exact h))) : Nat) : Int) := by simp [img]
theorem iarr_six (el : List Int) (h : el.length = 6) : iarr el = #[.int .i64 (el.getD 0 0), .int .i64 (el.getD 1 0), .int .i64 (el.getD 2 0), .int .i64 (el.getD 3 0), .int .i64 (el.getD 4 0), .int .i64 (el.getD 5 0)] := by
 match el, h with
 | [a, b, c, d, e, f], _ => rfl
/-- What star returns. -/
def RetStar (n : Nat) (a : List Int) (l : List (List Int)) (w : World) (e : Ending) (w' : World) : Prop := Below w.heap.size w w' ∧
  ((¬ ActsOn n a l ∧ e = .returned (.tuple #[.slice none 0 0, .bool false])) ∨ (ActsOn n a l ∧ e = .returned (.tuple #[.slice (some ⟨w.heap.size, 0, none⟩) l.length l.length, .bool true]) ∧ Blk w' w.heap.size 3 (iarr (img n a l))))
theorem star_any (A L : Option Addr) (cA cL n mb cnt : Nat) (a : List Int) (l : List (List Int)) (w : World) (hA : Ints w A a) (ha : Perm n a) (hL : Lists w L l) (hd : ∀ m ∈ l, domK n 48 m) (hn : n ≤ 6) (hl : l.length ≤ 1000) (hnd : l.Nodup) (hM : IdxM w mb cnt n l) :
    Calls Tryz.prog 34 #[.slice A n cA, .slice L l.length cL, .map (some mb)] w (RetStar n a l w) := by
  have HL := Lib.hid hL
  have HD := Lib.hid hd
  have HA := Lib.hid hA
  have HPA := Lib.hid ha
  have HND := Lib.hid hnd
  have HM := Lib.hid hM
  have hmlt := hM.lt
  have HSL : Hid ((img n a l).length = l.length) := Lib.hid (img_len n a l)
  have HSA : Hid (∀ k (h : k < (img n a l).length) (h2 : k < l.length), (img n a l)[k] = ((l.idxOf (mv n a l[k]) : Nat) : Int)) := Lib.hid (fun k h h2 => img_at n a l h)
  have HIM : Hid (img n a l = img n a l) := Lib.hid rfl
  obtain ⟨s, hs⟩ : ∃ s, img n a l = s := ⟨_, rfl⟩
  rw [hs] at HSL HSA
  have HS := Lib.hid hs
  clear hL hd hA ha hnd hM hs HIM
  have hmk := fun W => make_ints l.length l.length (Nat.le_refl _) (by omega) W
  go_enter Tryz.func34, Tryz.ntmps34
  go_wp2
  clear hmk
  go_loopw [21] (fun s21 wr => ∃ k : Nat, s21 = .int .i64 k ∧ k ≤ l.length ∧ Hid (∀ j (h : j < l.length), j < k → mv n a l[j] ∈ l) ∧ Hid (Blk wr w.heap.size 3 (iarr (s.take k ++ List.replicate (l.length - k) 0))) ∧ Below w.heap.size w wr) (fun s21 _ => l.length - (intOf s21).toNat)
  case atStart =>
   refine ⟨0, rfl, Nat.zero_le _, Lib.hid (fun j _ h => absurd h (by omega)), Lib.hid ?_, (Below.refl _ _).alloc (Nat.le_refl _) _⟩
   have e : iarr (s.take 0 ++ List.replicate (l.length - 0) 0) = madeCells #[.int .i64 0] l.length := (iarr_made l.length).symm
   rw [e]
   exact Blk.new w 3 _
  case round =>
   obtain ⟨wo, rfl⟩ : ∃ wo : World, wo = wr := ⟨_, rfl⟩
   obtain ⟨k, rfl, hk, HIN, HB, hbo⟩ := hrel
   by_cases hkl : k < l.length
   ·obtain ⟨ad, E, ce, rfl, hc0, hE⟩ := HL.out.at hkl
    have hc := keep_cell hbo hc0
    have q0 : (0 : Int) ≤ (k : Int) := by omega
    have q1 : (k : Int) < (l.length : Int) := by omega
    have q3 : ((k : Int)).toNat = k := by omega
    have hdk := HD.out l[k] (List.getElem_mem _)
    have hlen := hdk.1
    rw [hlen] at hc
    have HDK := Lib.hid hdk
    have HLEN := Lib.hid hlen
    have HE := Lib.hid (Sl.keep hE hbo)
    have HBK : Hid (Blk (wo.alloc (.cells z6 97)) wo.heap.size 97 (iarr (mvF 6 a l[k] 0))) := Lib.hid (Blk.new _ _ _)
    have HSK : Hid (∀ h : k < s.length, s[k] = ((l.idxOf (mv n a l[k]) : Nat) : Int)) := Lib.hid (fun h => HSA.out k h hkl)
    have HSUC : Hid (mv n a l[k] ∈ l → ∀ j (h : j < l.length), j < k + 1 → mv n a l[j] ∈ l) := Lib.hid (fun hx j h hj => by
     by_cases he : j = k
     ·subst he; exact hx
     ·exact HIN.out j h (by omega))
    have HBAD : Hid (mv n a l[k] ∉ l → ¬ ActsOn n a l) := Lib.hid (fun hx h => hx (h _ (List.getElem_mem _)))
    have hsz : w.heap.size ≤ wo.heap.size := hbo.size
    clear hdk hlen hE hc0
    generalize l[k] = m at *
    go_upto_region 6 with (fail)
    have hh : (wo.alloc (.cells #[.int .i64 0, .int .i64 0, .int .i64 0, .int .i64 0, .int .i64 0, .int .i64 0] 97)) = wo.alloc (.cells z6 97) := rfl
    rw [hh]
    clear hh
    have hbal := Below.alloc (Below.refl wo.heap.size wo) (Nat.le_refl _) (.cells z6 97)
    generalize wo.alloc (.cells z6 97) = wz at *
    go_wp2
    go_loopw [28] (fun s28 wi => ∃ j : Nat, s28 = .int .i64 j ∧ j ≤ n ∧ Hid (Blk wi wo.heap.size 97 (iarr (mvF 6 a m j))) ∧ Below wo.heap.size wo wi) (fun s28 _ => n - (intOf s28).toNat)
    case atStart => exact ⟨0, rfl, Nat.zero_le _, HBK, hbal⟩
    case round =>
     clear HBK hbal
     obtain ⟨wi, rfl⟩ : ∃ wi : World, wi = wr := ⟨_, rfl⟩
     obtain ⟨j, rfl, hj, HBI, hbi⟩ := hrel
     by_cases hjn : j < n
     ·have hja : j < a.length := by rw [HPA.out.1]; exact hjn
      have hjm : j < m.length := by rw [HLEN.out]; exact hjn
      obtain ⟨aa, rfl, hca⟩ := Ints.at (Sl.keep (HA.out.keep hbo) hbi) hja
      obtain ⟨ee, rfl, hce⟩ := Ints.at (Sl.keep HE.out hbi) hjm
      obtain ⟨x, hx⟩ : ∃ x : Nat, a[j] = (x : Int) := ⟨(a[j]).toNat, by have := HPA.out.2.1 a[j] (List.getElem_mem _); omega⟩
      have hxn : x < n := by have := HPA.out.2.1 a[j] (List.getElem_mem _); omega
      have HST : Hid ((mvF 6 a m j).set x m[j] = mvF 6 a m (j + 1)) := Lib.hid (by
       rw [mvF_succ, show a.getD j 0 = (x : Int) by simp [hja, hx], show m.getD j 0 = m[j] by simp [hjm]]
       rfl)
      rw [hx] at hca
      have c0 := HBI.out.cell x
      have f0 := HBI.out.frozen x
      rw [iarr_at _ (by rw [mvF_len]; omega)] at c0
      generalize (mvF 6 a m j)[x]'(by rw [mvF_len]; omega) = old at c0
      generalize m[j] = y at *
      have r0 : (0 : Int) ≤ (j : Int) := by omega
      have r1 : (j : Int) < (n : Int) := by omega
      have r3 : ((j : Int)).toNat = j := by omega
      have x0 : (0 : Int) ≤ (x : Int) := by omega
      have x1 : (x : Int) < 6 := by omega
      have x3 : ((x : Int)).toNat = x := by omega
      clear hx
      go_wp2
      go_roundw
      case rel =>
       refine ⟨j + 1, by go_num, by omega, Lib.hid ?_, below_far hbi (Nat.le_refl _) _ _⟩
       have := HBI.out.set x (.int .i64 y)
       rw [iarr_set, HST.out] at this
       exact this
      case measure => simp [intOf]; omega
     ·obtain rfl : j = n := by omega
      have hbw := hbo.trans (hbi.mono hsz)
      have hmapi := HM.out.below hbw hmlt
      have HKV : Hid (mvF 6 a m j = kv (mv j a m)) := Lib.hid (kv_mvF hn HPA.out j (Nat.le_refl _)).symm
      have hmd : domK j 48 (mv j a m) := mvF_dom (by omega) HDK.out j
      obtain ⟨c, hcc⟩ : ∃ c : Bool, decide (mv j a m ∈ l) = c := ⟨_, rfl⟩
      obtain ⟨z, hlook, hz⟩ := hmapi.look hmd hcc
      have HZ := Lib.hid hz
      rw [keyV_eq] at hlook
      have hB6 := HBI.out
      rw [iarr_six _ (mvF_len _ _ _ _)] at hB6
      have hq : ∀ i, i < 6 → (mv j a m).getD i 0 = (mvF 6 a m j).getD i 0 := fun i hi => by rw [HKV.out, kv_getD _ hi]
      rw [hq 0 (by omega), hq 1 (by omega), hq 2 (by omega), hq 3 (by omega), hq 4 (by omega), hq 5 (by omega)] at hlook
      obtain ⟨⟨a0, a1, a2, a3, a4, a5⟩, _⟩ := six hB6
      have HCC := Lib.hid hcc
      have hBo := HB.out.keep hbi (by have := HB.out.lt; exact this)
      have dj : decide ((j : Int) < (j : Int)) = false := by simp
      have HL0 := Lib.hid hB6
      clear hB6 hq hz hcc hmapi
      generalize (mvF 6 a m j).getD 0 0 = v0 at *
      generalize (mvF 6 a m j).getD 1 0 = v1 at *
      generalize (mvF 6 a m j).getD 2 0 = v2 at *
      generalize (mvF 6 a m j).getD 3 0 = v3 at *
      generalize (mvF 6 a m j).getD 4 0 = v4 at *
      generalize (mvF 6 a m j).getD 5 0 = v5 at *
      cases c with
      | false =>
        go_wp2
        go_ret2
        exact ⟨hbw, .inl ⟨HBAD.out (of_decide_eq_false HCC.out), rfl⟩⟩
      | true =>
        have hin := of_decide_eq_true HCC.out
        have hzz := HZ.out rfl HND.out
        have HIN2 := Lib.hid (HSUC.out hin)
        have hks : k < s.length := by rw [HSL.out]; exact hkl
        have hsk := HSK.out hks
        rw [← hzz] at hsk
        have hl2 : (s.take k ++ List.replicate (l.length - k) 0).length = l.length := by
         have := HSL.out
         rw [List.length_append, List.length_take, List.length_replicate]; omega
        have HST : Hid ((s.take k ++ List.replicate (l.length - k) 0).set k z = s.take (k + 1) ++ List.replicate (l.length - (k + 1)) 0) := Lib.hid (fill_set _ k _ _ HSL.out hkl hsk)
        have c0 := hBo.cell k
        have f0 := hBo.frozen k
        rw [iarr_at _ (by rw [hl2]; exact hkl)] at c0
        generalize (s.take k ++ List.replicate (l.length - k) 0)[k]'(by rw [hl2]; exact hkl) = old at c0
        have HBO := Lib.hid hBo
        clear hBo hl2 hsk hks hzz hin HZ HSK HSUC HBAD
        go_wp2
        go_roundw
        case rel =>
         refine ⟨k + 1, by go_num, by omega, HIN2, Lib.hid ?_, below_far hbw (Nat.le_refl _) _ _⟩
         have := HBO.out.set k (.int .i64 z)
         rw [iarr_set, HST.out] at this
         exact this
        case measure => simp [intOf]; omega
   ·obtain rfl : k = l.length := by omega
    have hB := HB.out
    have hsl := HSL.out
    rw [Nat.sub_self, List.replicate_zero, List.append_nil, List.take_of_length_le (by omega), ← HS.out] at hB
    have HBF := Lib.hid hB
    have HAC : Hid (ActsOn n a l) := Lib.hid (fun m hm => by
     obtain ⟨j, hj, rfl⟩ := List.getElem_of_mem hm
     exact HIN.out j hj hj)
    have dk : decide ((l.length : Int) < (l.length : Int)) = false := by simp
    clear hB hsl
    go_wp2
    go_ret2
    exact ⟨hbo, .inr ⟨HAC.out, rfl, HBF.out⟩⟩
theorem RetStar.yes {n : Nat} {a : List Int} {l : List (List Int)} {w w' : World} {e : Ending} (h : RetStar n a l w e w') (ha : ActsOn n a l) : Below w.heap.size w w' ∧ e = .returned (.tuple #[.slice (some ⟨w.heap.size, 0, none⟩) l.length l.length, .bool true]) ∧ Blk w' w.heap.size 3 (iarr (img n a l)) := by
 rcases h with ⟨hb, ⟨h, _⟩ | ⟨_, h⟩⟩
 ·exact absurd ha h
 ·exact ⟨hb, h⟩
theorem RetStar.no {n : Nat} {a : List Int} {l : List (List Int)} {w w' : World} {e : Ending} (h : RetStar n a l w e w') (ha : ¬ ActsOn n a l) : Below w.heap.size w w' ∧ e = .returned (.tuple #[.slice none 0 0, .bool false]) := by
 rcases h with ⟨hb, ⟨_, h⟩ | ⟨h, _⟩⟩
 ·exact ⟨hb, h⟩
 ·exact absurd h ha
end Go.Proofs.Tg.Bk
end
