/- Parts of the proof: IM12, IM13. -/
import Derived.Test.YtbgaiceakmmfdaaGreatDoorMMR0
import Derived.Test.YtbgaiceakmmfdaaGreatDoorMMR14
set_option maxHeartbeats 64000000
set_option maxRecDepth 100000
section
namespace Go.Bw
theorem dv_round {A V L M j n c q d kb : Nat} {us qs zs : List Nat} (h : DvSt A V L M (j + 1) us qs) (hVn : V ≤ B ^ n) (hjl : j + n < L) (hn : 0 < n) (hc : us[j + n]? = some c) (hq : q = val (us.drop j) / V) (hV0 : 0 < V) (he : d = q ∨ d = q + 1) (hs : val zs + d * V = val ((us.drop j).take n) + B ^ n * kb) (hzl : zs.length = n) (hzd : Dig zs) :
    (kb ≤ c → d = q ∧ val zs = val (us.drop j) % V ∧ c = kb) ∧ (c < kb → d = q + 1 ∧ kb = c + 1 ∧ val zs + V = val (us.drop j) % V + B ^ n) := by
  obtain ⟨h1, _, _⟩ := h.window hVn hjl hn
  have e : (us.drop j).getD n 0 = c := by rw [List.getD_eq_getElem?_getD, List.getElem?_drop, hc]; rfl
  rw [e] at h1
  have hz : val zs < B ^ n := by have := val_lt hzd; rwa [hzl] at this
  have hs' : val zs + d * V = val ((us.drop j).take n) + B ^ n * (kb + 0) := hs; exact ⟨fun h => digit_right hq hV0 hVn he h1 hs' hz h, fun h => digit_wrong hq hV0 hVn he h1 hs' hz h⟩
end Go.Bw
namespace Go.Proofs.Tg.Iw
open Go.RowKit Go.Bw Go.Gr Go.Proofs.Tg
theorem div_long (X Y : Option Addr) (cx cy a b : Nat) (w : World) (hX : NW w X cx a) (hY : NW w Y cy b) (hn : (dg a).length ≤ 400000) (hab : b ≤ a) (hb2 : 2 ≤ (dg b).length) :
    Calls Tryz.prog 111 #[.slice X (dg a).length cx, .slice Y (dg b).length cy] w (RetDiv a b w) := by
  have hb0 : b ≠ 0 := fun e => by rw [e, dg_zero] at hb2; simp at hb2
  have hlen := Go.Bw.dg_len_mono hab; obtain ⟨z, hz⟩ := eqx ((if a < b then (-1 : Int) else if a = b then 0 else 1) : Int); have HC := zh (cmp_n X Y cx cy a b w hX.wds hY.wds (by omega)); rw [hz] at HC
  have hzb : decide (z < 0) = false := by
   rw [← hz, if_neg (by omega)]
   split <;> simp
  clear hz; obtain ⟨lo, t, hlo, ht0, htB⟩ := top_digit hb0; obtain ⟨k1, k2, k3⟩ := lz_spec ht0 htB; obtain ⟨k, hk⟩ := eqx (64 - Lib.bitLen t); have HLZ := zh (lz64 t k htB hk (blen64 ht0 htB).2.1); rw [hk] at k1 k2 k3; clear hk; obtain ⟨n, hnn⟩ := eqx ((dg b).length); obtain ⟨la, hla⟩ := eqx ((dg a).length)
  have hll : lo.length = n - 1 := by
   have := congrArg List.length hlo; rw [List.length_append, hnn] at this; simp at this; omega
  obtain ⟨vs', x, y, hV, hvl, hvd, hxB, hyB, hbig⟩ := norm_top hlo hll (by omega) k1 k2 k3; obtain ⟨V, hVV⟩ := eqx (b * 2 ^ k); rw [hVV] at hV
  have hVl : (dg V).length = n := by rw [hV]; simp [hvl]; omega
  have hV0 : 0 < V := by rw [← hVV]; exact Nat.mul_pos (by omega) (Nat.two_pow_pos k)
  have hVn : V ≤ B ^ n := by rw [← hVl]; exact Nat.le_of_lt (val_lt_dg V)
  have hbge : B ^ (n - 1) ≤ b := by
   have h := dg_len_lt (n := b) (k := n - 1)
   rcases Nat.lt_or_ge b (B ^ (n - 1)) with h1 | h1
   ·have := h h1; omega
   ·exact h1
  have haB : a < B ^ la := by rw [← hla]; exact val_lt_dg a
  have hAB : a * 2 ^ k < B ^ (la + 1) := by
   rw [Nat.pow_succ]; exact Nat.lt_of_lt_of_le (Nat.mul_lt_mul_of_pos_right haB (Nat.two_pow_pos k)) (Nat.mul_le_mul_left _ (Nat.pow_le_pow_right (show 0 < 2 by decide) (show k ≤ 64 by omega)))
  obtain ⟨A, hA⟩ := eqx (a * 2 ^ k); rw [hA] at hAB; have hmA : (dg A).length ≤ la + 1 := dg_len_lt hAB
  have hA0 : 0 < (dg A).length := by
   rcases Nat.eq_zero_or_pos (dg A).length with h | h
   ·have := len_zero h; rw [← hA] at this; have h2 : 0 < a * 2 ^ k := Nat.mul_pos (by omega) (Nat.two_pow_pos k); omega
   ·exact h
  -- the contracts
  obtain ⟨yd, hYd, hty⟩ : ∃ yd, Y = some yd ∧ ∀ V, Below w.heap.size w V → V.cell? (yd.add (n - 1)) = some (.int .u64 (t : Nat)) := by
   obtain ⟨yd, e, _, hc⟩ := Sl.lies hY.wds (by omega); refine ⟨yd, e, fun V hV => keep_cell hV (hc _ _ ?_)⟩; rw [hlo, List.getElem?_map, List.getElem?_append_right (by omega), hll, Nat.sub_self]
   rfl
  have HTY := zh hty
  have HSY : Hid (∀ W, Below w.heap.size w W → Calls Tryz.prog 126 #[.slice Y n cy, .int .u64 (k : Nat)] W fun e w' => ∃ D cd, e = .returned (.slice (some D) n cd) ∧ NW w' (some D) cd V ∧ Below W.heap.size W w') := zh (fun W h => by
   have := shl_w Y cy b k W (hY.keep h) k1 (by omega); rw [hnn] at this; refine this.mono ?_; rintro e w' ⟨R, c, rfl, hN, hb⟩; rw [hVV] at hN ⊢; obtain ⟨D, hD, _⟩ := Sl.lies hN.wds (by omega); subst hD
   exact ⟨D, c, by rw [hVl], hN, hb⟩)
  have HSX : Hid (∀ W, Below w.heap.size w W → Calls Tryz.prog 126 #[.slice X la cx, .int .u64 (k : Nat)] W fun e w' => ∃ R c, e = .returned (.slice (some R) (dg A).length c) ∧ NW w' (some R) c A ∧ Below W.heap.size W w') := zh (fun W h => by
   have := shl_w X cx a k W (hX.keep h) k1 (by omega); rw [hla] at this; refine this.mono ?_; rintro e w' ⟨R, c, rfl, hN, hb⟩; rw [hA] at hN ⊢; obtain ⟨D, hD, _⟩ := Sl.lies hN.wds (by omega); subst hD
   exact ⟨D, c, rfl, hN, hb⟩)
  have HFIN : Hid (A / V = a / b ∧ A % V / 2 ^ k = a % b) := zh (by
   obtain ⟨g1, g2⟩ := shift_div (a := a) (b := b) (s := k); rw [hA, hVV] at g1 g2
   exact ⟨g1, by rw [g2, Nat.mul_div_cancel _ (Nat.two_pow_pos k)]⟩)
  have HDV0 : Hid (∀ us, us.length = la + 1 → Dig us → val us = A → DvSt A V (la + 1) (la - n + 1) (la - n + 1) us []) := zh (fun us h1 h2 h3 => by
   have := dv_start (a := a) (b := b) (k := k) (n := n) (la := la) (us := us) hbge haB (by omega) (by omega) h1 h2 (by rw [h3, hA])
   rwa [hA, hVV] at this)
  obtain ⟨Q, hQ⟩ := eqx (RetDiv a b w)
  have HRET : Hid (∀ wr us qs gu gq w1, Below w.heap.size w w1 → DsM w1 A V (la + 1) (la - n + 1) gu gq wr 0 us qs → w1.heap.size ≤ gu → w1.heap.size ≤ gq →
      Calls Tryz.prog 88 #[.slice (some ⟨gq, 0, none⟩) (la - n + 1) (la - n + 1)] wr fun e w2 => wr = w2 ∧ ∃ m1 c1, e = .returned (.slice (some ⟨gq, 0, none⟩) m1 c1) ∧
      Calls Tryz.prog 88 #[.slice (some ⟨gu, 0, none⟩) (la + 1) (la + 1)] wr fun e w3 => wr = w3 ∧ ∃ m2 c2, e = .returned (.slice (some ⟨gu, 0, none⟩) m2 c2) ∧
      Calls Tryz.prog 131 #[.slice (some ⟨gu, 0, none⟩) m2 c2, .int .u64 (k : Nat)] wr fun e w4 => ∃ v, e = .returned v ∧ Q (.returned (.tuple #[.slice (some ⟨gq, 0, none⟩) m1 c1, v])) w4) := zh (fun wr us qs gu gq w1 hw1 h _ _ => by
    obtain ⟨g1, g2⟩ := h.st.done
    have hql : qs.length = la - n + 1 := by have := h.st.qlen; omega
    have hul := h.st.len; have hb := h.bq; rw [List.replicate_zero, List.nil_append] at hb; have ht1 := trim_n (some ⟨gq, 0, none⟩) (la - n + 1) qs wr (sets_blk hb rfl) h.st.qdig (by omega) (by omega); rw [hql, g1] at ht1; refine ht1.mono ?_; rintro e w2 ⟨rfl, rfl, hN1⟩; refine ⟨rfl, _, _, rfl, ?_⟩; have ht2 := trim_n (some ⟨gu, 0, none⟩) (la + 1) us wr (sets_blk h.bu rfl) h.st.dig (by omega) (by omega); rw [hul, g2] at ht2; refine ht2.mono ?_; rintro e w3 ⟨rfl, rfl, hN2⟩; refine ⟨rfl, _, _, rfl, ?_⟩
    have hs := shr_w (some ⟨gu, 0, none⟩) (la + 1) (A % V) k wr hN2 k1 (by
     have h1 := val_lt (xs := us) h.st.dig; rw [g2, hul] at h1; have := dg_len_lt h1
     omega)
    refine hs.mono ?_; rintro e w4 ⟨R, c, rfl, hN3, hb4⟩; obtain ⟨e1, e2⟩ := HFIN.out; rw [e2] at hN3; refine ⟨_, rfl, ?_⟩; rw [← hQ, e2, e1]; rw [e1] at hN1
    exact ⟨_, _, _, _, rfl, hN1.keep hb4, hN3, below_all (below_all hw1 h.below) hb4⟩)
  have HVX : Hid (∃ vs x y, dg V = vs ++ [x, y] ∧ vs.length = n - 2 ∧ x < B ∧ y < B ∧ B ≤ 2 * y) := zh ⟨vs', x, y, hV, hvl, hxB, hyB, hbig⟩; have HVN := zh hVn; have HVL := zh hVl; have HMA := zh hmA; have HAL := zh hA0; subst hYd; rw [hQ, hnn, hla]; rw [hnn, hla] at HC; rw [hnn] at hb2 hlen; rw [hla] at hlen hn; clear hX hY hQ hlo hll hV hvl hvd hxB hyB hbig hVn hbge haB hAB hA hVV hVl hty hnn hla k2 k3 ht0 hab hb0 htB hmA hA0; obtain ⟨m, hm⟩ := eqx (la - n); rw [hm] at HRET HDV0
  have hlm : la = m + n := by omega
  have HLM := zh hlm; clear hm; have n1 : ((n : Int) == 1) = false := beq_eq_false_iff_ne.2 (by omega); have n1' : (n == 1) = false := beq_eq_false_iff_ne.2 (by omega); have n1n : (n = 1) = False := eq_false (by omega)
  have n2 : (n : Int) - 1 = ((n - 1 : Nat) : Int) := by omega
  obtain ⟨n', hn'⟩ := eqx (n - 1); rw [hn'] at n2 HTY; have n3 : IntKind.i64.wrap (n' : Int) = (n' : Int) := IntWalk.i64_in _ (by omega); have n4 : IntKind.i64.wrap ((n : Int) - 1) = (n' : Int) := (IntWalk.i64_in _ (by omega)).trans n2
  have n5 : (0 : Int) ≤ (n' : Int) := by omega
  have n6 : (n' : Int) < (n : Int) := by omega
  have n7 : ((n' : Int)).toNat = n' := by omega
  have k4 : IntKind.u64.wrap (k : Int) = (k : Int) := Go.Proofs.Mul64.wrapN _ (by omega); clear hlm; go_enter Tryz.func111, Tryz.ntmps111
  go_upto_region 7 with (go_at_call 77; refine HC.out.mono ?_; rintro e w1 ⟨rfl, hd1⟩; have HB1 := zh hd1.below; clear hd1)
  have c0 := HTY.out _ HB1.out
  go_upto_region 9 with (first
    | (go_at_call 109; refine (HLZ.out _).mono ?_; rintro e w2 ⟨rfl, rfl⟩)
    | (go_at_call 126; refine (HSY.out _ HB1.out).mono ?_; rintro e w2 ⟨D, cd, rfl, hD2, hb2⟩; have HD2 := zh hD2; have HB2 := zh (below_all HB1.out hb2); clear hD2 hb2))
  clear c0 HSY HLZ HC HTY
  have hmk := fun W => make_words (la + 1) (by omega) W
  have hc1 : ((la + 1 : Nat) : Int) = (la : Int) + 1 := by omega
  rw [hc1] at hmk; clear hc1; have l1 : IntKind.i64.wrap ((la : Int) + 1) = (la : Int) + 1 := IntWalk.i64_in _ (by omega); go_upto_region 10 with (fail); clear hmk; obtain ⟨gu, hgu⟩ := eqx (w2.heap.size); rw [hgu]; obtain ⟨W, hW⟩ := eqx (w2.alloc (.cells (madeCells #[.int .u64 0] (la + 1)) 118)); have HBW : Hid (Blk W gu 118 (warr (List.replicate (la + 1) 0))) := zh (by rw [← hW, ← warr_made, ← hgu]; exact Blk.new _ _ _); have HW2 : Hid (Below w2.heap.size w2 W) := zh (by rw [← hW]; exact bal); rw [hW]; clear hW; obtain ⟨ex, hex⟩ : ∃ ex, (dg A).length + ex = la + 1 := ⟨la + 1 - (dg A).length, by have := HMA.out; omega⟩; have HCP := zh (copy_words (xs := dg A) rfl ex); rw [hex] at HCP; have HLN : Hid ((((dg A).map vs)).length = Nat.min (dg A).length (la + 1)) := zh (by rw [List.length_map]; exact (Nat.min_eq_left (by omega)).symm)
  have HFT : Hid (0 + ((dg A).map vs).length ≤ (warr (List.replicate (la + 1) 0)).size) := zh (by rw [warr_size]; simp; omega); have HON := zh (vs_one (dg A))
  have HSRC : Hid (∀ (V : World) (R : Addr) (c : Nat), NW V (some R) c A → ∀ j u, ((dg A).map vs)[j]? = some u → V.cell? (R.add j) = some u) := zh (fun V R c hN j u hu => by
   obtain ⟨R', e, _, hc⟩ := Sl.lies hN.wds HAL.out
   injection e with e
   subst e
   exact hc j u hu)
  have HU0 : Hid (DvSt A V (la + 1) (m + 1) (m + 1) (dg A ++ List.replicate ex 0) []) := zh (HDV0.out _ (by rw [List.length_append, List.length_replicate, hex]) (dig_app (dg_dig A) (fun x hx => by rw [List.eq_of_mem_replicate hx]; decide)) (by rw [val_app, val_zeros, Nat.mul_zero, Nat.add_zero, val_dg])); obtain ⟨us0, hus0⟩ := eqx (dg A ++ List.replicate ex 0); rw [hus0] at HU0 HCP; clear hus0 hex HDV0; generalize dg A = As at *; generalize hAs : As.length = lA at *; clear hAs
  go_upto_region 11 with (first
    | (go_at_call 126; refine (HSX.out _ (below_all HB2.out HW2.out)).mono ?_; rintro e w3 ⟨R, cr, rfl, hN3, hb3⟩
       have HB3 := zh (HBW.out.keep hb3 HBW.out.lt); have HC3 := zh (HSRC.out w3 R cr hN3); have HW3 := zh (below_all HW2.out hb3)
       clear hN3 hb3)
    | (refine wpList_copy_own rfl (.tmp 57) (.tmp 60) 66 66 rfl 118 Tryz.underlying66 u64_size gu 0 (la + 1) (la + 1) R lA cr rfl rfl (warr (List.replicate (la + 1) 0)) 118 HB3.out (As.map vs) HLN.out HC3.out HFT.out HON.out ?_
       rw [HCP.out]))
  have hB4 : Blk (w3.setRow gu (warr us0)) gu 118 (warr us0) := setRow_heap w3 gu _ _ _ _ HB3.out; have hW4 : Below w2.heap.size w2 (w3.setRow gu (warr us0)) := below_setRow HW3.out (by omega) _; generalize w3.setRow gu (warr us0) = w4 at *; have HB4 := zh hB4; have HW4 := zh hW4; have hgul := hB4.lt; clear hB4 hW4 HB3 HC3 HW3 HBW HW2 HCP HLN HFT HON HSRC HSX
  have hla : (la : Int) = (m : Int) + (n : Int) := by have := HLM.out; omega
  have e1 : IntKind.i64.wrap ((la : Int) - (n : Int)) = (m : Int) := (IntWalk.i64_in _ (by omega)).trans (by omega)
  have e2 : (la : Int) - (n : Int) = (m : Int) := by omega
  have e3 : IntKind.i64.wrap ((m : Int) + 1) = (m : Int) + 1 := IntWalk.i64_in _ (by omega); have e4 : IntKind.i64.wrap (m : Int) = (m : Int) := IntWalk.i64_in _ (by omega); clear hla
  have hmk := fun W => make_words (m + 1) (by omega) W
  have hc1 : ((m + 1 : Nat) : Int) = (m : Int) + 1 := by omega
  rw [hc1] at hmk; clear hc1; go_upto_region 12 with (fail); clear hmk; obtain ⟨gq, hgq⟩ := eqx (w4.heap.size); rw [hgq]; obtain ⟨W, hW⟩ := eqx (w4.alloc (.cells (madeCells #[.int .u64 0] (m + 1)) 118))
  have HD0 : Hid (DsM w2 A V (la + 1) (m + 1) gu gq W (m + 1) us0 []) := zh (by
   refine ⟨HU0.out, ?_, ?_, ?_⟩
   ·rw [← hW]; exact HB4.out.alloc _
   ·rw [← hW, List.append_nil, ← warr_made, ← hgq]; exact Blk.new _ _ _
   ·rw [← hW]; exact HW4.out.alloc HW4.out.size _)
  rw [hW]
  have hne : gu ≠ gq := by omega
  have hg1 : w2.heap.size ≤ gu := by omega
  have hg2 : w2.heap.size ≤ gq := by omega
  clear hW HB4 HW4 HU0 hgul hgq hgu; go_wp2
  go_loopw [13] (fun s13 wr => ∃ (kk : Nat) (us qs : List Nat), s13 = .int .i64 ((kk : Int) - 1) ∧ kk ≤ m + 1 ∧ Hid (DsM w2 A V (la + 1) (m + 1) gu gq wr kk us qs)) (fun s13 _ => (intOf s13 + 1).toNat)
  case atStart => exact ⟨m + 1, us0, [], by congr 1; omega, Nat.le_refl _, HD0⟩
  case round =>
   clear HD0; obtain ⟨wo, rfl⟩ : ∃ wo : World, wo = wr := ⟨_, rfl⟩; obtain ⟨kk, us, qs, rfl, hkk, HST⟩ := hrel
   cases kk with
   | zero =>
     have dd : decide ((0 : Int) ≤ ((0 : Nat) : Int) - 1) = false := by decide
     have HR := zh (HRET.out wo us qs gu gq w2 HB2.out HST.out hg1 hg2); clear HRET HST; go_upto_region 29 with (fail); go_wp2_with (fail); refine HR.out.mono ?_; rintro e w5 ⟨rfl, m1, c1, rfl, h1⟩; have H1 := zh h1; clear h1; go_wp2_with (fail); refine H1.out.mono ?_; rintro e w5 ⟨rfl, m2, c2, rfl, h2⟩; have H2 := zh h2; clear h2; go_wp2_with (fail); refine H2.out.mono ?_; rintro e w5 ⟨v, rfl, h3⟩; have H3 := zh h3; clear h3; go_wp2; exact H3.out
   | succ j =>
     have hkj : ((j + 1 : Nat) : Int) - 1 = (j : Int) := by omega
     rw [hkj]; clear hkj
     have hjm : j ≤ m := by omega
     have hjl : j + n < la + 1 := by have := HLM.out; omega
     have hul := HST.out.st.len
     have gu1 : j + n < us.length := by omega
     have gu2 : j + n - 1 < us.length := by omega
     have gu3 : j + n - 2 < us.length := by omega
     obtain ⟨c, hc⟩ : ∃ c, us[j + n]? = some c := ⟨_, List.getElem?_eq_getElem gu1⟩; obtain ⟨b', hb'⟩ : ∃ c, us[j + n - 1]? = some c := ⟨_, List.getElem?_eq_getElem gu2⟩; obtain ⟨a', ha'⟩ : ∃ c, us[j + n - 2]? = some c := ⟨_, List.getElem?_eq_getElem gu3⟩
     have hcB : c < 18446744073709551616 := by obtain ⟨_, e⟩ := List.getElem?_eq_some_iff.1 hc; rw [← e]; exact HST.out.st.dig _ (List.getElem_mem _)
     have hbB : b' < 18446744073709551616 := by obtain ⟨_, e⟩ := List.getElem?_eq_some_iff.1 hb'; rw [← e]; exact HST.out.st.dig _ (List.getElem_mem _)
     obtain ⟨q, hq⟩ := eqx (val (us.drop j) / V); have HQQ := zh hq.symm
     have HEST : Hid (Calls Tryz.prog 133 #[.slice (some ⟨gu, j, none⟩) (n + 1) (la + 1 - j), .slice (some D) n cd] wo (RetEst q wo)) := zh (by
      obtain ⟨vs, x, y, hV, hvl, hxB, hyB, hbig⟩ := HVX.out; have hT := HST.out.st.tops hV hvl hb2 hjl hxB hyB hbig ha' hb' hc; obtain ⟨_, hw, _⟩ := HST.out.st.window HVN.out hjl (by omega)
      have hcell : ∀ i v, us[i]? = some v → wo.cell? ⟨gu, i, none⟩ = some (.int .u64 (v : Nat)) := fun i v h => (HST.out.bu.cell i).trans (warr_at h)
      have hDs := HD2.out.wds.keep HST.out.below
      have hyc : ∀ i v, (dg V)[i]? = some v → wo.cell? (D.add i) = some (.int .u64 (v : Nat)) := fun i v h => by
       obtain ⟨D', e, _, hc⟩ := Sl.lies hDs (by rw [HVL.out]; omega)
       injection e with e
       subst e; exact hc i _ (by rw [List.getElem?_map, h]; rfl)
      refine est_any ⟨gu, j, none⟩ D (la + 1 - j) cd n (n - 1) (n - 2) (n + 1) c b' a' y x (val (us.drop j)) V (B ^ (n - 2)) q wo (by omega) (by omega) rfl (by omega) ?_ ?_ ?_ ?_ ?_ hT (Nat.pow_pos (by decide)) hV0 hq.symm hw hcB hbB
      ·rw [add_lit]; exact hcell _ _ hc
      ·rw [add_lit]; exact hcell _ _ (by rw [show j + (n - 1) = j + n - 1 by omega]; exact hb')
      ·rw [add_lit]; exact hcell _ _ (by rw [show j + (n - 2) = j + n - 2 by omega]; exact ha')
      ·exact hyc _ _ (by rw [hV, List.getElem?_append_right (by omega), hvl, show n - 1 - (n - 2) = 1 by omega]; rfl)
      ·exact hyc _ _ (by rw [hV, List.getElem?_append_right (by omega), hvl, Nat.sub_self]; rfl))
     have q0 : (0 : Int) ≤ (j : Int) := by omega
     have q1 : (0 : Int) ≤ (j : Int) + (n : Int) := by omega
     have q2 : (j : Int) + (n : Int) < (la : Int) + 1 := by omega
     have q3 : ((j : Int) + (n : Int)).toNat = j + n := by omega
     have q4 : IntKind.i64.wrap ((j : Int) + (n : Int)) = (j : Int) + (n : Int) := IntWalk.i64_in _ (by omega); have q5 : IntKind.i64.wrap ((j : Int) + (n : Int) + 1) = (j : Int) + (n : Int) + 1 := IntWalk.i64_in _ (by omega)
     have q6 : ((j : Int)).toNat = j := by omega
     have q7 : (j : Int) ≤ (la : Int) + 1 := by omega
     have q8 : (j : Int) + (n : Int) + 1 ≤ (la : Int) + 1 := by omega
     have q9 : (j : Int) ≤ (j : Int) + (n : Int) + 1 := by omega
     have hs1 : j + n + 1 - j = n + 1 := by omega
     have hs2 : j + n - j = n := by omega
     have HSUB : Hid (∀ V' d, Below wo.heap.size wo V' → d < B → Calls Tryz.prog 134 #[.slice (some ⟨gu, j, none⟩) n (la + 1 - j), .slice (some D) n cd, .int .u64 (d : Nat)] V' fun e w' => ∃ kb zs, e = .returned (.int .u64 (kb : Nat)) ∧ kb < B ∧ zs.length = n ∧ Dig zs ∧ val zs + d * V = val ((us.drop j).take n) + B ^ n * kb ∧ Blk w' gu 118 (warr (us.take j ++ (zs ++ us.drop (j + n)))) ∧ Blk w' gq 118 (warr (List.replicate (j + 1) 0 ++ qs)) ∧ Below w2.heap.size w2 w') := zh (fun V' d hV' hd => by
      have hk := HST.out.keep hV'
      have hne2 : ∀ ad, some D = some ad → ad.block ≠ gu := fun ad e => by
       injection e with e
       subst e; obtain ⟨D', e', hlt, _⟩ := Sl.lies HD2.out.wds (by rw [HVL.out]; omega)
       injection e' with e'
       subst e'; omega
      have := subp_any gu j d (la + 1 - j) cd us (dg V) (some D) V' hk.bu (HD2.out.wds.keep hk.below) hne2 hk.st.dig (dg_dig V) hd (by rw [HVL.out]; omega) (by omega); rw [HVL.out] at this; refine this.mono ?_; rintro e w' ⟨kb, zs, rfl, hsp⟩; have he := hsp.eq; rw [HVL.out] at he; have hbk := hsp.blk; rw [HVL.out] at hbk; rw [take_all (by rw [HVL.out]; exact Nat.le_refl _), val_dg] at he
      exact ⟨kb, zs, rfl, hsp.lt, hsp.len.trans HVL.out, hsp.dig, he, hbk, hsp.only.blk hk.bq (fun e => hne e.symm), hsp.only.below hk.below hg1⟩)
     have HDR : Hid (∀ d kb zs, (d = q ∨ d = q + 1) → val zs + d * V = val ((us.drop j).take n) + B ^ n * kb → zs.length = n → Dig zs → (kb ≤ c → d = q ∧ val zs = val (us.drop j) % V ∧ c = kb) ∧ (c < kb → d = q + 1 ∧ kb = c + 1 ∧ val zs + V = val (us.drop j) % V + B ^ n)) := zh (fun d kb zs h1 h2 h3 h4 => dv_round HST.out.st HVN.out hjl (by omega) hc hq.symm hV0 h1 h2 h3 h4); have HUC := zh hc; have HUD := zh HST.out.st.dig; clear hc hb' ha' gu1 gu2 gu3 hq hbB; go_upto_region 15 with (fail); go_wp2_with (fail)
     try rw [hs1]
     refine HEST.out.mono ?_; rintro e w5 ⟨d, rfl, hd1, hdB, hb5⟩; have HS5 := zh (HSUB.out w5 d hb5 hdB); have HD1 := zh hd1; clear HEST HSUB hd1 hb5; go_wp2_with (fail)
     try rw [hs2]
     refine HS5.out.mono ?_; rintro e w6 ⟨kb, zs, rfl, hkB, hzl, hzd, he, hbu, hbq, hb6⟩; obtain ⟨g1, g2⟩ := HDR.out d kb zs HD1.out he hzl hzd; have hlu : us.length = la + 1 := hul
     have gj : j + n < us.length := by omega
     have ht6 : (us.take j ++ (zs ++ us.drop (j + n)))[j + n]? = some c := by
      rw [mid_get gj hzl]; have := HUC.out
      rwa [List.getElem?_eq_getElem gj] at this
     have c6 := (hbu.cell (j + n)).trans (warr_at ht6); have f6 := hbu.frozen (j + n); have HZL := zh hzl; have HZD := zh hzd; clear HS5 HDR HD1 he hzl hzd ht6; have hdB2 : d < 18446744073709551616 := hdB; have hkB2 : kb < 18446744073709551616 := hkB; have r0 : (0 : Int) ≤ (j : Int) := q0
     have r1 : (j : Int) < (m : Int) + 1 := by omega
     by_cases hck : c < kb
     ·obtain ⟨rfl, rfl, hzV⟩ := g2 hck; have HZV := zh hzV; clear g1 g2 hzV
      have y1 : IntKind.u64.wrap ((c : Int) - ((c + 1 : Nat) : Int)) = 18446744073709551615 := by
       rw [show (c : Int) - ((c + 1 : Nat) : Int) = -1 by omega]; rfl
      obtain ⟨kb, hkb⟩ := eqx (c + 1); rw [hkb] at y1 hck ⊢
      have y2 : IntKind.u64.wrap (((q + 1 : Nat) : Int) - 1) = (q : Int) := by
       rw [show ((q + 1 : Nat) : Int) - 1 = (q : Int) by omega]; exact Go.Proofs.Mul64.wrapN _ (by omega)
      obtain ⟨dd, hdd⟩ := eqx (q + 1); rw [hdd] at y2 ⊢; have d1 : decide ((c : Int) < (kb : Int)) = true := dT (by omega); have d2 : decide (c < kb) = true := dT hck; clear hkb hdd hck
      have hB7 : Blk (w6.setCell ⟨gu, j + n, none⟩ (.int .u64 18446744073709551615)) gu 118 (warr (us.take j ++ (zs ++ 18446744073709551615 :: us.drop (j + n + 1)))) := by
       have := hbu.set (j + n) (.int .u64 ((18446744073709551615 : Nat) : Int)); rw [warr_set, mid_set1 gj HZL.out] at this; exact this
      have hQ7 := hbq.far (p := ⟨gu, j + n, none⟩) (fun e => hne e.symm) (.int .u64 18446744073709551615); have hb7 := below_far hb6 hg1 (j + n) (.int .u64 18446744073709551615); have HNX := zh (fun V' zs2 (h0 : val zs2 = val (us.drop j) % V) (h4 : zs2.length = n) (h5 : Dig zs2) (h1 : Blk V' gu 118 (warr (us.take j ++ (zs2 ++ 0 :: us.drop (j + n + 1))))) h2 h3 => HST.out.next (wr := V') HVN.out hjl (by omega) HQQ.out hV0 h0 h4 h5 h1 h2 h3 hg2 hne); clear hbu hbq hb6; go_upto_region 22 with (fail); clear c6 f6; generalize w6.setCell ⟨gu, j + n, none⟩ (.int .u64 18446744073709551615) = w7 at *; obtain ⟨us1, hus1⟩ := eqx (us.take j ++ (zs ++ 18446744073709551615 :: us.drop (j + n + 1))); rw [hus1] at hB7; have HUS1 := zh hus1
      have hl1 : us1.length = la + 1 := by
       rw [← hus1]; simp only [List.length_append, List.length_take, List.length_cons, List.length_drop, HZL.out]; omega
      have HDG1 : Hid (Dig us1) := zh (by
       rw [← hus1]
       exact dig_app (dig_tak HUD.out _) (dig_app HZD.out (dig_cons (by decide) (dig_drop HUD.out _))))
      have HNE2 : Hid (D.block ≠ gu) := zh (by
       obtain ⟨D', e', hlt, _⟩ := Sl.lies HD2.out.wds (by rw [HVL.out]; omega)
       injection e' with e'
       subst e'
       omega)
      have HDC : Hid (∀ i v, (dg V)[i]? = some v → w7.cell? (D.add i) = some (.int .u64 (v : Nat))) := zh (fun i v h => by
       obtain ⟨D', e, _, hc⟩ := Sl.lies (HD2.out.wds.keep hb7) (by rw [HVL.out]; omega)
       injection e with e
       subst e
       exact hc i _ (by rw [List.getElem?_map, h]; rfl))
      have H0 : Hid (AdM w7 gu j us1 (dg V) w7 0 0 []) := zh ⟨rfl, fun _ hx => absurd hx (by simp), by decide, by simp [val], by
       rw [List.nil_append, Nat.add_zero, List.take_append_drop]; exact hB7, Only.refl _ _⟩
      have HQ7 := zh hQ7; have HB7 := zh hb7; have HL1 := zh hl1; clear hus1 hB7 hQ7 hb7 hl1; go_wp2
      go_loopw [17, 115] (fun s17 s115 wr => ∃ (i cr : Nat) (ws : List Nat), s115 = .int .i64 i ∧ i ≤ n ∧ s17 = .int .u64 (cr : Nat) ∧ Hid (AdM w7 gu j us1 (dg V) wr i cr ws)) (fun _ s115 _ => n - (intOf s115).toNat)
      case atStart => exact ⟨0, 0, [], rfl, Nat.zero_le _, rfl, H0⟩
      case round =>
       clear H0; obtain ⟨wi, rfl⟩ : ∃ wi : World, wi = wr := ⟨_, rfl⟩; obtain ⟨i, cr, ws, rfl, hi, rfl, HA⟩ := hrel; have hk1 := HA.out.le1
       by_cases hin : i < n
       ·have hiV : i < (dg V).length := by rw [HVL.out]; exact hin
        have hiu : j + i < us1.length := by rw [HL1.out]; omega
        have hcy := (HA.out.only.cell (p := D.add i) (by rw [add_block]; exact HNE2.out)).trans (HDC.out i _ (List.getElem?_eq_getElem hiV)); have hbc := HA.out.blk.cell (j + i); rw [warr_at (win_get HA.out.len hiu)] at hbc; have hbf := HA.out.blk.frozen (j + i); have hxB := HDG1.out us1[j + i] (List.getElem_mem _); have hyB := dg_dig V (dg V)[i] (List.getElem_mem _); obtain ⟨x, hx⟩ := eqx (us1[j + i]); have HNX2 : Hid (∀ d k', d + B * k' = x + ((dg V)[i] + cr) → d < B → k' ≤ 1 → AdM w7 gu j us1 (dg V) (wi.setCell ⟨gu, j + i, none⟩ (.int .u64 (d : Nat))) (i + 1) k' (ws ++ [d])) := zh (fun d k' a b c => HA.out.next hiu hx (val_snoc_take hiV) a b c); rw [hx] at hbc hxB; clear hx; generalize (dg V)[i] = y at *
        have hAd : ∀ V, (callFunc 122 #[.int .u64 (x : Nat), .int .u64 (y : Nat), .int .u64 (cr : Nat)]).run Tryz.prog V = _ := fun V => add64 x y cr hk1 V
        obtain ⟨d3, hd⟩ := eqx ((x + y + cr) % B); obtain ⟨c3, hc2⟩ := eqx ((x + y + cr) / B : Nat); rw [hd, hc2] at hAd; have g1 := add_dig (x := x) (y := y) (c := cr); rw [hd, hc2] at g1; have HY := zh (HNX2.out d3 c3 g1 (by rw [← hd]; exact Nat.mod_lt _ (by decide)) (by rw [← hc2]; exact add_car hxB hyB hk1)); clear hd hc2 g1 HNX2 hxB hyB
        have s0 : (0 : Int) ≤ (i : Int) := by omega
        have s1 : (i : Int) < (n : Int) := by omega
        have s3 : ((i : Int)).toNat = i := by omega
        have s4 : (0 : Int) ≤ (j : Int) + (i : Int) := by omega
        have s5 : (j : Int) + (i : Int) < (la : Int) + 1 := by omega
        have s6 : ((j : Int) + (i : Int)).toNat = j + i := by omega
        have s7 : IntKind.i64.wrap ((j : Int) + (i : Int)) = (j : Int) + (i : Int) := IntWalk.i64_in _ (by omega); have s8 : decide ((i : Int) < (n : Int)) = true := dT s1; have s9 : decide (i < n) = true := dT hin; go_wp2; go_roundw
        case rel => exact ⟨i + 1, c3, _, by go_num, by omega, rfl, HY⟩
        case measure => simp [intOf]; omega
       ·obtain rfl : i = n := by omega
        have s8 : decide ((i : Int) < (i : Int)) = false := by simp
        have hju : j ≤ us.length := by omega
        have e5 : (us1.drop j).take i = zs := by rw [← HUS1.out]; exact mid_drop hju HZL.out
        have e6 : us1.take j = us.take j := by rw [← HUS1.out]; exact mid_take hju
        have e7 : us1.drop (j + i) = 18446744073709551615 :: us.drop (j + i + 1) := by rw [← HUS1.out]; exact mid_tail hju HZL.out
        have he2 := HA.out.eq; have hb2 := HA.out.blk; rw [e5, take_all (ys := dg V) (by rw [HVL.out]; exact Nat.le_refl _), val_dg] at he2; rw [e6, e7] at hb2
        have hz2B : val ws < B ^ i := by have := val_lt HA.out.dig; rwa [HA.out.len] at this
        obtain ⟨hk2, hR⟩ := digit_back (Nat.mod_lt _ hV0) HVN.out he2 HZV.out hz2B; subst hk2; have hlw := HA.out.len; have hwd := HA.out.dig; have hbi := HA.out.only.below HB7.out hg1; have hqi := HA.out.only.blk HQ7.out (fun e => hne e.symm)
        have hli : (us.take j ++ (ws ++ 18446744073709551615 :: us.drop (j + i + 1)))[j + i]? = some 18446744073709551615 := by
         rw [← List.append_assoc, List.getElem?_append_right (by simp; omega)]
         have : j + i - (us.take j ++ ws).length = 0 := by simp; omega
         rw [this]; rfl
        have c8 : wi.cell? ⟨gu, j + i, none⟩ = some (.int .u64 18446744073709551615) := (hb2.cell (j + i)).trans (warr_at hli); have f8 := hb2.frozen (j + i)
        have hB9 : Blk (wi.setCell ⟨gu, j + i, none⟩ (.int .u64 0)) gu 118 (warr (us.take j ++ (ws ++ 0 :: us.drop (j + i + 1)))) := by
         have := hb2.set (j + i) (.int .u64 ((0 : Nat) : Int)); rw [warr_set] at this
         have e : (us.take j ++ (ws ++ 18446744073709551615 :: us.drop (j + i + 1))).set (j + i) 0 = us.take j ++ (ws ++ 0 :: us.drop (j + i + 1)) := by
          rw [← List.append_assoc, List.set_append_right _ _ (by simp; omega)]
          have : j + i - (us.take j ++ ws).length = 0 := by simp; omega
          rw [this, List.set_cons_zero, List.append_assoc]
         rw [e] at this; exact this
        have hQ9 := hqi.far (p := ⟨gu, j + i, none⟩) (fun e => hne e.symm) (.int .u64 0); have hb9 := below_far hbi hg1 (j + i) (.int .u64 0); have HY := zh (HNX.out _ ws hR hlw hwd hB9 hQ9 hb9); have c9 := hQ9.cell j; rw [warr_at (v := 0) (by rw [List.getElem?_append_left (by simp), List.getElem?_replicate, if_pos (by omega)])] at c9; have f9 := hQ9.frozen j; have v1 : IntKind.i64.wrap ((j : Int) - 1) = (j : Int) - 1 := IntWalk.i64_in _ (by omega); have v3 : IntKind.u64.wrap (18446744073709551616 : Int) = 0 := rfl; clear HNX hB9 hQ9 hb9 e5 e6 e7 he2 hb2 hz2B hR hlw hwd hbi hqi hli HA; go_upto_region 28 with (fail); generalize wi.setCell ⟨gu, j + i, none⟩ (.int .u64 0) = w9 at *; go_wp2; go_roundw
        case rel => exact ⟨j, _, _, rfl, by omega, HY⟩
        case measure => simp [intOf]
     ·obtain ⟨rfl, hzV, rfl⟩ := g1 (by omega); have HZV := zh hzV; clear g1 g2 hzV
      have y1 : IntKind.u64.wrap ((c : Int) - (c : Int)) = 0 := by rw [Int.sub_self]; rfl
      have d1 : decide ((c : Int) < (c : Int)) = false := by simp
      have hB7 := hbu.set (j + n) (.int .u64 ((0 : Nat) : Int)); rw [warr_set, mid_set1 gj HZL.out] at hB7; have hQ7 := hbq.far (p := ⟨gu, j + n, none⟩) (fun e => hne e.symm) (.int .u64 ((0 : Nat) : Int)); have hb7 := below_far hb6 hg1 (j + n) (.int .u64 ((0 : Nat) : Int)); have HNX := zh (fun V' (h1 : Blk V' gu 118 (warr (us.take j ++ (zs ++ 0 :: us.drop (j + n + 1))))) h2 h3 => HST.out.next (wr := V') HVN.out hjl (by omega) HQQ.out hV0 HZV.out HZL.out HZD.out h1 h2 h3 hg2 hne); clear hbu hbq hb6; go_upto_region 19 with (fail); clear c6 f6; have hst0 : w6.setCell ⟨gu, j + n, none⟩ (.int .u64 ((0 : Nat) : Int)) = w6.setCell ⟨gu, j + n, none⟩ (.int .u64 0) := rfl; rw [hst0] at hB7 hQ7 hb7; generalize w6.setCell ⟨gu, j + n, none⟩ (.int .u64 0) = w7 at *; have c7 := hQ7.cell j
      rw [warr_at (v := 0) (by rw [List.getElem?_append_left (by simp), List.getElem?_replicate, if_pos (by omega)])] at c7; have f7 := hQ7.frozen j; have HY := zh (HNX.out w7 hB7 hQ7 hb7); have v1 : IntKind.i64.wrap ((j : Int) - 1) = (j : Int) - 1 := IntWalk.i64_in _ (by omega); clear HNX hB7 hQ7 hb7 hst0; go_wp2; go_roundw
      case rel => exact ⟨j, _, _, rfl, by omega, HY⟩
      case measure => simp [intOf]
end Go.Proofs.Tg.Iw
end
namespace Go.Proofs.Tg.Iw
section
open Go.RowKit Go.Bw Go.Gr Go.Proofs.Tg
theorem divs_any (X Y : Option Addr) (cx cy a b : Nat) (w : World) (hX : NW w X cx a) (hY : NW w Y cy b) (hn : (dg a).length ≤ 400000) (hb : b ≠ 0) :
    Calls Tryz.prog 111 #[.slice X (dg a).length cx, .slice Y (dg b).length cy] w (RetDiv a b w) := by
  by_cases h : a < b
  ·exact div_small X Y cx cy a b w hX hY hn h
  ·by_cases h1 : (dg b).length = 1
   ·exact div_one X Y cx cy a b w hX hY hn (by omega) h1
   ·refine div_long X Y cx cy a b w hX hY hn (by omega) ?_
    have : (dg b).length ≠ 0 := fun e => hb (len_zero e)
    omega
theorem divw_any (X Y : Option Addr) (cx cy a b : Nat) (w : World) (hX : NW w X cx a) (hY : NW w Y cy b) (hn : (dg a).length ≤ 400000) (hnb : (dg b).length ≤ 400000) (hb : b ≠ 0) (hs : (dg b).length < 80 ∨ (dg a).length < (dg b).length + 80) :
    Calls Tryz.prog 86 #[.slice X (dg a).length cx, .slice Y (dg b).length cy] w (RetDiv a b w) := by
  have hD := divs_any X Y cx cy a b w hX hY hn hb
  have HD : Hid (Calls Tryz.prog 111 #[.slice X (dg a).length cx, .slice Y (dg b).length cy] w fun e w' => ∃ v1 v2, e = .returned (.tuple #[v1, v2]) ∧ RetDiv a b w (.returned (.tuple #[v1, v2])) w') := zh (hD.mono fun e w' h => by
   obtain ⟨Q, cq, R, cr, rfl, h2⟩ := h
   exact ⟨_, _, rfl, Q, cq, R, cr, rfl, h2⟩)
  obtain ⟨P, hP⟩ := eqx (RetDiv a b w); obtain ⟨la, hla⟩ := eqx ((dg a).length); obtain ⟨lb, hlb2⟩ := eqx ((dg b).length); rw [hla, hlb2] at HD ⊢; rw [hla] at hn; rw [hla, hlb2] at hs; rw [hP] at HD ⊢; rw [hlb2] at hnb; clear hD hX hY hla hlb2 hP
  by_cases h80 : 80 ≤ lb
  ·have d1 : decide ((80 : Int) ≤ (lb : Int)) = true := dT (by omega); have d2 : decide (80 ≤ lb) = true := dT h80; have w1 : IntKind.i64.wrap ((la : Int) - (lb : Int)) = (la : Int) - (lb : Int) := IntWalk.i64_in _ (by omega); have d3 : decide ((80 : Int) ≤ (la : Int) - (lb : Int)) = false := dF (by omega); go_enter Tryz.func86, Tryz.ntmps86
   go_wp2_with (go_at_call 111; refine HD.out.mono ?_; rintro e w1 ⟨v1, v2, rfl, h1⟩; have H1 := zh h1; clear h1)
   exact H1.out
  ·have d1 : decide ((80 : Int) ≤ (lb : Int)) = false := dF (by omega); have d2 : decide (80 ≤ lb) = false := dF h80; go_enter Tryz.func86, Tryz.ntmps86
   go_wp2_with (go_at_call 111; refine HD.out.mono ?_; rintro e w1 ⟨v1, v2, rfl, h1⟩; have H1 := zh h1; clear h1)
   exact H1.out
end
end Go.Proofs.Tg.Iw
