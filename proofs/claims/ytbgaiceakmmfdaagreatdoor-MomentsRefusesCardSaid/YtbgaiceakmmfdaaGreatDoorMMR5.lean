/- Parts of the proof: BN16. -/
import Derived.Deep.CutRange
import Derived.Deep.CutBlock
import Derived.Test.YtbgaiceakmmfdaaGreatDoorMMR0
import Derived.Test.YtbgaiceakmmfdaaGreatDoorMMR4
set_option maxHeartbeats 64000000
set_option maxRecDepth 100000
namespace Go.Proofs.Tg
section
open Go.RowKit Go.Gr Go.Bn
structure DvM (w0 : World) (A V L M gv gu gq : Nat) (zs : List Nat) (wr : World) (k : Nat) (us qs : List Nat) : Prop where
  st : DvSt A V L M k us qs
  bv : Blk wr gv 103 (darr zs)
  bu : Blk wr gu 103 (darr us)
  bq : Blk wr gq 103 (darr (List.replicate k 0 ++ qs))
  below : Below w0.heap.size w0 wr
structure SubM (w0 : World) (us qs zs : List Nat) (V e j gv gu gq : Nat) (wr : World) (i c bo : Nat) (ys : List Nat) : Prop where
  st : SubIn us (dg V) e j i c bo ys
  bv : Blk wr gv 103 (darr zs)
  bu : Blk wr gu 103 (darr (us.take j ++ (ys ++ us.drop (j + i))))
  bq : Blk wr gq 103 (darr (List.replicate (j + 1) 0 ++ qs))
  below : Below w0.heap.size w0 wr
theorem darr_some {l : List Nat} {k v : Nat} (h : l[k]? = some v) : (darr l)[k]? = some (.int .u32 (v : Nat)) := by
 obtain ⟨hk, e⟩ := List.getElem?_eq_some_iff.1 h
 rw [darr_at l hk, e]
theorem SubM.next {w0 wr : World} {us qs zs : List Nat} {V e j gv gu gq i c bo x y d L n : Nat} {ys : List Nat} (h : SubM w0 us qs zs V e j gv gu gq wr i c bo ys) (hjl : j + n < L) (hl : us.length = L) (hin : i < n) (he : e ≤ B) (hx : us[j + i]? = some x) (hy : (dg V)[i]? = some y) (hyB : y < B)
    (hd : d % B + (e * y + c) % B + bo = x + B * (d / B % 2)) (hg : w0.heap.size ≤ gu) (hne : gu ≠ gv) (hnq : gu ≠ gq) :
    SubM w0 us qs zs V e j gv gu gq (wr.setCell ⟨gu, j + i, none⟩ (.int .u32 ((d : Int) % 4294967296))) (i + 1) ((e * y + c) / B) (d / B % 2) (ys ++ [d % B]) := by
  have hb := h.bu.set (j + i) (.int .u32 ((d % B : Nat) : Int)); rw [darr_set, mid_set (by omega) h.st.len] at hb
  have e1 : ((d % B : Nat) : Int) = (d : Int) % 4294967296 := by simp only [B]; omega
  rw [e1] at hb; exact ⟨h.st.next he hx hy hyB hd, h.bv.far (fun e => hne e.symm) _, hb, h.bq.far (fun e => hnq e.symm) _, below_far h.below hg _ _⟩
theorem qset (j q : Nat) (qs : List Nat) : (List.replicate (j + 1) 0 ++ qs).set j q = List.replicate j 0 ++ (q :: qs) := by
 rw [List.set_append_left _ _ (by simp), List.replicate_succ', List.set_append_right _ _ (by simp), List.length_replicate, Nat.sub_self, List.set_cons_zero]
 simp
theorem mid_set0 {us ys : List Nat} {j n : Nat} (hj : j + n < us.length) (hz : ys.length = n) (d : Nat) : (us.take j ++ (ys ++ us.drop (j + n))).set (j + n) d = us.take j ++ (ys ++ d :: us.drop (j + n + 1)) := by
 rw [mid_set hj hz, List.append_assoc]; rfl
theorem DvM.next {w0 wo wr : World} {A V L M gv gu gq j n q : Nat} {us qs zs ys : List Nat} (h : DvM w0 A V L M gv gu gq zs wo (j + 1) us qs) (hV : V ≤ B ^ n) (hj : j + n < L) (hn : 0 < n) (hq : q = val (us.drop j) / V) (hV0 : 0 < V) (hz : val ys = val (us.drop j) % V) (hzl : ys.length = n) (hzd : Dig ys)
    (bv : Blk wr gv 103 (darr zs)) (bu : Blk wr gu 103 (darr (us.take j ++ (ys ++ 0 :: us.drop (j + n + 1))))) (bq : Blk wr gq 103 (darr (List.replicate (j + 1) 0 ++ qs))) (hb : Below w0.heap.size w0 wr) (hg : w0.heap.size ≤ gq) (h1 : gv ≠ gq) (h2 : gu ≠ gq) :
    DvM w0 A V L M gv gu gq zs (wr.setCell ⟨gq, j, none⟩ (.int .u32 (q : Nat))) j (us.take j ++ (ys ++ 0 :: us.drop (j + n + 1))) (q :: qs) := by
  have hb2 := bq.set j (.int .u32 (q : Nat)); rw [darr_set, qset] at hb2; exact ⟨h.st.next hV hj hn hq hV0 hz hzl hzd, bv.far h1 _, bu.far h2 _, hb2, below_far hb hg _ _⟩
structure BackM (w0 : World) (us qs zs ys : List Nat) (V j n gv gu gq : Nat) (wr : World) (i c : Nat) (ws : List Nat) : Prop where
  st : BackIn ys (dg V) i c ws
  bv : Blk wr gv 103 (darr zs)
  bu : Blk wr gu 103 (darr (us.take j ++ (ws ++ (ys.drop i ++ 4294967295 :: us.drop (j + n + 1)))))
  bq : Blk wr gq 103 (darr (List.replicate (j + 1) 0 ++ qs))
  below : Below w0.heap.size w0 wr
theorem BackM.drew {w0 wr : World} {us qs zs ys ws : List Nat} {V j n gv gu gq i c : Nat} (h : BackM w0 us qs zs ys V j n gv gu gq wr i c ws) : BackM w0 us qs zs ys V j n gv gu gq wr.drew i c ws := ⟨h.st, h.bv, h.bu, h.bq, below_drewN h.below 1⟩
theorem bk_get {us ws ys t : List Nat} {j i : Nat} (hj : j ≤ us.length) (hw : ws.length = i) (hi : i < ys.length) : (us.take j ++ (ws ++ (ys.drop i ++ t)))[j + i]? = some ys[i] := by
 rw [List.getElem?_append_right (by rw [List.length_take]; omega), List.length_take, Nat.min_eq_left hj, Nat.add_sub_cancel_left, List.getElem?_append_right (by omega), hw, Nat.sub_self, List.drop_eq_getElem_cons hi]; rfl
theorem bk_set {us ws ys t : List Nat} {j i d : Nat} (hj : j ≤ us.length) (hw : ws.length = i) (hi : i < ys.length) : (us.take j ++ (ws ++ (ys.drop i ++ t))).set (j + i) d = us.take j ++ ((ws ++ [d]) ++ (ys.drop (i + 1) ++ t)) := by
 rw [List.set_append_right _ _ (by rw [List.length_take]; omega), List.length_take, Nat.min_eq_left hj, Nat.add_sub_cancel_left, List.set_append_right _ _ (by omega), hw, Nat.sub_self, List.drop_eq_getElem_cons hi, List.cons_append, List.set_cons_zero]
 simp
theorem BackM.next {w0 wr : World} {us qs zs ys ws : List Nat} {V j n gv gu gq i c x y : Nat} (h : BackM w0 us qs zs ys V j n gv gu gq wr i c ws) (hj : j ≤ us.length) (hx : ys[i]? = some x) (hy : (dg V)[i]? = some y) (hxB : x < B) (hyB : y < B) (hg : w0.heap.size ≤ gu) (hne : gu ≠ gv) (hnq : gu ≠ gq) :
    BackM w0 us qs zs ys V j n gv gu gq (wr.setCell ⟨gu, j + i, none⟩ (.int .u32 (((c + (x + y)) % B : Nat) : Int))) (i + 1) ((c + (x + y)) / B) (ws ++ [(c + (x + y)) % B]) := by
  have hb := h.bu.set (j + i) (.int .u32 (((c + (x + y)) % B : Nat) : Int)); obtain ⟨hi, _⟩ := List.getElem?_eq_some_iff.1 hx; rw [darr_set, bk_set hj h.st.len hi] at hb; exact ⟨h.st.next hx hy hxB hyB, h.bv.far (fun e => hne e.symm) _, hb, h.bq.far (fun e => hnq e.symm) _, below_far h.below hg _ _⟩
theorem div_long (X Y : Option Addr) (cx cy a b : Nat) (w : World) (hX : ND w X cx a) (hY : ND w Y cy b) (hab : b ≤ a) (hb2 : 2 ≤ (dg b).length) (hn : (dg a).length ≤ 200000) :
    Calls Tryz.prog 80 #[.slice X (dg a).length cx, .slice Y (dg b).length cy] w (RetDM (a / b) (a % b) w) := by
  obtain ⟨z, hz⟩ := eqx ((if a < b then (-1 : Int) else if a = b then 0 else 1) : Int); have HC := zh (ncmp_any X Y cx cy a b w hX.digs hY.digs (by omega)); rw [hz] at HC
  have hzb : decide (z < 0) = false := by
   rw [← hz, if_neg (by omega)]
   split <;> simp
  clear hz
  have hlen : (dg b).length ≤ (dg a).length := by
   rcases Nat.lt_or_ge (dg a).length (dg b).length with h | h
   ·have := dg_lt_of_len h; omega
   ·exact h
  have HSX := zh (fun W (h : Below w.heap.size w W) s (hs : s < 32) => shl_any X cx (dg a) s W (hX.keep h).digs (dg_dig a) hs (by omega)); have HSY := zh (fun W (h : Below w.heap.size w W) s (hs : s < 32) => shl_any Y cy (dg b) s W (hY.keep h).digs (dg_dig b) hs (by omega))
  have hb0 : b ≠ 0 := fun e => by rw [e, dg_zero] at hb2; simp at hb2
  obtain ⟨lo, t, hlo, ht0, htB⟩ := top_digit hb0; have HLO := zh hlo; have HF : Hid (∀ e w', RetDM (a / b) (a % b) w e w' → RetDM (a / b) (a % b) w e w') := zh (fun _ _ h => h); obtain ⟨Q, hQ⟩ := eqx (RetDM (a / b) (a % b) w); rw [hQ]; have HQ := zh hQ; have HY := zh hY
  have hnb : (dg b).length = lo.length + 1 := by rw [hlo]; simp
  have HTY : Hid ((dg b)[lo.length]? = some t) := zh (by rw [hlo]; simp); obtain ⟨n, hnn⟩ := eqx ((dg b).length); obtain ⟨la, hla⟩ := eqx ((dg a).length); have HNB := zh hnn; have HLA := zh hla
  have hn1 : lo.length = n - 1 := by omega
  rw [hn1] at HTY; rw [hnn] at HC hb2 hlen ⊢; rw [hla] at HC hlen hn ⊢; clear hQ hX hY hab hlo hnn hla hnb hn1 HF hb0; go_enter Tryz.func80, Tryz.ntmps80; go_wp2_with (fail); refine HC.out.mono ?_; rintro e w1 ⟨rfl, hdr⟩; have hb1 := hdr.below; clear hdr
  obtain ⟨yd, hyd, hty⟩ : ∃ yd, Y = some yd ∧ w1.cell? (yd.add (n - 1)) = some (.int .u32 (t : Nat)) := by
   have h1 := (HY.out.keep hb1).digs
   have hk : n - 1 < (dg b).length := by rw [HNB.out]; omega
   obtain ⟨yd, e, hc⟩ := Digs.at h1 hk; refine ⟨yd, e, ?_⟩; have := HTY.out; rw [List.getElem?_eq_getElem hk] at this
   injection this with this
   rw [hc, this]
  subst hyd; have i1 : ((n : Int) == 1) = false := beq_eq_false_iff_ne.2 (by omega); have i1' : (n == 1) = false := beq_eq_false_iff_ne.2 (by omega)
  have j1 : ((n : Int) - 1).toNat = n - 1 := by omega
  have j2 : (0 : Int) ≤ (n : Int) - 1 := by omega
  have j3 : (1 : Int) ≤ (n : Int) := by omega
  have j4 : (n : Int) - 1 < (n : Int) := by omega
  go_wp2
  go_loop [8] (fun s8 => ∃ k : Nat, s8 = .int .u64 k ∧ k < 32 ∧ Hid (t * 2 ^ k < B)) (fun s8 => 32 - (intOf s8).toNat)
  case atStart => exact ⟨0, rfl, by omega, zh (by simpa using htB)⟩
  case round =>
   obtain ⟨k, rfl, hk, HK⟩ := hrel; obtain ⟨v, hv⟩ := eqx (t * 2 ^ k); have HV := zh hv
   have hvB : v < 4294967296 := by have := HK.out; rw [hv] at this; exact this
   have m1 : ((t : Int) * 2 ^ k) % 4294967296 = (v : Int) := by
    have e : (t : Int) * 2 ^ k = ((t * 2 ^ k : Nat) : Int) := by simp
    rw [e, hv]; omega
   have m2 : IntKind.u32.wrap ((t : Int) * 2 ^ k) = (v : Int) := m1; clear hv
   by_cases hlt : v < 2147483648
   ·have d1 : decide ((v : Int) < 2147483648) = true := dT (by omega); go_wp2; go_round
    case rel =>
     clear m1 m2 d1
     have hk2 : k + 1 < 32 := by
      rcases Nat.lt_or_ge (k + 1) 32 with h | h
      ·exact h
      ·exfalso; have h1 : 1 * 2 ^ 31 ≤ t * 2 ^ k := Nat.mul_le_mul (by omega) (Nat.pow_le_pow_right (by decide) (by omega)); rw [HV.out] at h1; omega
     refine ⟨k + 1, by go_num, hk2, zh ?_⟩; rw [Nat.pow_succ, ← Nat.mul_assoc, HV.out]; simp only [B]; omega
    case measure => simp [intOf]; omega
   ·have d1 : decide ((v : Int) < 2147483648) = false := dF (by omega); have HNT := zh (norm_top (b := b) (n := n) HLO.out (by have := congrArg List.length HLO.out; simp at this; have := HNB.out; omega) hb2 hk HK.out (by rw [HV.out]; omega)); clear hvB hlt; obtain ⟨ws, x, y, hV, hwl, hwd, hx, hy, hbig⟩ := HNT.out
    have hVl : (dg (b * 2 ^ k)).length = n := by rw [hV]; simp [hwl]; omega
    go_wp2_with (fail); rw [HNB.out] at HSY; rw [HLA.out] at HSX; obtain ⟨gv, hgv⟩ := eqx (w1.heap.size); refine (HSY.out _ hb1 k hk).mono ?_; rintro e w2 ⟨zs, hzl, hzd, hzv, rfl, hzb, hb2⟩; rw [HNB.out] at hzl; rw [val_dg] at hzv; rw [hzl]; rw [hgv] at hzb ⊢; have HT := trim_dg (some ⟨gv, 0, none⟩) (n + 1) zs w2 (digs_of hzb) hzd (by omega) (by omega); rw [hzl, hzv, hVl] at HT; have HT := zh HT; have HZV := zh hzv; have HZL := zh hzl; have HGV := zh hgv; have HVL := zh hVl; have HV2 := zh hV; clear hzl hzv hgv hVl hV; have hb12 := below_all hb1 hb2; go_wp2_with (fail); refine HT.out.mono ?_; rintro e _ ⟨rfl, rfl, _⟩; go_wp2_with (fail); obtain ⟨gu, hgu⟩ := eqx (w2.heap.size); refine (HSX.out _ hb12 k hk).mono ?_; rintro e w3 ⟨us, hul, hud, huv, rfl, hub, hb3⟩; rw [HLA.out] at hul; rw [val_dg] at huv; rw [hul]; rw [hgu] at hub ⊢; have HUL := zh hul; have HUV := zh huv; clear hul huv
    have hgg : gv < gu := by have := hzb.lt; omega
    have hvb := hzb.keep hb3 (by omega); have hb13 := below_all hb12 hb3; have HGU := zh hgu; clear hgu hzb; go_upto_region 13 with (fail); obtain ⟨m, hm⟩ := eqx (la - n)
    have hmI : (la : Int) + 1 - (n : Int) - 1 = (m : Int) := by omega
    rw [hmI]
    have hmk := fun W => make_digs (m + 1) (by omega) W
    have hc1 : ((m + 1 : Nat) : Int) = (m : Int) + 1 := by omega
    rw [hc1] at hmk; have HM := zh hm
    have hm2 : m ≤ 200000 := by omega
    clear hmI hc1 hm; go_upto_region 14 with (fail); obtain ⟨gq, hgq⟩ := eqx (w3.heap.size); rw [hgq]; obtain ⟨W, hW⟩ := eqx (w3.alloc (.cells (madeCells #[.int .u32 0] (m + 1)) 103))
    have hq0 : Blk W gq 103 (darr (List.replicate (m + 1) 0 ++ [])) := by
     rw [← hW, ← hgq, List.append_nil, ← darr_made]; exact Blk.new _ _ _
    have hgq2 : gu < gq := by have := hub.lt; omega
    have hgw : w.heap.size ≤ gv := by have := hb1.size; have := HGV.out; omega
    have hbW : Below w.heap.size w W := by rw [← hW]; exact hb13.alloc hb13.size _
    have hvW : Blk W gv 103 (darr zs) := by rw [← hW]; exact hvb.alloc _
    have huW : Blk W gu 103 (darr us) := by rw [← hW]; exact hub.alloc _
    have HD0 : Hid (DvM w (a * 2 ^ k) (b * 2 ^ k) (la + 1) (m + 1) gv gu gq zs W (m + 1) us []) := zh (by
     have h0 := dv_start (a := a) (b := b) (k := k) (n := n) (la := la) (us := us) (by
      have h := dg_len_lt (n := b) (k := n - 1)
      rcases Nat.lt_or_ge b (B ^ (n - 1)) with h1 | h1
      ·have := h h1; have := HNB.out; omega
      ·exact h1) (by have := val_lt (dg_dig a); rwa [val_dg, HLA.out] at this) (by omega) hlen HUL.out hud HUV.out
     rw [show la - n = m from HM.out] at h0
     exact ⟨h0, hvW, huW, hq0, hbW⟩)
    rw [hW]; clear hW hgq hmk hvb hub hq0 hbW hvW huW hud hb1 hb2 hb3 hb12 hb13 d1; go_wp2
    go_loopw [14] (fun s14 wr => ∃ (kk : Nat) (us qs : List Nat), s14 = .int .i64 ((kk : Int) - 1) ∧ kk ≤ m + 1 ∧ Hid (DvM w (a * 2 ^ k) (b * 2 ^ k) (la + 1) (m + 1) gv gu gq zs wr kk us qs)) (fun s14 _ => (intOf s14 + 1).toNat)
    case atStart => exact ⟨m + 1, us, [], by congr 1; omega, Nat.le_refl _, HD0⟩
    case round =>
     clear HD0; obtain ⟨wo, rfl⟩ : ∃ wo : World, wo = wr := ⟨_, rfl⟩; obtain ⟨kk, us, qs, rfl, hkk, HST⟩ := hrel
     cases kk with
     | succ j =>
       have hkj : ((j + 1 : Nat) : Int) - 1 = (j : Int) := by omega
       rw [hkj]; clear hkj
       have hjl : j + n < la + 1 := by have := HM.out; omega
       have HUSL := zh HST.out.st.len
       have gu1 : j + n < us.length := by rw [HUSL.out]; omega
       have gu2 : j + n - 1 < us.length := by omega
       have gu3 : j + n - 2 < us.length := by omega
       obtain ⟨c, hc⟩ : ∃ c, us[j + n]? = some c := ⟨_, List.getElem?_eq_getElem gu1⟩; obtain ⟨b', hb'⟩ : ∃ c, us[j + n - 1]? = some c := ⟨_, List.getElem?_eq_getElem gu2⟩; obtain ⟨a', ha'⟩ : ∃ c, us[j + n - 2]? = some c := ⟨_, List.getElem?_eq_getElem gu3⟩
       have hcB : c < 4294967296 := by obtain ⟨_, e⟩ := List.getElem?_eq_some_iff.1 hc; rw [← e]; exact HST.out.st.dig _ (List.getElem_mem _)
       have hbB : b' < 4294967296 := by obtain ⟨_, e⟩ := List.getElem?_eq_some_iff.1 hb'; rw [← e]; exact HST.out.st.dig _ (List.getElem_mem _)
       have haB : a' < 4294967296 := by obtain ⟨_, e⟩ := List.getElem?_eq_some_iff.1 ha'; rw [← e]; exact HST.out.st.dig _ (List.getElem_mem _)
       have HTOP := zh (HST.out.st.tops HV2.out hwl hb2 hjl hx hy hbig ha' hb' hc); have c1 := (HST.out.bu.cell (j + n)).trans (darr_some hc); have c2 := (HST.out.bu.cell (j + n - 1)).trans (darr_some hb'); have c3 := (HST.out.bu.cell (j + n - 2)).trans (darr_some ha'); have HC2 : Hid (us[j + n]? = some c) := zh hc; have HA2 := zh ha'; clear hc hb' ha' gu1 gu2 gu3
       have q0 : (0 : Int) ≤ (j : Int) := by omega
       have q1 : (0 : Int) ≤ (j : Int) + (n : Int) := by omega
       have q2 : (j : Int) + (n : Int) < (la : Int) + 1 := by omega
       have q3 : ((j : Int) + (n : Int)).toNat = j + n := by omega
       have q4 : (0 : Int) ≤ (j : Int) + (n : Int) - 1 := by omega
       have q5 : (j : Int) + (n : Int) - 1 < (la : Int) + 1 := by omega
       have q6 : ((j : Int) + (n : Int) - 1).toNat = j + n - 1 := by omega
       have q7 : (0 : Int) ≤ (j : Int) + (n : Int) - 2 := by omega
       have q8 : (j : Int) + (n : Int) - 2 < (la : Int) + 1 := by omega
       have q9 : ((j : Int) + (n : Int) - 2).toNat = j + n - 2 := by omega
       go_upto_region 17 with (fail); obtain ⟨top, htop⟩ := eqx (c * B + b')
       have o1 : bits BinOp.or IntKind.u64 ((c : Int) * 4294967296) (b' : Int) = (top : Int) := by
        have := u64_or_nat (c * B) b' (by simp only [B]; omega) (by omega); rw [or_low hbB, htop] at this; rw [← this]; congr 1
       go_region
       have HZT : Hid (∀ i, i < n → (dg (b * 2 ^ k))[i]? = zs[i]?) := zh (fun i hi => by
        have h1 := (tzl_dg hzd).1; have h2 := (tzl_dg hzd).2; rw [HZV.out, HVL.out] at h2; rw [h2, HZV.out] at h1
        rw [← h1, List.getElem?_take_of_lt hi])
       obtain ⟨z1, z2⟩ : zs[n - 1]? = some y ∧ zs[n - 2]? = some x := by
        have h1 := (tzl_dg hzd).1; have h2 := (tzl_dg hzd).2; rw [HZV.out, HVL.out] at h2; rw [h2, HZV.out, HV2.out] at h1
        have h3 : ∀ i, i < n → zs[i]? = (ws ++ [x, y])[i]? := fun i hi => by rw [← h1, List.getElem?_take_of_lt hi]
        refine ⟨?_, ?_⟩
        ·rw [h3 _ (by omega), List.getElem?_append_right (by omega), hwl, show n - 1 - (n - 2) = 1 by omega]; rfl
        ·rw [h3 _ (by omega), List.getElem?_append_right (by omega), hwl, Nat.sub_self]; rfl
       have c4 := (HST.out.bv.cell (n - 1)).trans (darr_some z1); have c5 := (HST.out.bv.cell (n - 2)).trans (darr_some z2); have HZ1 := zh z1; have HZ2 := zh z2; clear z1 z2; have hxB : x < 4294967296 := hx; have hyB : y < 4294967296 := hy
       have hy0 : 2147483648 ≤ y := by simp only [B] at hbig; omega
       have j5 : ((n : Int) - 2).toNat = n - 2 := by omega
       have j6 : (0 : Int) ≤ (n : Int) - 2 := by omega
       have j7 : (2 : Int) ≤ (n : Int) := by omega
       have j8 : (n : Int) - 2 < (n : Int) := by omega
       have topB : top < 18446744073709551616 := by rw [← htop]; simp only [B]; omega
       obtain ⟨h0, hh0⟩ := eqx (top / y); obtain ⟨r0, hr0⟩ := eqx (top % y)
       have h0B : h0 < 18446744073709551616 := by rw [← hh0]; exact Nat.lt_of_le_of_lt (Nat.div_le_self _ _) topB
       have r0B : r0 < 4294967296 := by rw [← hr0]; exact Nat.lt_trans (Nat.mod_lt _ (by omega)) hyB
       have t1 : (top : Int) / (y : Int) = (h0 : Int) := by rw [← hh0]; rfl
       have t2 : (top : Int) % (y : Int) = (r0 : Int) := by rw [← hr0]; rfl
       have t3 : (top : Int).tdiv (y : Int) = (h0 : Int) := by rw [← hh0]; rfl
       have t4 : (top : Int).tmod (y : Int) = (r0 : Int) := by rw [← hr0]; rfl
       have t5 : ((y : Int) == 0) = false := beq_eq_false_iff_ne.2 (by omega); have t6 : IntKind.u64.wrap (h0 : Int) = (h0 : Int) := wrap_nat h0 h0B; have t7 : IntKind.u64.wrap (r0 : Int) = (r0 : Int) := wrap_nat r0 (by omega); have HTE := zh htop; have HH0 := zh hh0; have HR0 := zh hr0; clear htop hh0 hr0; go_upto_block 4 with (fail); obtain ⟨wi, hwi⟩ := eqx (wo.drew : World); have HSD : Hid (DvM w (a * 2 ^ k) (b * 2 ^ k) (la + 1) (m + 1) gv gu gq zs wi (j + 1) us qs) := zh (by rw [← hwi]; exact ⟨HST.out.st, HST.out.bv, HST.out.bu, HST.out.bq, below_drewN HST.out.below 1⟩); rw [hwi]; clear hwi; obtain ⟨q, hq⟩ := eqx (val (us.drop j) / (b * 2 ^ k)); have HQQ := zh hq
       have hV0 : 0 < b * 2 ^ k := by
        refine Nat.mul_pos (Nat.pos_of_ne_zero ?_) (Nat.two_pow_pos k); rintro rfl; have := HNB.out; rw [dg_zero] at this; simp at this; omega
       have hVB : b * 2 ^ k ≤ B ^ n := by
        have := val_lt (dg_dig (b * 2 ^ k)); rw [val_dg, HVL.out] at this; omega
       have HW := zh (HST.out.st.window hVB hjl (by omega))
       have hqV : q * (b * 2 ^ k) ≤ val (us.drop j) := by rw [← hq]; exact Nat.div_mul_le_self _ _
       have hqB : q < B := by rw [← hq, Nat.div_lt_iff_lt_mul hV0, Nat.mul_comm]; exact HW.out.2.1
       have HEST : Hid (Est top y q h0 r0) := zh (by
        have := Est.start HTOP.out hqV HW.out.2.1; rw [HTE.out, HH0.out, HR0.out] at this
        exact this)
       have HTOP2 : Hid (Tops (val (us.drop j)) (b * 2 ^ k) top a' y x (B ^ (n - 2))) := zh (by have := HTOP.out; rwa [HTE.out] at this); have HQV := zh hqV; have HQB := zh hqB; have HV0 := zh hV0; have HVB := zh hVB; clear hq hqV hqB hV0 hVB c1 c2 c4 c3 c5 t1 t2 t3 t4 t5 t6 t7 o1
       go_cut [16, 17] from 82 to 255 (fun s16 s17 wx => ∃ e : Nat, s16 = .int .u64 e ∧ e ≤ 4294967296 ∧ Hid (e = q ∨ e = q + 1) ∧ Hid (DvM w (a * 2 ^ k) (b * 2 ^ k) (la + 1) (m + 1) gv gu gq zs wx (j + 1) us qs))
       case first =>
        --<F
        as_aux_lemma =>
         go_wp2
         go_loopw [16, 17] (fun s16 s17 wr => ∃ e r : Nat, s16 = .int .u64 e ∧ s17 = .int .u64 r ∧ r < 4294967296 ∧ e ≤ 4294967297 ∧ Hid (Est top y q e r) ∧ Hid (DvM w (a * 2 ^ k) (b * 2 ^ k) (la + 1) (m + 1) gv gu gq zs wr (j + 1) us qs)) (fun s16 _ _ => (intOf s16).toNat)
         case atStart => exact ⟨h0, r0, rfl, rfl, r0B, HEST.out.le, HEST, HSD⟩
         case round =>
          clear HSD HEST; obtain ⟨wn, rfl⟩ : ∃ wn : World, wn = wr := ⟨_, rfl⟩; obtain ⟨e, r, rfl, rfl, hr, he, HE, HSN⟩ := hrel; have c3 := (HSN.out.bu.cell (j + n - 2)).trans (darr_some HA2.out); have c4 := (HSN.out.bv.cell (n - 1)).trans (darr_some HZ1.out); have c5 := (HSN.out.bv.cell (n - 2)).trans (darr_some HZ2.out); have HSN2 : Hid (DvM w (a * 2 ^ k) (b * 2 ^ k) (la + 1) (m + 1) gv gu gq zs wn.drew (j + 1) us qs) := zh ⟨HSN.out.st, HSN.out.bv, HSN.out.bu, HSN.out.bq, below_drewN HSN.out.below 1⟩
          have w4 : IntKind.u64.wrap ((r : Int) + (y : Int)) = (r : Int) + (y : Int) := by have := wrap_nat (r + y) (by omega); simpa using this
          have k0 : (0 : Int) ≤ (r : Int) + (y : Int) := by omega
          have HQ1 := HQQ.out.symm; have HSTOP : Hid (∀ e' r', Est top y q e' r' → e' ≤ B → (e' * x ≤ r' * B + a' ∨ B ≤ r') → e' = q ∨ e' = q + 1) := zh (fun e' r' h1 h2 h3 => h1.stop HTOP2.out (Nat.pow_pos (by decide)) HQ1 HV0.out h2 h3); clear HQ1
          by_cases hbg : 4294967296 ≤ e
          ·have g1 : decide ((4294967296 : Int) ≤ (e : Int)) = true := dT (by omega)
           have w5 : IntKind.u64.wrap ((e : Int) - 1) = (e : Int) - 1 := by have := wrap_nat (e - 1) (by omega); rw [show ((e - 1 : Nat) : Int) = (e : Int) - 1 by omega] at this; exact this
           have HR1 := zh (Est.round HTOP2.out HQV.out HQB.out HE.out (Or.inl hbg))
           by_cases hov : 4294967296 ≤ r + y
           ·have g2 : decide ((4294967296 : Int) ≤ (r : Int) + (y : Int)) = true := dT (by omega); go_wp2
            go_region
            go_wp2; go_meet
            case rel => exact ⟨e - 1, by congr 1; omega, HR1.out.2.1, zh (HSTOP.out _ _ HR1.out.1 HR1.out.2.1 (Or.inr hov)), HSN2⟩
           ·have g2 : decide ((4294967296 : Int) ≤ (r : Int) + (y : Int)) = false := dF (by omega); go_wp2
            go_region
            go_wp2; go_roundw
            case rel => exact ⟨e - 1, r + y, by congr 1; omega, by congr 1, by omega, by omega, HR1.out.1, HSN2⟩
            case measure => simp [intOf]; omega
          ·have g1 : decide ((4294967296 : Int) ≤ (e : Int)) = false := dF (by omega); obtain ⟨hf1, hf2⟩ := est_fit (e := e) (v2 := x) (r := r) (u2 := a') (by simp only [B]; omega) hx hr haB; obtain ⟨pr, hpr⟩ := eqx (e * x); obtain ⟨rr, hrr⟩ := eqx (r * B + a'); rw [hpr] at hf1; rw [hrr] at hf2
           have w6 : IntKind.u64.wrap ((e : Int) * (x : Int)) = (pr : Int) := by have := wrap_nat pr hf1; rw [← hpr, Int.natCast_mul] at this; rw [← hpr, Int.natCast_mul]; exact this
           have o2 : bits BinOp.or IntKind.u64 ((r : Int) * 4294967296) (a' : Int) = (rr : Int) := by
            have := u64_or_nat (r * B) a' (by simp only [B]; omega) (by omega); rw [or_low haB, hrr] at this; rw [← this]; congr 1
           have HPR := zh hpr; have HRR := zh hrr; clear hpr hrr hf1 hf2
           by_cases hgt : rr < pr
           ·have g3 : decide ((rr : Int) < (pr : Int)) = true := dT (by omega); have g3' : decide (rr < pr) = true := dT hgt; have HR1 := zh (Est.round HTOP2.out HQV.out HQB.out HE.out (Or.inr (by rw [HPR.out, HRR.out]; exact hgt))); have he0 := HR1.out.2.2
            have w5 : IntKind.u64.wrap ((e : Int) - 1) = (e : Int) - 1 := by have := wrap_nat (e - 1) (by omega); rw [show ((e - 1 : Nat) : Int) = (e : Int) - 1 by omega] at this; exact this
            by_cases hov : 4294967296 ≤ r + y
            ·have g2 : decide ((4294967296 : Int) ≤ (r : Int) + (y : Int)) = true := dT (by omega); go_wp2
             go_region
             go_wp2; go_meet
             case rel => exact ⟨e - 1, by congr 1; omega, HR1.out.2.1, zh (HSTOP.out _ _ HR1.out.1 HR1.out.2.1 (Or.inr hov)), HSN2⟩
            ·have g2 : decide ((4294967296 : Int) ≤ (r : Int) + (y : Int)) = false := dF (by omega); go_wp2
             go_region
             go_wp2; go_roundw
             case rel => exact ⟨e - 1, r + y, by congr 1; omega, by congr 1, by omega, by omega, HR1.out.1, HSN2⟩
             case measure => simp [intOf]; omega
           ·have g3 : decide ((rr : Int) < (pr : Int)) = false := dF (by omega); have g3' : decide (rr < pr) = false := dF hgt; go_wp2
            go_region
            go_wp2; go_meet
            case rel => exact ⟨e, rfl, by simp only [B] at *; omega, zh (HSTOP.out _ _ HE.out (by simp only [B]; omega) (Or.inl (by rw [HPR.out, HRR.out]; omega))), HSN2⟩
        -->F
       case rest =>
        clear HSD HEST; obtain ⟨e, rfl, heB, HQE, HSN⟩ := hcut; obtain ⟨wn, rfl⟩ : ∃ wn : World, wn = wc := ⟨_, rfl⟩; have HS0 : Hid (SubM w us qs zs (b * 2 ^ k) e j gv gu gq wn 0 0 0 []) := zh ⟨SubIn.start _ _ _ _, HSN.out.bv, by rw [Nat.add_zero, List.nil_append, List.take_append_drop]; exact HSN.out.bu, HSN.out.bq, HSN.out.below⟩; go_wp2
        go_loopw [18, 19, 20] (fun s18 s19 s20 wr => ∃ (i cc bo : Nat) (ys : List Nat), s18 = .int .u64 cc ∧ s19 = .int .u64 bo ∧ s20 = .int .i64 i ∧ i ≤ n ∧ Hid (SubM w us qs zs (b * 2 ^ k) e j gv gu gq wr i cc bo ys)) (fun _ _ s20 _ => n - (intOf s20).toNat)
        case atStart => exact ⟨0, 0, 0, [], rfl, rfl, rfl, Nat.zero_le _, HS0⟩
        case round =>
         clear HS0 HSN; obtain ⟨wp, rfl⟩ : ∃ wp : World, wp = wr := ⟨_, rfl⟩; obtain ⟨i, cc, bo, ys, rfl, rfl, rfl, hi, HSM⟩ := hrel
         by_cases hin : i < n
         ·have gi : j + i < us.length := by rw [HUSL.out]; omega
          obtain ⟨x', hx'⟩ : ∃ x', us[j + i]? = some x' := ⟨_, List.getElem?_eq_getElem gi⟩
          have hxB' : x' < 4294967296 := by obtain ⟨_, e⟩ := List.getElem?_eq_some_iff.1 hx'; rw [← e]; exact HST.out.st.dig _ (List.getElem_mem _)
          obtain ⟨y', hy'⟩ : ∃ y', (dg (b * 2 ^ k))[i]? = some y' := ⟨_, List.getElem?_eq_getElem (by rw [HVL.out]; exact hin)⟩
          have hyB' : y' < 4294967296 := by obtain ⟨_, e⟩ := List.getElem?_eq_some_iff.1 hy'; rw [← e]; exact dg_dig _ _ (List.getElem_mem _)
          have hzy : zs[i]? = some y' := by rw [← HZT.out i hin]; exact hy'
          have c1 := (HSM.out.bu.cell (j + i)).trans (darr_some (by rw [mid_get gi HSM.out.st.len, ← hx']; exact (List.getElem?_eq_getElem gi).symm)); have f1 := HSM.out.bu.frozen (j + i); have c2 := (HSM.out.bv.cell i).trans (darr_some hzy); obtain ⟨hp1, hp2⟩ := msub_fit heB hyB' HSM.out.st.clt; have hccB : cc < 4294967296 := HSM.out.st.clt; have hbo1 := HSM.out.st.blt; obtain ⟨m1, hm1⟩ := eqx (e * y'); rw [hm1] at hp1 hp2; obtain ⟨p, hp⟩ := eqx (m1 + cc); rw [hp] at hp1 hp2; have hpB : p < 18446744073709551616 := hp1
          have w1 : IntKind.u64.wrap ((e : Int) * (y' : Int)) = (m1 : Int) := by
           have e1 : (e : Int) * (y' : Int) = (m1 : Int) := by rw [← hm1]; simp
           rw [e1]; exact wrap_nat m1 (by omega)
          have w2 : IntKind.u64.wrap ((m1 : Int) + (cc : Int)) = (p : Int) := by
           have e1 : (m1 : Int) + (cc : Int) = (p : Int) := by rw [← hp]; simp
           rw [e1]; exact wrap_nat p hpB
          obtain ⟨pm, hpm⟩ := eqx (p % 4294967296)
          have hpmB : pm < 4294967296 := by omega
          have w3 : bits BinOp.and IntKind.u64 (p : Int) 4294967295 = (pm : Int) := by
           have := u64_and_nat p 4294967295 hpB (by decide); rw [show p &&& 4294967295 = p % 2 ^ 32 from Nat.and_two_pow_sub_one_eq_mod p 32] at this; rw [← hpm]; exact this
          obtain ⟨d1, hd1⟩ := eqx ((x' + 18446744073709551616 - pm) % 18446744073709551616); obtain ⟨d, hd⟩ := eqx ((d1 + 18446744073709551616 - bo) % 18446744073709551616)
          have hd' : (x' + 18446744073709551616 - (pm + bo)) % 18446744073709551616 = d := by omega
          have w4 : IntKind.u64.wrap ((x' : Int) - (pm : Int)) = (d1 : Int) := by rw [IntKind.wrap_u64]; omega
          have w5 : IntKind.u64.wrap ((d1 : Int) - (bo : Int)) = (d : Int) := by rw [IntKind.wrap_u64]; omega
          have hdB : d < 18446744073709551616 := by omega
          have w6 : bits BinOp.and IntKind.u64 ((d : Int) / 4294967296) 1 = ((d / 4294967296 % 2 : Nat) : Int) := by
           have := u64_and_nat (d / 4294967296) 1 (by omega) (by decide); rw [Nat.and_one_is_mod] at this; rw [← this]; congr 1
          have HN := zh (HSM.out.next hjl HUSL.out hin heB hx' hy' hyB' (d := d) (by
           have h1 := msub_digit (x := x') (a := pm) (bo := bo) hxB' hpmB hbo1; rw [hd'] at h1; rw [hm1, hp, show p % B = pm from hpm]
           exact h1) (by omega) (by omega) (by omega))
          rw [hm1, hp] at HN
          have q0 : (0 : Int) ≤ (i : Int) := by omega
          have q1 : (i : Int) < (n : Int) := by omega
          have q2 : (0 : Int) ≤ (i : Int) + (j : Int) := by omega
          have q3 : (i : Int) + (j : Int) < (la : Int) + 1 := by omega
          have q4 : ((i : Int) + (j : Int)).toNat = j + i := by omega
          clear hx' hy' hzy hp1 hp2 hm1 hp hpm hd1 hd hd' gi; go_wp2; go_roundw
          case rel => exact ⟨i + 1, p / B, d / B % 2, _, by simp only [B]; congr 1, by simp only [B]; congr 1, by go_num, by omega, HN⟩
          case measure => simp [intOf]; omega
         ·obtain rfl : i = n := by omega
          have HWT := zh HW.out.1; have hcl : us[j + i]? = some c := HC2.out
          have gi : j + i < us.length := by rw [HUSL.out]; omega
          have c1 := (HSM.out.bu.cell (j + i)).trans (darr_some (by rw [mid_get gi HSM.out.st.len, ← hcl]; exact (List.getElem?_eq_getElem gi).symm)); have f1 := HSM.out.bu.frozen (j + i); have hccB : cc < 4294967296 := HSM.out.st.clt; have hbo1 := HSM.out.st.blt
          have hd1 : (us.drop j).getD i 0 = c := by simp [hcl]
          obtain ⟨low, hlow⟩ := eqx (val ((us.drop j).take i)); obtain ⟨W, hW⟩ := eqx (val (us.drop j))
          have hWl : W = low + B ^ i * c := by have := HWT.out; rw [hd1, hlow, hW] at this; exact this
          have hsum : val ys + e * (b * 2 ^ k) = low + B ^ i * (cc + bo) := by
           have := HSM.out.st.sum; rw [List.take_of_length_le (by rw [HVL.out]; exact Nat.le_refl _), val_dg, hlow] at this; exact this
          have hys : val ys < B ^ i := by have := val_lt HSM.out.st.dig; rwa [HSM.out.st.len] at this
          have hqW : q = W / (b * 2 ^ k) := by rw [← hW]; exact HQQ.out.symm
          have q2 : (0 : Int) ≤ (j : Int) + (i : Int) := by omega
          have q3 : (j : Int) + (i : Int) < (la : Int) + 1 := by omega
          have q4 : ((j : Int) + (i : Int)).toNat = j + i := by omega
          have HYS := zh hys; have HHW := zh hW
          by_cases hct : cc + bo ≤ c
          ·obtain ⟨heq, hz, htp⟩ := digit_right hqW HV0.out HVB.out HQE.out hWl hsum hys hct
           have w1 : IntKind.u64.wrap ((c : Int) - (cc : Int)) = (bo : Int) := by rw [IntKind.wrap_u64]; omega
           have w2 : IntKind.u64.wrap ((bo : Int) - (bo : Int)) = 0 := by rw [Int.sub_self]; rfl
           have hbu := HSM.out.bu.set (j + i) (.int .u32 ((0 : Nat) : Int)); rw [darr_set, mid_set0 gi HSM.out.st.len] at hbu; have HNX := zh (HST.out.next (ys := ys) (q := q) HVB.out hjl (by omega) (by rw [← HQQ.out]) HV0.out (by rw [HHW.out]; exact hz) HSM.out.st.len HSM.out.st.dig (HSM.out.bv.far (p := ⟨gu, j + i, none⟩) (show gv ≠ gu by omega) (.int .u32 ((0 : Nat) : Int))) hbu (HSM.out.bq.far (p := ⟨gu, j + i, none⟩) (show gq ≠ gu by omega) _) (below_far HSM.out.below (by omega) _ _) (by omega) (by omega) (by omega)); obtain rfl : e = q := heq; have hqB := HQB.out; have hqb : e < 4294967296 := hqB
           have q5 : (j : Int) < (m : Int) + 1 := by omega
           have e1 : (e : Int) % 4294967296 = (e : Int) := by omega
           have c7 := HNX.out.bq; clear c7 hbu hz htp hct hsum hWl hlow hW hqW hys hcl hd1 gi; have hqc := HSM.out.bq.cell j; have hqf := HSM.out.bq.frozen j; rw [darr_at _ (by simp; omega)] at hqc; generalize (List.replicate (j + 1) 0 ++ qs)[j]'(by simp; omega) = old at hqc
           --<P1
           as_aux_lemma =>
            go_wp2; go_roundw
            case rel => exact ⟨j, _, _, by first | rfl | go_num, by omega, HNX⟩
            case measure => first | (simp [intOf]; done) | (simp [intOf]; omega)
           -->P1
          ·obtain ⟨heq, hcb, hzV⟩ := digit_wrong hqW HV0.out HVB.out HQE.out hWl hsum hys (by omega)
           --<P2
           as_aux_lemma =>
            have hcB : c < 4294967296 := by
             obtain ⟨_, e9⟩ := List.getElem?_eq_some_iff.1 hcl; rw [← e9]; exact HST.out.st.dig _ (List.getElem_mem _)
            obtain ⟨d1, hd9⟩ := eqx ((c + 18446744073709551616 - cc) % 18446744073709551616 : Nat)
            have w1 : IntKind.u64.wrap ((c : Int) - (cc : Int)) = (d1 : Int) := by rw [IntKind.wrap_u64]; omega
            have w2 : IntKind.u64.wrap ((d1 : Int) - (bo : Int)) = 18446744073709551615 := by rw [IntKind.wrap_u64]; omega
            have w5 : IntKind.u64.wrap ((e : Int) - 1) = (q : Int) := by have := HQB.out; simp only [B] at this; rw [IntKind.wrap_u64]; omega
            have w7 : IntKind.u32.wrap 18446744073709551615 = 4294967295 := by decide
            have HZW : Hid (val ys + (b * 2 ^ k) = W % (b * 2 ^ k) + B ^ i) := zh hzV; have hbu := HSM.out.bu.set (j + i) (.int .u32 ((4294967295 : Nat) : Int)); rw [darr_set, mid_set0 gi HSM.out.st.len] at hbu; have HBK0 : Hid (BackM w us qs zs ys (b * 2 ^ k) j i gv gu gq (wp.setCell ⟨gu, j + i, none⟩ (.int .u32 4294967295)) 0 0 []) := zh ⟨BackIn.start _ _, HSM.out.bv.far (p := ⟨gu, j + i, none⟩) (show gv ≠ gu by omega) _, by simpa using hbu, HSM.out.bq.far (p := ⟨gu, j + i, none⟩) (show gq ≠ gu by omega) _, below_far HSM.out.below (by omega) _ _⟩; have HYL : Hid (ys.length = i ∧ Dig ys) := zh ⟨HSM.out.st.len, HSM.out.st.dig⟩
            have hju : j ≤ us.length := by omega
            have hqb : q < 4294967296 := HQB.out; clear heq hcb hzV hct hsum hWl hlow hW hqW hys hcl hd1 hd9 hbu HSM; go_wp2
            go_loopw [18, 24] (fun s18 s24 wr => ∃ (i2 c2 : Nat) (vs : List Nat), s18 = .int .u64 (c2 : Nat) ∧ s24 = .int .i64 (i2 : Nat) ∧ i2 ≤ i ∧ Hid (BackM w us qs zs ys (b * 2 ^ k) j i gv gu gq wr i2 c2 vs)) (fun _ s24 _ => i - (intOf s24).toNat)
            case atStart => exact ⟨0, 0, [], rfl, rfl, Nat.zero_le _, HBK0⟩
            case round =>
             clear HBK0 c1 f1 w1 w2 w5; obtain ⟨wb, rfl⟩ : ∃ wb : World, wb = wr := ⟨_, rfl⟩; obtain ⟨i2, c2, vs, rfl, rfl, hi2, HBM⟩ := hrel
             by_cases hin2 : i2 < i
             ·have hyl : i2 < ys.length := by rw [HYL.out.1]; exact hin2
              obtain ⟨x', hx'⟩ : ∃ x', ys[i2]? = some x' := ⟨_, List.getElem?_eq_getElem hyl⟩
              have hxB' : x' < 4294967296 := by obtain ⟨_, e9⟩ := List.getElem?_eq_some_iff.1 hx'; rw [← e9]; exact HYL.out.2 _ (List.getElem_mem _)
              obtain ⟨y', hy'⟩ : ∃ y', (dg (b * 2 ^ k))[i2]? = some y' := ⟨_, List.getElem?_eq_getElem (by rw [HVL.out]; exact hin2)⟩
              have hyB' : y' < 4294967296 := by obtain ⟨_, e9⟩ := List.getElem?_eq_some_iff.1 hy'; rw [← e9]; exact dg_dig _ _ (List.getElem_mem _)
              have hzy : zs[i2]? = some y' := by rw [← HZT.out i2 hin2]; exact hy'
              have hux : ys[i2] = x' := by obtain ⟨_, e9⟩ := List.getElem?_eq_some_iff.1 hx'; exact e9
              have c1 := (HBM.out.bu.cell (j + i2)).trans (darr_some ((bk_get hju HBM.out.st.len hyl).trans (by rw [hux]))); have f1 := HBM.out.bu.frozen (j + i2); have c2c := (HBM.out.bv.cell i2).trans (darr_some hzy); have hc21 := HBM.out.st.clt; obtain ⟨s1, hs1⟩ := eqx (x' + y'); obtain ⟨s2, hs2⟩ := eqx (c2 + s1)
              have w1 : IntKind.u64.wrap ((x' : Int) + (y' : Int)) = (s1 : Int) := by rw [IntKind.wrap_u64]; omega
              have w2 : IntKind.u64.wrap ((c2 : Int) + (s1 : Int)) = (s2 : Int) := by rw [IntKind.wrap_u64]; omega
              have hs2B : s2 < 18446744073709551616 := by omega
              have HN := zh (HBM.out.drew.next hju hx' hy' hxB' hyB' (by omega) (by omega) (by omega)); rw [hs1, hs2] at HN
              have q0 : (0 : Int) ≤ (i2 : Int) := by omega
              have q1 : (i2 : Int) < (i : Int) := by omega
              have q2 : (0 : Int) ≤ (i2 : Int) + (j : Int) := by omega
              have q3 : (i2 : Int) + (j : Int) < (la : Int) + 1 := by have := HUSL.out; omega
              have q4 : ((i2 : Int) + (j : Int)).toNat = j + i2 := by omega
              clear hx' hy' hzy hux hs1 hs2 hyl; go_upto_region 41 with (fail)
              go_region
              go_wp2; go_roundw
              case rel => exact ⟨i2 + 1, s2 / B, _, by simp only [B]; congr 1, by go_num, by omega, HN⟩
              case measure => simp [intOf]; omega
             ·obtain rfl : i2 = i := by omega
              have hsum := HBM.out.st.sum; rw [List.take_of_length_le (by rw [HYL.out.1]; exact Nat.le_refl _), List.take_of_length_le (by rw [HVL.out]; exact Nat.le_refl _), val_dg, HZW.out] at hsum
              have hvs : val vs < B ^ i2 := by have := val_lt HBM.out.st.dig; rwa [HBM.out.st.len] at this
              have hWV : W % (b * 2 ^ k) < B ^ i2 := Nat.lt_of_lt_of_le (Nat.mod_lt _ HV0.out) HVB.out; have hc21 := HBM.out.st.clt
              obtain rfl : c2 = 1 := by
               have h3 : c2 = 0 ∨ c2 = 1 := by omega
               rcases h3 with h3 | h3
               ·rw [h3, Nat.mul_zero] at hsum; omega
               ·exact h3
              have hval : val vs = W % (b * 2 ^ k) := by omega
              have hbu := HBM.out.bu; rw [List.drop_of_length_le (by rw [HYL.out.1]; exact Nat.le_refl _), List.nil_append] at hbu
              have hget : (us.take j ++ (vs ++ 4294967295 :: us.drop (j + i2 + 1)))[j + i2]? = some 4294967295 := by
               rw [List.getElem?_append_right (by rw [List.length_take]; omega), List.length_take, Nat.min_eq_left hju, Nat.add_sub_cancel_left, List.getElem?_append_right (by rw [HBM.out.st.len]; exact Nat.le_refl _), HBM.out.st.len, Nat.sub_self]; rfl
              have hset : (us.take j ++ (vs ++ 4294967295 :: us.drop (j + i2 + 1))).set (j + i2) 0 = us.take j ++ (vs ++ 0 :: us.drop (j + i2 + 1)) := by
               rw [List.set_append_right _ _ (by rw [List.length_take]; omega), List.length_take, Nat.min_eq_left hju, Nat.add_sub_cancel_left, List.set_append_right _ _ (by rw [HBM.out.st.len]; exact Nat.le_refl _), HBM.out.st.len, Nat.sub_self]; rfl
              have c1 := (hbu.cell (j + i2)).trans (darr_some hget); have f1 := hbu.frozen (j + i2); have hbu2 := hbu.set (j + i2) (.int .u32 ((0 : Nat) : Int)); rw [darr_set, hset] at hbu2; have HNX := zh (HST.out.next (ys := vs) (q := q) HVB.out hjl (by omega) (by rw [← HQQ.out]) HV0.out (by rw [HHW.out]; exact hval) HBM.out.st.len HBM.out.st.dig (HBM.out.bv.far (p := ⟨gu, j + i2, none⟩) (show gv ≠ gu by omega) (.int .u32 ((0 : Nat) : Int))) hbu2 (HBM.out.bq.far (p := ⟨gu, j + i2, none⟩) (show gq ≠ gu by omega) _) (below_far HBM.out.below (by omega) _ _) (by omega) (by omega) (by omega)); have hqc := HBM.out.bq.cell j; have hqf := HBM.out.bq.frozen j; rw [darr_at _ (by simp; omega)] at hqc; generalize (List.replicate (j + 1) 0 ++ qs)[j]'(by simp; omega) = old at hqc
              have q5 : (j : Int) < (m : Int) + 1 := by omega
              have e1 : (q : Int) % 4294967296 = (q : Int) := by omega
              have w8 : IntKind.u32.wrap (4294967295 + 1) = 0 := by decide
              clear hbu hbu2 hget hset hsum hvs hWV hval; go_wp2; go_roundw
              case rel => exact ⟨j, _, _, by first | rfl | go_num, by omega, HNX⟩
              case measure => first | (simp [intOf]; done) | (simp [intOf]; omega)
           -->P2
     | zero =>
       --<P3
       as_aux_lemma =>
        obtain ⟨hqv, hrv⟩ := HST.out.st.done
        have hb0 : 0 < b := by
         refine Nat.pos_of_ne_zero ?_; rintro rfl; have := HNB.out; rw [dg_zero] at this; simp at this; omega
        have hqv2 : val qs = a / b := by rw [hqv, Nat.mul_div_mul_right _ _ (Nat.two_pow_pos k)]
        have hrv2 : val us = a % b * 2 ^ k := by rw [hrv, Nat.mul_mod_mul_right]
        have hrV : val us < B ^ n := by
         have h1 := val_lt (dg_dig (b * 2 ^ k)); rw [val_dg, HVL.out] at h1; rw [hrv]; exact Nat.lt_trans (Nat.mod_lt _ (Nat.mul_pos hb0 (Nat.two_pow_pos k))) h1
        have hnu : n ≤ us.length := by rw [HST.out.st.len]; omega
        have htk : val (us.take n) = val us := by
         have h1 := val_take_drop us n hnu
         rcases Nat.eq_zero_or_pos (val (us.drop n)) with h2 | h2
         ·rw [h2, Nat.mul_zero] at h1; omega
         ·have h3 : B ^ n * 1 ≤ B ^ n * val (us.drop n) := Nat.mul_le_mul_left _ h2; omega
        obtain ⟨R, hR⟩ := eqx (val us); rw [hR] at htk hrv2; have hdt : Dig (us.take n) := dig_tak HST.out.st.dig n; have hdg := HST.out.bu
        have htn : (us.take n).length = n := by rw [List.length_take]; omega
        have HTR := zh (trim_dg (some ⟨gu, 0, none⟩) (la + 1) (us.take n) wo ((digs_of hdg).take n hnu) hdt (by omega) (by omega)); rw [htn, htk] at HTR
        have hpre : us = dg R ++ us.drop (dg R).length := by
         obtain ⟨h1, h2⟩ := tzl_dg hdt; rw [htk] at h1 h2; rw [htn] at h1 h2
         have h3 : (dg R).length ≤ n := by rw [← h2]; exact tzl_le _ _
         rw [h2, List.take_take, Nat.min_eq_left h3] at h1; have h4 := List.take_append_drop (dg R).length us; rw [h1] at h4; exact h4.symm
        have hLn : (dg R).length ≤ n := by
         have h1 := congrArg List.length hpre; obtain ⟨_, h2⟩ := tzl_dg hdt; rw [htk, htn] at h2; rw [← h2]; exact tzl_le _ _
        obtain ⟨tl, htl⟩ := eqx (us.drop (dg R).length); rw [htl] at hpre; obtain ⟨L, hL⟩ := eqx ((dg R).length); rw [hL] at HTR hLn; have hlen := HST.out.st.len; rw [hpre] at hlen hdg; have HBU0 : Hid (Blk wo gu 103 (darr (shrT k (dg R) 0 ++ tl))) := zh (by rw [shrT_zero]; exact hdg); have HL := zh hL; have HLT : Hid (L + tl.length = la + 1) := zh (by rw [List.length_append, hL] at hlen; exact hlen); have HBQ : Hid (Blk wo gq 103 (darr qs)) := zh (by have := HST.out.bq; simpa using this); have HQS : Hid (val qs = a / b ∧ Dig qs ∧ qs.length = m + 1) := zh ⟨hqv2, HST.out.st.qdig, by have := HST.out.st.qlen; omega⟩; have HRV : Hid (R / 2 ^ k = a % b) := zh (by rw [hrv2, Nat.mul_div_cancel _ (Nat.two_pow_pos k)]); have HBO := zh HST.out.below
        have hm1 : (0 : Int) - 1 = -1 := by omega
        have e1 : decide (((0 : Nat) : Int) - 1 < 0) = true := by decide
        have g1 : (0 : Int) ≤ (n : Int) := by omega
        have g2 : (n : Int) ≤ (la : Int) + 1 := by omega
        have g3 : ((n : Int)).toNat = n := by omega
        clear hqv hrv hqv2 hrv2 hrV hnu htk hdt hdg htn hpre hL htl hR hlen HST; go_wp2_with (fail); refine HTR.out.mono ?_; rintro e9 _ ⟨rfl, rfl, _⟩; go_wp2
        go_loopw [26] (fun s26 wr => ∃ i : Nat, s26 = .int .i64 (i : Nat) ∧ i ≤ L ∧ Hid (Blk wr gu 103 (darr (shrT k (dg R) i ++ tl))) ∧ Hid (Blk wr gq 103 (darr qs)) ∧ Hid (Below w.heap.size w wr)) (fun s26 _ => L - (intOf s26).toNat)
        case atStart => exact ⟨0, rfl, Nat.zero_le _, HBU0, HBQ, HBO⟩
        case round =>
         clear HBU0 HBQ HBO HTR; obtain ⟨wr, rfl⟩ : ∃ wq : World, wq = wr := ⟨_, rfl⟩; obtain ⟨i, rfl, hi, HBU, HBQ, HBO⟩ := hrel
         by_cases hiL : i < L
         ·have hiD : i < (dg R).length := by rw [HL.out]; exact hiL
          obtain ⟨x, hx⟩ : ∃ x, (dg R)[i]? = some x := ⟨_, List.getElem?_eq_getElem hiD⟩
          have hxe : (dg R)[i] = x := by obtain ⟨_, e9⟩ := List.getElem?_eq_some_iff.1 hx; exact e9
          have hxB : x < 4294967296 := by rw [← hxe]; exact dg_dig _ _ (List.getElem_mem _)
          have hsl : (shrT k (dg R) i).length = L := by rw [shrT_len (by omega), HL.out]
          have hgx : (shrT k (dg R) i ++ tl)[i]? = some x := by rw [List.getElem?_append_left (by omega), shrT_get (Nat.le_refl _) hiD, hxe]
          have c1 := (HBU.out.cell i).trans (darr_some hgx); have f1 := HBU.out.frozen i; obtain ⟨xs, hxs⟩ := eqx (x / 2 ^ k)
          have hxsB : xs < 4294967296 := by rw [← hxs]; exact Nat.lt_of_le_of_lt (Nat.div_le_self _ _) hxB
          have e5 : (x : Int) / 2 ^ k = (xs : Int) := by rw [← hxs]; simp
          have q0 : (0 : Int) ≤ (i : Int) := by omega
          have q1 : (i : Int) < (L : Int) := by omega
          have q3 : ((i : Int)).toNat = i := by omega
          have q5 : IntKind.i64.wrap ((i : Int) + 1) = (i : Int) + 1 := IntWalk.i64_in _ (by have := HLT.out; omega); have hB1 := HBU.out.set i (.int .u32 (xs : Nat)); rw [darr_set] at hB1; have HBL1 := zh (below_far HBO.out (show w.heap.size ≤ gu by omega) i (.int .u32 (xs : Nat))); have HBQ1 := zh (HBQ.out.far (p := ⟨gu, i, none⟩) (show gq ≠ gu by omega) (.int .u32 (xs : Nat)))
          have hset : ∀ z, (shrT k (dg R) i ++ tl).set i z = (shrT k (dg R) i).set i z ++ tl := fun z => List.set_append_left _ _ (by omega)
          have hat := shrD_at (k := k) hx
          by_cases hi1 : i + 1 < L
          ·have e3 : decide ((i : Int) + 1 < (L : Int)) = true := dT (by omega)
           have hi1D : i + 1 < (dg R).length := by rw [HL.out]; exact hi1
           obtain ⟨y, hy⟩ : ∃ y, (dg R)[i + 1]? = some y := ⟨_, List.getElem?_eq_getElem hi1D⟩
           have hye : (dg R)[i + 1] = y := by obtain ⟨_, e9⟩ := List.getElem?_eq_some_iff.1 hy; exact e9
           have hyB : y < 4294967296 := by rw [← hye]; exact dg_dig _ _ (List.getElem_mem _)
           rw [hy] at hat
           have hat2 : (shrD k (dg R))[i]? = some (xs + y * 2 ^ (32 - k) % B) := by rw [hat, ← hxs]
           obtain ⟨s, hs⟩ := eqx (32 - k); obtain ⟨ys, hys⟩ := eqx (y * 2 ^ (32 - k)); obtain ⟨yl, hyl⟩ := eqx (ys % 4294967296); obtain ⟨z, hz⟩ := eqx (xs + yl)
           have hysB : ys < 18446744073709551616 := by
            have h1 : y * 2 ^ (32 - k) < 4294967296 * 2 ^ 32 := Nat.lt_of_lt_of_le (Nat.mul_lt_mul_of_pos_right hyB (Nat.two_pow_pos _)) (Nat.mul_le_mul_left _ (Nat.pow_le_pow_right (by decide) (by omega))); rw [hys] at h1; exact h1
           have hor : xs ||| yl = z := by
            have h1 := shr_or (y := y) hk hxB; rw [hxs, hys, show ys % B = yl from hyl, hz] at h1; exact h1
           have hzB : z < 4294967296 := by
            have h1 := (shr_dgt (y := y) hk hxB).1; rw [hxs, hys, show ys % B = yl from hyl, hz] at h1; exact h1
           have hat3 : (shrD k (dg R))[i]? = some z := by rw [hat2, hys, show ys % B = yl from hyl, hz]
           have w1 : IntKind.u64.wrap (32 - (k : Int)) = (s : Int) := by rw [IntKind.wrap_u64]; omega
           have w1' : (32 : Int) - (k : Int) = (s : Int) := by omega
           have w2 : IntKind.u64.wrap ((y : Int) * 2 ^ s) = (ys : Int) := by
            have e9 : (y : Int) * 2 ^ s = (ys : Int) := by rw [← hys, hs]; simp
            rw [e9]; exact wrap_nat ys hysB
           have w3 : (ys : Int) % 4294967296 = (yl : Int) := by omega
           have o3 : bits BinOp.or IntKind.u32 (xs : Int) (yl : Int) = (z : Int) := by
            rw [u32_or_nat xs yl hxsB (by omega), hor]
           have HNB : Hid (∀ V : World, Blk V gu 103 (darr ((shrT k (dg R) i ++ tl).set i xs)) → Blk (V.setCell ⟨gu, i, none⟩ (.int .u32 (z : Nat))) gu 103 (darr (shrT k (dg R) (i + 1) ++ tl))) := zh (fun V hV => by
            have h1 := hV.set i (.int .u32 (z : Nat)); rw [darr_set, List.set_set, hset, shrT_set hiD hat3] at h1
            exact h1)
           have hg1 : ((shrT k (dg R) i ++ tl).set i xs)[i]? = some xs := by rw [List.getElem?_set_self (by rw [List.length_append]; omega)]
           have hg2 : ((shrT k (dg R) i ++ tl).set i xs)[i + 1]? = some y := by rw [List.getElem?_set_ne (by omega), List.getElem?_append_left (by omega), shrT_get (by omega) hi1D, hye]
           have q6 : (0 : Int) ≤ (i : Int) + 1 := by omega
           have q7 : ((i : Int) + 1).toNat = i + 1 := by omega
           have hki : k ≤ 32 := by omega
           clear hx hxe hgx hxs hat hat2 hat3 hy hye hs hys hyl hz hor hset hsl hiD hi1D; go_upto_region 51 with (fail); obtain ⟨V1, hV1⟩ := eqx (wr.setCell ⟨gu, i, none⟩ (.int .u32 (xs : Nat))); rw [hV1] at hB1 HBL1 HBQ1; rw [hV1]; clear hV1; have k1 := (hB1.cell i).trans (darr_some hg1); have k2 := (hB1.cell (i + 1)).trans (darr_some hg2); have kf := hB1.frozen i; have HNB1 := zh (HNB.out V1.drew hB1.drew); have HB2 := zh (below_far (below_drewN HBL1.out 1) (show w.heap.size ≤ gu by omega) i (.int .u32 (z : Nat))); have HQ2 := zh (HBQ1.out.drew.far (p := ⟨gu, i, none⟩) (show gq ≠ gu by omega) (.int .u32 (z : Nat))); clear hg1 hg2 hB1 c1 f1; go_upto_region 52 with (fail)
           go_region
           go_wp2; go_roundw
           case rel => exact ⟨i + 1, by go_num, by omega, HNB1, HQ2, HB2⟩
           case measure => simp [intOf]; omega
          ·have e3 : decide ((i : Int) + 1 < (L : Int)) = false := dF (by omega); have hnone : (dg R)[i + 1]? = none := List.getElem?_eq_none (by rw [HL.out]; omega); rw [hnone] at hat
           have hat2 : (shrD k (dg R))[i]? = some xs := by rw [hat, ← hxs]
           have HNB1 : Hid (Blk (wr.setCell ⟨gu, i, none⟩ (.int .u32 (xs : Nat))) gu 103 (darr (shrT k (dg R) (i + 1) ++ tl))) := zh (by
            have h1 := hB1; rw [hset, shrT_set hiD hat2] at h1
            exact h1)
           clear hx hxe hgx hxs hat hat2 hset hsl hiD hB1 hnone; go_wp2; go_roundw
           case rel => exact ⟨i + 1, by go_num, by omega, HNB1, HBQ1, HBL1⟩
           case measure => simp [intOf]; omega
         ·obtain rfl : i = L := by omega
          have hfin : shrT k (dg R) i = shrD k (dg R) := by rw [← HL.out]; exact shrT_all k (dg R)
          have hB := HBU.out; rw [hfin] at hB
          have hsl : (shrD k (dg R)).length = i := by rw [shrD_len, HL.out]
          have HT1 := zh (trim_dg (some ⟨gq, 0, none⟩) (m + 1) qs wr (digs_of HBQ.out) HQS.out.2.1 (by have := HQS.out.2.2; omega) (by have := HQS.out.2.2; omega)); rw [HQS.out.2.2, HQS.out.1] at HT1
          have hds : Digs wr (some ⟨gu, 0, none⟩) (shrD k (dg R)) := by
           have h1 := (digs_of hB).take i (by rw [List.length_append]; omega); rw [List.take_append_of_le_length (by omega), List.take_of_length_le (by omega)] at h1; exact h1
          have HT2 := zh (fun V (h : Digs V (some ⟨gu, 0, none⟩) (shrD k (dg R))) => trim_dg (some ⟨gu, 0, none⟩) (la + 1) (shrD k (dg R)) V h (shrD_dig hk (dg_dig R)) (by have := HLT.out; omega) (by have := HLT.out; omega))
          have hvs : val (shrD k (dg R)) = a % b := by rw [shrD_val hk, val_dg, HRV.out]
          rw [hsl, hvs] at HT2; have HDS := zh hds; have e1 : decide ((i : Int) < (i : Int)) = false := dF (by omega); have e1' : decide (i < i) = false := dF (by omega); have hm1 : m + 1 ≤ m + 1 := Nat.le_refl _
          have HCL : Hid ((dg (a / b)).length ≤ m + 1 ∧ (dg (a % b)).length ≤ la + 1) := zh (by
           have h1 := dg_val_len HQS.out.2.1; have h2 := dg_val_len (shrD_dig hk (dg_dig R)); rw [HQS.out.1, HQS.out.2.2] at h1; rw [hvs, hsl] at h2
           exact ⟨h1, by have := HLT.out; omega⟩)
          have hc1 : ((m + 1 : Nat) : Int) = (m : Int) + 1 := by omega
          clear hfin hB hsl hds hvs; go_wp2_with (fail); refine HT1.out.mono ?_; rintro e8 _ ⟨rfl, rfl, hd1⟩; have HD1 := zh hd1; clear hd1; go_wp2_with (fail); refine (HT2.out _ HDS.out).mono ?_; rintro e8 _ ⟨rfl, rfl, hd2⟩; have HD2 := zh hd2; clear hd2; go_wp2; rw [← HQ.out]; exact ⟨some ⟨gq, 0, none⟩, m + 1, some ⟨gu, 0, none⟩, la + 1, rfl, ND.some HD1.out HCL.out.1, ND.some HD2.out HCL.out.2, HBO.out⟩
       -->P3
end
end Go.Proofs.Tg
