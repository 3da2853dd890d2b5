/- Parts of the proof: JA3, JE0, JF1, JF2, WS3. -/
import Derived.Test.YtbgaiceakmmfdaaGreatDoorMMR0
import Derived.Test.YtbgaiceakmmfdaaGreatDoorMMR1
import Derived.Test.YtbgaiceakmmfdaaGreatDoorMMR7
import Derived.Test.YtbgaiceakmmfdaaGreatDoorMMR20
import Derived.Test.YtbgaiceakmmfdaaGreatDoorMMR21
import Derived.Test.YtbgaiceakmmfdaaGreatDoorMMR24
set_option maxHeartbeats 64000000
set_option maxRecDepth 100000
namespace Go.Proofs.Tg.Iw
section
open Go.RowKit Go.Bw Go.Gr Go.Proofs.Tg
theorem nMul_any (p q : Bool) (X Y : Option Addr) (cx cy a b : Nat) (w : World) (hX : NW w X cx a) (hY : NW w Y cy b) (ha : (dg a).length ≤ 400000) (hb : (dg b).length ≤ 400000) (hs : (dg a).length < 40 ∨ (dg b).length < 40) :
    Calls Tryz.prog 46 #[.agg #[.bool p, .slice X (dg a).length cx], .agg #[.bool q, .slice Y (dg b).length cy]] w (RetSg ((p != q) && decide (0 < (dg (a * b)).length)) (a * b) w) := by
  obtain ⟨na, hna⟩ := eqx ((dg a).length); obtain ⟨nb, hnb⟩ := eqx ((dg b).length); obtain ⟨W, hW⟩ := eqx (((w.alloc (.cells #[.bool p, .slice X na cx] 68)).alloc (.cells #[.bool q, .slice Y nb cy] 68)).alloc (.cells #[.bool false, .slice none 0 0] 68))
  have B0 : Blk W w.heap.size 68 #[.bool p, .slice X na cx] := by rw [← hW]; exact ((Blk.new _ _ _).alloc _).alloc _
  have B1 : Blk W (w.heap.size + 1) 68 #[.bool q, .slice Y nb cy] := by
   rw [← hW]; have := (Blk.new (w.alloc (.cells #[.bool p, .slice X na cx] 68)) 68 #[.bool q, .slice Y nb cy]).alloc (.cells #[.bool false, .slice none 0 0] 68); simpa using this
  have B2 : Blk W (w.heap.size + 1 + 1) 68 #[.bool false, .slice none 0 0] := by
   rw [← hW]; have := Blk.new ((w.alloc (.cells #[.bool p, .slice X na cx] 68)).alloc (.cells #[.bool q, .slice Y nb cy] 68)) 68 #[.bool false, .slice none 0 0]; simpa using this
  have hbW : Below w.heap.size w W := by rw [← hW]; exact ((bal).alloc (by simp) _).alloc (by simp; omega) _
  have HF : Hid (∀ V, Below W.heap.size W V → Calls Tryz.prog 73 #[.slice X na cx, .slice Y nb cy] V (RetW (a * b) V)) := zh (fun V h => by rw [← hna, ← hnb]; exact mulw_short X Y cx cy a b V ((hX.keep hbW).keep h) ((hY.keep hbW).keep h) ha hb hs); obtain ⟨m, hm⟩ := eqx (a * b); rw [hm] at HF ⊢; unfold RetW at HF; obtain ⟨nm, hnm⟩ := eqx ((dg m).length); have HLST : Hid (∀ (V : World) (R : Option Addr) (c : Nat) (v : Bool), Below W.heap.size W V → NW V R c m → Blk V (w.heap.size + 1 + 1) 68 #[.bool false, .slice none 0 0] → RetSg v m w (.returned (.agg #[.bool v, .slice R nm c])) ((V.setCell ⟨w.heap.size + 1 + 1, 0, none⟩ (.bool v)).setCell ⟨w.heap.size + 1 + 1, 1, none⟩ (.slice R nm c))) := zh (fun V R c v h1 h2 h3 => by rw [← hnm]; exact retSg_last hbW h1 h2 (by omega) h3); obtain ⟨v, hv⟩ := eqx (((p != q) && decide (0 < nm)))
  have HM : Hid (∀ V R c, Calls Tryz.prog 72 #[.bool (!(p == q)), .slice R nm c] V fun e w' => e = .returned (.agg #[.bool v, .slice R nm c]) ∧ Below V.heap.size V w') := zh (fun V R c => signed_w (!(p == q)) R nm c V v hv); rw [hnm] at HF ⊢; rw [hna, hnb]; rw [hv]; have HW := zh hW; have HB2 := zh B2; have hl2 := B2.lt; have n1 : (w.heap.size = w.heap.size + 1 + 1) = False := eq_false (by omega); have n2 : (w.heap.size + 1 + 1 = w.heap.size) = False := eq_false (by omega); obtain ⟨a0, a1, _, _⟩ := B0.two; obtain ⟨b0, b1, _, _⟩ := B1.two; obtain ⟨d0, d1, d2, d3⟩ := B2.two; have hbe : Below W.heap.size W W.drew := brf.drew; clear hX hY hna hnb hm hnm hv hW B0 B1 B2 ha hb hs; go_enter Tryz.func46, Tryz.ntmps46; go_upto_region 1 with (fail); rw [HW.out]
  go_region_held3 (fun w' => w'.cell? ⟨w.heap.size, 0, none⟩ = some (.bool p) ∧ w'.cell? ⟨w.heap.size, 1, none⟩ = some (.slice X na cx) ∧ w'.cell? ⟨w.heap.size + 1, 0, none⟩ = some (.bool q) ∧ w'.cell? ⟨w.heap.size + 1, 1, none⟩ = some (.slice Y nb cy))
    (first | exact ⟨keep_cell hbe a0, keep_cell hbe a1, keep_cell hbe b0, keep_cell hbe b1⟩ | go_keep | (dsimp only; refine ⟨?_, ?_, ?_, ?_⟩ <;> go_keep) | (refine ⟨?_, ?_, ?_, ?_⟩ <;> (rw [World.cell?_setCell_ne, World.cell?_setCell_ne] <;> first | exact keep_cell hbe a0 | exact keep_cell hbe a1 | exact keep_cell hbe b0 | exact keep_cell hbe b1 | (simp; omega) | simp)))
    (first
      | (go_at_call 73; with_reducible refine Calls.mono (HF.out _ (by assumption)) ?_; rintro e w2 ⟨R, c, rfl, hD, hb2⟩
         have hbe := below_all hbe hb2)
      | (go_at_call 72; with_reducible refine Calls.mono (HM.out _ _ _) ?_; rintro e w3 ⟨rfl, hb3⟩
         have hD := hD.keep hb3; have hbe := below_all hbe hb3; have Y2 := HB2.out.keep hbe hl2
         obtain ⟨d0, d1, d2, d3⟩ := Y2.two))
  all_goals
    go_wp2; exact bodyPost_ret (v := .agg #[.bool v, .slice R nm c]) (by simp [results, Tryz.results46, go_sem, d0, d1]) rfl (HLST.out w3 R c v hbe hD Y2)
theorem imul_any (x y : Int) (X Y : Option Addr) (cx cy : Nat) (w : World) (hX : NW w X cx x.natAbs) (hY : NW w Y cy y.natAbs) (ha : (dg x.natAbs).length ≤ 400000) (hb : (dg y.natAbs).length ≤ 400000) (hs : (dg x.natAbs).length < 40 ∨ (dg y.natAbs).length < 40) :
    Calls Tryz.prog 46 #[.agg #[.bool (decide (x < 0)), .slice X (dg x.natAbs).length cx], .agg #[.bool (decide (y < 0)), .slice Y (dg y.natAbs).length cy]] w (RetZ (x * y) w) :=
  (nMul_any _ _ X Y cx cy _ _ w hX hY ha hb hs).mono fun _ _ h => retSg_int h (Int.natAbs_mul x y) (by
   by_cases h0 : x.natAbs * y.natAbs = 0
   ·have e : x * y = 0 := by rw [← Int.natAbs_eq_zero, Int.natAbs_mul]; exact h0
    rw [h0, e, dg_zero]; simp
   ·have hp := dg_len_pos.2 h0
    have hx : x ≠ 0 := fun e => h0 (by rw [e]; simp)
    have hy : y ≠ 0 := fun e => h0 (by rw [e]; simp)
    rw [dT hp, Bool.and_true]
    rcases Int.lt_or_gt_of_ne hx with h1 | h1 <;> rcases Int.lt_or_gt_of_ne hy with h2 | h2
    ·have := Int.mul_pos_of_neg_of_neg h1 h2; simp [h1, h2]; omega
    ·have := Int.mul_neg_of_neg_of_pos h1 h2
     have h3 : ¬ y < 0 := by omega
     simp [h1, h3]; omega
    ·have := Int.mul_neg_of_pos_of_neg h1 h2
     have h3 : ¬ x < 0 := by omega
     simp [h2, h3]; omega
    ·have := Int.mul_pos h1 h2
     have h3 : ¬ x < 0 := by omega
     have h4 : ¬ y < 0 := by omega
     simp [h3, h4]; omega)
end
end Go.Proofs.Tg.Iw
namespace Go.Proofs.Tg.Iw
section
open Go.RowKit Go.Bw Go.Gr Go.Proofs.Tg Go.Rq
theorem add_parts (p q : Rat) (g : Nat) (hg : Nat.gcd p.den q.den = g) (n : Int) (hn : p.num * ((q.den / g : Nat) : Int) + q.num * ((p.den / g : Nat) : Int) = n) :
    (p + q).num = n.tdiv (Nat.gcd n.natAbs g : Nat) ∧ (p + q).den = (p.den / g) * (q.den / Nat.gcd n.natAbs g) := by
  have hgd : g ∣ q.den := by rw [← hg]; exact Nat.gcd_dvd_right _ _
  have hrd : Nat.gcd n.natAbs g ∣ q.den := Nat.dvd_trans (Nat.gcd_dvd_right _ _) hgd; have h : p + q = Rat.add p q := rfl; rw [h]; unfold Rat.add; simp only []
  by_cases h1 : Nat.gcd p.den q.den = 1
  ·rw [dif_pos h1]; rw [hg] at h1; subst h1; rw [Nat.div_one, Nat.div_one] at hn; rw [Nat.gcd_one_right, Nat.div_one, Nat.div_one]; refine ⟨?_, rfl⟩
   show p.num * q.den + q.num * p.den = n.tdiv ((1 : Nat) : Int)
   rw [hn]; simp
  ·rw [dif_neg h1]; unfold Rat.maybeNormalize; simp only [hg, hn]
   split
   ·rename_i h2
    refine ⟨?_, ?_⟩
    ·show n = _
     rw [h2]; simp
    ·show p.den / g * q.den = _
     rw [h2, Nat.div_one]
   ·simp only [Int.divExact_eq_tdiv, Nat.divExact_eq_div]; exact ⟨trivial, Nat.mul_div_assoc _ hrd⟩
theorem len_mul {a b i j : Nat} (ha : (dg a).length ≤ i) (hb : (dg b).length ≤ j) : (dg (a * b)).length ≤ i + j := by
 refine Nat.le_of_lt_succ (Nat.lt_succ_of_le ?_)
 by_cases h0 : a * b = 0
 ·rw [h0, dg_zero]; exact Nat.zero_le _
 ·have h1 : a < B ^ i := Nat.lt_of_lt_of_le (val_lt_dg a) (Nat.pow_le_pow_right (by decide) ha)
  have h2 : b < B ^ j := Nat.lt_of_lt_of_le (val_lt_dg b) (Nat.pow_le_pow_right (by decide) hb); refine dg_len_lt ?_; rw [Nat.pow_add]; exact Nat.mul_lt_mul'' h1 h2
theorem len_add {a b i : Nat} (ha : (dg a).length ≤ i) (hb : (dg b).length ≤ i) : (dg (a + b)).length ≤ i + 1 := by
 have h1 : a < B ^ i := Nat.lt_of_lt_of_le (val_lt_dg a) (Nat.pow_le_pow_right (by decide) ha)
 have h2 : b < B ^ i := Nat.lt_of_lt_of_le (val_lt_dg b) (Nat.pow_le_pow_right (by decide) hb)
 refine dg_len_lt ?_
 have h3 : B ^ (i + 1) = B ^ i * B := Nat.pow_succ ..
 have h4 : B ^ i * 2 ≤ B ^ i * B := Nat.mul_le_mul_left _ (by decide)
 omega
end
end Go.Proofs.Tg.Iw
namespace Go.Proofs.Tg.Iw
section
open Go.RowKit Go.Bw Go.Gr Go.Proofs.Tg
def PsOk (p : Nat) : Prop := ∀ (s : ByteArray) (cp : Nat) (P : Option Addr) (w : World), s.size ≤ 1700 → (∀ c ∈ s.data.toList, Go.Qn.isD c = true) → p ≤ 7 → p ≤ cp → PwAt w P p →
    Calls Tryz.prog 83 #[.string s, .slice P p cp] w (RetW (Go.Qn.val s.data.toList) w)
theorem dval_words {q : List UInt8} {k : Nat} (h : ∀ c ∈ q, Go.Qn.isD c = true) (hl : q.length ≤ 19 * k) : (dg (Go.Qn.val q)).length ≤ k := by
 have h1 : Go.Qn.val q < 10 ^ q.length := Go.Qn.val_lt q h
 have h2 : 10 ^ q.length ≤ 10 ^ (19 * k) := Nat.pow_le_pow_right (by decide) hl
 rw [← CB_pow] at h2
 have h3 : CB ^ k ≤ B ^ k := Nat.pow_le_pow_left (by decide) k
 exact dg_len_lt (Nat.lt_of_lt_of_le h1 (Nat.le_trans h2 h3))
theorem pw_mul_ok {j n : Nat} (hj : j ≤ 6) (hn : n ≤ 1700) (h : 19 * 2 ^ j < n) {q : List UInt8} (hq : ∀ c ∈ q, Go.Qn.isD c = true) (hl : q.length = n - 19 * 2 ^ j) : (dg (Go.Qn.val q)).length < 40 ∨ (dg (pw j)).length < 40 := by
 by_cases h6 : j = 6
 ·subst h6
  left
  have := dval_words (k := 26) hq (by omega); omega
 ·right
  have h1 := pw_len j; have h2 : 2 ^ j ≤ 2 ^ 5 := Nat.pow_le_pow_right (by decide) (by omega); omega
theorem split_parse (p : Nat) (IH : ∀ j, j < p → PsOk j) : PsOk p := by
 intro s cp P w hs hd hp hcp hP
 have HPS := zh (psimple_w s w (by omega) hd)
 obtain ⟨Q, hQ⟩ := eqx (RetW (Go.Qn.val s.data.toList) w)
 have HQ : Hid (∀ e V, Q e V → ∃ v, e = .returned v) := zh (fun e V h => by rw [← hQ] at h; obtain ⟨R, c, rfl, _⟩ := h; exact ⟨_, rfl⟩)
 have HQI : Hid (∀ e V, RetW (Go.Qn.val s.data.toList) w e V → Q e V) := zh (fun e V h => by rw [← hQ]; exact h)
 rw [hQ] at HPS ⊢
 have HD := zh hd
 have HP := zh hP
 have HIH := zh IH
 have HSL := zh (len_size s)
 clear hd hQ hP IH
 obtain ⟨n, hn⟩ := eqx (s.size)
 have y1 : IntKind.i64.wrap ((p : Int) - 1) = (p : Int) - 1 := IntWalk.i64_in _ (by omega)
 go_enter Tryz.func83, Tryz.ntmps83
 go_upto_block 0 with (fail)
 go_wp2
 go_loopw [5] (fun s5 wr => ∃ i : Nat, s5 = .int .i64 ((i : Int) - 1) ∧ i ≤ p ∧ Hid (wr = w)) (fun s5 _ => (intOf s5 + 1).toNat)
 case atStart => exact ⟨p, rfl, Nat.le_refl _, zh rfl⟩
 case round =>
  obtain ⟨i, rfl, hi, HW⟩ := hrel; have e := HW.out; subst e; clear HW
  cases i with
  | zero =>
    have dd : decide ((0 : Int) ≤ ((0 : Nat) : Int) - 1) = false := by decide
    have de : decide (((0 : Nat) : Int) - 1 < 0) = true := by decide
    clear HIH HP HD HSL HQI
    go_wp2_with (go_at_call 108; refine HPS.out.mono ?_; rintro e w' h; obtain ⟨v, rfl⟩ := HQ.out _ _ h; have H := zh h; clear h)
    exact H.out
  | succ j =>
    have e : (((j + 1 : Nat) : Int) - 1) = (j : Int) := by omega
    rw [e]; clear e
    have hj6 : j ≤ 6 := by omega
    have hjp : j < p := by omega
    obtain ⟨k, hk⟩ := eqx (19 * 2 ^ j)
    have hk2 : k ≤ 1216 := by
     have : 2 ^ j ≤ 2 ^ 6 := Nat.pow_le_pow_right (by decide) (by omega); omega
    have s1 : wrap64 ((19 : Int) * 2 ^ j) = (k : Int) := by
     have e : (19 : Int) * 2 ^ j = (k : Int) := by rw [← hk]; simp
     rw [e]; unfold wrap64; omega
    have d0 : decide ((0 : Int) ≤ (j : Int)) = true := dT (by omega); have d1 : decide ((j : Int) < 0) = false := dF (by omega); have y2 : IntKind.i64.wrap ((j : Int) - 1) = (j : Int) - 1 := IntWalk.i64_in _ (by omega); have HK := zh hk; clear hk
    by_cases hge : s.size ≤ k
    ·have d2 : decide ((s.size : Int) ≤ (k : Int)) = true := dT (by omega); have d2' : decide (s.size ≤ k) = true := dT hge; clear hn; go_wp2; go_roundw
     case rel => exact ⟨j, rfl, by omega, zh (by first | rfl | trivial)⟩
     case measure => first | (simp [intOf]; omega) | simp [intOf]
    ·have d2 : decide ((s.size : Int) ≤ (k : Int)) = false := dF (by omega); have d2' : decide (s.size ≤ k) = false := dF hge
     by_cases h570 : s.size ≤ 570
     ·have d3 : decide ((s.size : Int) ≤ 570) = true := dT (by omega); have d3' : decide (s.size ≤ 570) = true := dT h570; clear HIH HP HD HSL HQI hn
      go_wp2_with (go_at_call 108; refine HPS.out.mono ?_; rintro e w' h; obtain ⟨v, rfl⟩ := HQ.out _ _ h; have H := zh h; clear h)
      exact H.out
     ·have d3 : decide ((s.size : Int) ≤ 570) = false := dF (by omega); have d3' : decide (s.size ≤ 570) = false := dF h570; obtain ⟨z, hz⟩ := eqx (s.size - k)
      have hz1 : (s.size : Int) - (k : Int) = (z : Int) := by omega
      have hz2 : IntKind.i64.wrap (z : Int) = (z : Int) := IntWalk.i64_in _ (by omega); obtain ⟨S1, hS1⟩ := eqx (s.extract 0 z); obtain ⟨S2, hS2⟩ := eqx (s.extract z s.size); have hsl := HSL.out
      have hd1 : S1.data.toList = s.data.toList.take z := by rw [← hS1, ext_bs, bs_data]; simp
      have hd2 : S2.data.toList = s.data.toList.drop z := by rw [← hS2, ext_end, bs_data]
      have hl1 : S1.data.toList.length = s.size - 19 * 2 ^ j := by rw [hd1, List.length_take, HK.out]; omega
      have hz1s : S1.size ≤ 1700 := by rw [← len_size, hl1]; omega
      have hz2s : S2.size ≤ 1700 := by rw [← len_size, hd2, List.length_drop]; omega
      have hD1 : ∀ c ∈ S1.data.toList, Go.Qn.isD c = true := fun c hc => HD.out c (by rw [hd1] at hc; exact List.mem_of_mem_take hc)
      have hD2 : ∀ c ∈ S2.data.toList, Go.Qn.isD c = true := fun c hc => HD.out c (by rw [hd2] at hc; exact List.mem_of_mem_drop hc)
      have hval : Go.Qn.val s.data.toList = Go.Qn.val S1.data.toList * pw j + Go.Qn.val S2.data.toList := by
       have h1 : s.data.toList = S1.data.toList ++ S2.data.toList := by rw [hd1, hd2, List.take_append_drop]
       rw [h1, dval_app, pw_ten]
       congr 3
       rw [hd2, List.length_drop, hsl, HK.out]; omega
      have hmul := pw_mul_ok (q := S1.data.toList) hj6 hs (by rw [HK.out]; omega) hD1 hl1; obtain ⟨ad, R, C, rfl, hc, hR⟩ := HP.out j hjp; obtain ⟨lp, hlp⟩ := eqx ((dg (pw j)).length); rw [hlp] at hc; have hlen1 := dval_words (k := 90) hD1 (by rw [hl1]; omega); have hlen2 := dval_words (k := 90) hD2 (by rw [len_size]; omega); have hlp64 : (dg (pw j)).length ≤ 64 := Nat.le_trans (pw_len j) (Nat.pow_le_pow_right (by decide) hj6); obtain ⟨va, hva⟩ := eqx (Go.Qn.val S1.data.toList); obtain ⟨vb, hvb⟩ := eqx (Go.Qn.val S2.data.toList); rw [hva] at hmul hlen1 hval; rw [hvb] at hlen2 hval; obtain ⟨la, hla⟩ := eqx ((dg va).length); obtain ⟨lb, hlb⟩ := eqx ((dg vb).length); obtain ⟨lm, hlm⟩ := eqx ((dg (va * pw j)).length); have hlm2 : (dg (va * pw j)).length ≤ 160 := Nat.le_trans (len_mul hlen1 hlp64) (by omega)
      have HC1 : Hid (∀ V, Below wr.heap.size wr V → Calls Tryz.prog 83 #[.string S1, .slice (some ad) j cp] V fun e w' => ∃ R c, e = .returned (.slice R la c) ∧ NW w' R c va ∧ Below V.heap.size V w') := zh (fun V hV => by
       have := HIH.out j hjp S1 cp (some ad) V hz1s hD1 (by omega) (by omega) ((HP.out.less (by omega)).keep hV); rw [hva] at this; unfold RetW at this; rw [hla] at this
       exact this)
      have HC2 : Hid (∀ V, Below wr.heap.size wr V → Calls Tryz.prog 83 #[.string S2, .slice (some ad) j cp] V fun e w' => ∃ R c, e = .returned (.slice R lb c) ∧ NW w' R c vb ∧ Below V.heap.size V w') := zh (fun V hV => by
       have := HIH.out j hjp S2 cp (some ad) V hz2s hD2 (by omega) (by omega) ((HP.out.less (by omega)).keep hV); rw [hvb] at this; unfold RetW at this; rw [hlb] at this
       exact this)
      have HMU : Hid (∀ V A a, Below wr.heap.size wr V → NW V A a va → Calls Tryz.prog 73 #[.slice A la a, .slice R lp C] V fun e w' => ∃ R c, e = .returned (.slice R lm c) ∧ NW w' R c (va * pw j) ∧ Below V.heap.size V w') := zh (fun V A a hV hA => by
       have := mulw_short A R a C va (pw j) V hA (hR.keep hV) (by omega) (by omega) hmul; unfold RetW at this; rw [hla, hlp, hlm] at this
       exact this)
      have HAD : Hid (∀ V A a B b, Below wr.heap.size wr V → NW V A a (va * pw j) → NW V B b vb → Calls Tryz.prog 76 #[.slice A lm a, .slice B lb b] V fun e w' => ∃ v, e = .returned v ∧ Hid (Below wr.heap.size wr V → Q (.returned v) w')) := zh (fun V A a B b hV hA hB => by
       have := addw_any A B a b (va * pw j) vb V hA hB ⟨by omega, by omega⟩; rw [hlm, hlb] at this; refine this.mono ?_; rintro e w' ⟨R2, c2, rfl, h1, h2⟩
       exact ⟨_, rfl, zh fun hb => HQI.out _ _ (by rw [hval]; exact ⟨R2, c2, rfl, h1, below_all hb h2⟩)⟩)
      have q1 : (0 : Int) ≤ (z : Int) := by omega
      have q2 : ((z : Int)).toNat = z := by omega
      have q3 : (z : Int) ≤ (s.size : Int) := by omega
      have q4 : decide (s.size < z) = false := dF (by omega)
      have q5 : (j : Int) ≤ (cp : Int) := by omega
      have q6 : (0 : Int) ≤ (j : Int) := by omega
      have q7 : (j : Int) < (p : Int) := by omega
      have q8 : ((j : Int)).toNat = j := by omega
      have hbe : Below wr.heap.size wr wr.drew := brf.drew; clear HIH HP HD HSL HQI HPS hn hz hd1 hd2 hl1 hz1s hz2s hD1 hD2 hval hmul hva hvb hla hlb hlm hlm2 hlen1 hlen2 hlp hlp64 hR hge h570 hsl; go_upto_region 7 with (fail)
      go_region_held3 (fun w' => w'.cell? (ad.add j) = some (.slice R lp C))
        (first | exact keep_cell hbe hc | go_keep)
        (first
          | (go_at_call 83; with_reducible refine Calls.mono (HC1.out _ (by assumption)) ?_; rintro e w2 ⟨R1, c1, rfl, hN1, hb⟩; have hbe := below_all hbe hb)
          | (go_at_call 73; with_reducible refine Calls.mono (HMU.out _ _ _ (by assumption) hN1) ?_; rintro e w3 ⟨R2, c2, rfl, hN2, hb⟩; have hbe := below_all hbe hb))
      all_goals
        have HN2 := zh hN2; clear hN1 hN2 HC1 HMU hc; go_upto_region 8 with (fail); have HN2 := zh (HN2.out.keep brf.drew); have hbe := hbe.drew
        go_region_held3 (fun _ => True) (trivial)
          (first
            | (go_at_call 83; with_reducible refine Calls.mono (HC2.out _ (by assumption)) ?_; rintro e w4 ⟨R3, c3, rfl, hN3, hb⟩; have hN2 := HN2.out.keep hb; have hbe := below_all hbe hb)
            | (go_at_call 76; with_reducible refine Calls.mono (HAD.out _ _ _ _ _ (by assumption) hN2 hN3) ?_; rintro e w5 ⟨v, rfl, H9⟩; have H9 := zh (H9.out hbe)))
        all_goals
          go_wp2; exact H9.out
theorem parse_any : ∀ p, PsOk p := fun p => Nat.strongRecOn p fun p IH => split_parse p IH
end
end Go.Proofs.Tg.Iw
namespace Go.Proofs.Tg.Iw
section
open Go.RowKit Go.Bw Go.Gr Go.Proofs.Tg
open Go.Proofs.Tg.Fi (Buf)
theorem PwB.push0 {w : World} {C : Nat} {R : Option Addr} (hN : NW w R C (pw 0)) :
    ∃ g' N' w', (Builtin.append_ #[129, 129] 129 #[.slice none 0 0, .slice (some ⟨w.heap.size, 0, none⟩) 1 1]).run Tryz.prog (w.alloc (.cells #[.slice R (dg (pw 0)).length C] 66)) = .ok (.slice (some ⟨g', 0, none⟩) 1 N') w' ∧ PwB w' g' N' 1 ∧ Below w.heap.size w w' ∧ w.heap.size ≤ g' := by
  obtain ⟨i0, hi, hz0, hz1, hz2⟩ := info_parts words_info; obtain ⟨x, hx⟩ := eqx (Value.slice R (dg (pw 0)).length C); have hxs : IsSl x := ⟨_, _, _, hx.symm⟩; rw [hx]; obtain ⟨W, hW⟩ := eqx (w.alloc (.cells #[x] 66))
  have hbW : Below w.heap.size w W := by rw [← hW]; exact bal
  have hcell : ∀ j v, [x][j]? = some v → W.cell? ((⟨w.heap.size, 0, none⟩ : Addr).add j) = some v := by rw [← hW]; exact cells_new w 66 [x]
  have hsrc : Src Tryz.prog i0.size 129 (.slice (some ⟨w.heap.size, 0, none⟩) 1 1) 1 [x] W := by
   rw [hz1]; exact Src.ofSlice (P := Tryz.prog) (size := 1) (tx := 129) _ Tryz.underlying129 ⟨w.heap.size, 0, none⟩ 1 1 [x] rfl hcell (by obtain ⟨a, m, c, rfl⟩ := hxs; simp [Value.oneCell'])
  rw [hW]; have hr := run_append_grow_src (P := Tryz.prog) W 129 129 129 66 i0 (.slice none 0 0) Tryz.underlying129 hi hz0 none 0 0 [] (by rw [hz1]; exact run_firstCells_none _ _ _ _ _) _ 1 [x] hsrc (by omega) (by omega) (growslice_fits (by omega) (by rw [hz2]; omega)); have hge := grownCap_ge W (0 + 1) 0 66; generalize grownCap W (0 + 1) 0 66 = cap at *; have hgr : Below W.heap.size W (W.drew.alloc (.cells (([] ++ [x]).toArray ++ Builtin.zeroCells (Value.slice none 0 0).cells (cap - (0 + 1))) 66)) := ⟨rfl, rfl, rfl, by simp, fun k hk => heap_alloc_old W.drew _ hk⟩; refine ⟨W.heap.size, cap, _, hr, ⟨⟨[x], rfl, ⟨_, Blk.new W.drew 66 _, ?_, ?_⟩, ?_, ?_⟩, AllP.new W.drew 66 fun v hv => ?_⟩, below_all hbW hgr, hbW.size⟩
  ·have : (Builtin.zeroCells (Value.slice none 0 0).cells (cap - (0 + 1))).size = cap - (0 + 1) := by simp [Builtin.zeroCells, Value.cells]
   rw [Array.size_append, this, List.size_toArray]; simp; omega
  ·have e : (([] ++ [x]).toArray ++ Builtin.zeroCells (Value.slice none 0 0).cells (cap - (0 + 1))).toList = [x] ++ (Builtin.zeroCells (Value.slice none 0 0).cells (cap - (0 + 1))).toList := by simp
   rw [e]; exact List.take_left' rfl
  ·intro v hv; rw [List.mem_singleton.1 hv]; exact hxs
  ·intro i hi
   have : i = 0 := by simp at hi; exact hi
   subst this; exact ⟨R, C, hx.symm, (hN.keep hbW).keep hgr⟩
  ·rw [Array.toList_append] at hv
   rcases List.mem_append.1 hv with h | h
   ·have h : v ∈ [] ++ [x] := h; rw [List.nil_append] at h; rw [List.mem_singleton.1 h]; exact hxs
   ·simp [Builtin.zeroCells, Value.cells] at h; obtain ⟨i, _, h3⟩ := h; exact ⟨none, 0, 0, by rw [← h3, Nat.mod_one]; rfl⟩
theorem pwords_long (s : ByteArray) (w : World) (h1 : 570 < s.size) (hs : s.size ≤ 1700) (hd : ∀ c ∈ s.data.toList, Go.Qn.isD c = true) :
    Calls Tryz.prog 67 #[.string s] w (RetW (Go.Qn.val s.data.toList) w) := by
  obtain ⟨Q, hQ⟩ := eqx (RetW (Go.Qn.val s.data.toList) w)
  have HS : Hid (∀ wr g N n, Below w.heap.size w wr → PwB wr g N n → n ≤ 7 → Calls Tryz.prog 83 #[.string s, .slice (some ⟨g, 0, none⟩) n N] wr fun e w' => ∃ v, e = .returned v ∧ Hid (Q (.returned v) w')) := zh (fun wr g N n hb hP h7 => by
   refine (parse_any n s N (some ⟨g, 0, none⟩) wr hs hd h7 hP.len hP.at').mono ?_; rintro e w' ⟨R, c, rfl, hR, hb2⟩
   exact ⟨_, rfl, zh (by rw [← hQ]; exact ⟨R, c, rfl, hR, below_all hb hb2⟩)⟩)
  rw [hQ]; clear hQ hd; have b0 : decide ((570 : Int) < (s.size : Int)) = true := dT (by omega); have b0' : decide (570 < s.size) = true := dT h1; obtain ⟨W1, hW1⟩ := eqx (w.alloc (.cells #[.int .u64 10000000000000000000] 118))
  have hb1 : Below w.heap.size w W1 := by rw [← hW1]; exact bal
  have hp0 : pw 0 = CB := by unfold pw; simp
  have hd0 : dg CB = [CB] := by rw [dg_small (by decide) (by decide)]
  have hN0 : NW W1 (some ⟨w.heap.size, 0, none⟩) 1 (pw 0) := by
   rw [hp0]; refine ⟨?_, by rw [hd0]; exact Nat.le_refl _⟩; rw [hd0, ← hW1]; have := sets_blk (xs := [CB]) (n := 1) (Blk.new w 118 (warr [CB])) rfl; exact this
  obtain ⟨g0, N0, w0, hr0, hP0, hb0, hg0⟩ := PwB.push0 hN0
  have hs1 : W1.heap.size = w.heap.size + 1 := by rw [← hW1]; simp
  have hl0 : (dg (pw 0)).length = 1 := by rw [hp0, hd0]; rfl
  rw [hl0, ← hW1] at hr0
  have hs2 : (w.alloc (.cells #[.int .u64 10000000000000000000] 118)).heap.size = w.heap.size + 1 := by simp
  rw [hs2] at hr0; have HR0 := zh hr0; have HP0 := zh hP0; have HB0 := zh (below_all hb1 hb0)
  have hgw : w.heap.size ≤ g0 := by omega
  clear hb1 hs1 hs2 hp0 hd0 hN0 hW1 hr0 hP0 hb0 hl0 hg0; go_enter Tryz.func67, Tryz.ntmps67
  go_upto_block 0 with (at_builtin; refine Fi.wpList_append_run _ rfl _ _ 129 129 rfl _ _ HR0.out ?_)
  go_wp2
  go_loopw [3] (fun s3 wr => ∃ (g n N : Nat), s3 = .slice (some ⟨g, 0, none⟩) n N ∧ 1 ≤ n ∧ n ≤ 7 ∧ w.heap.size ≤ g ∧ Hid (Below w.heap.size w wr ∧ PwB wr g N n)) (fun s3 _ => 7 - slen s3)
  case atStart => exact ⟨g0, 1, N0, rfl, Nat.le_refl _, by omega, hgw, zh ⟨HB0.out, HP0.out⟩⟩
  case round =>
   clear HP0 HB0 HR0; obtain ⟨wo, rfl⟩ : ∃ wo : World, wo = wr := ⟨_, rfl⟩; obtain ⟨g, n, N, rfl, h1n, h7, hg, HM⟩ := hrel; obtain ⟨k, hk⟩ := eqx (19 * 2 ^ n)
   have hk2 : k ≤ 2432 := by
    have : 2 ^ n ≤ 2 ^ 7 := Nat.pow_le_pow_right (by decide) h7; omega
   have s1 : wrap64 ((19 : Int) * 2 ^ n) = (k : Int) := by
    have e : (19 : Int) * 2 ^ n = (k : Int) := by rw [← hk]; simp
    rw [e]; unfold wrap64; omega
   by_cases hgo : k < s.size
   ·have d1 : decide ((k : Int) < (s.size : Int)) = true := dT (by omega); have d1' : decide (k < s.size) = true := dT hgo
    have hn6 : n ≤ 6 := by
     refine Nat.le_of_not_lt fun h => ?_
     have : n = 7 := by omega
     subst this; omega
    obtain ⟨j, hj⟩ := eqx (n - 1)
    have hjn : j + 1 = n := by omega
    obtain ⟨ad, R, C, e, hc, hN⟩ := HM.out.2.at' j (by omega)
    injection e with e
    subst e; rw [add_lit, Nat.zero_add] at hc; obtain ⟨L, hL⟩ := eqx ((dg (pw j)).length); rw [hL] at hc
    have hL39 : (dg (pw j)).length < 40 := by
     have h8 : 2 ^ j ≤ 2 ^ 5 := Nat.pow_le_pow_right (by decide) (by omega); have := pw_len j; omega
    have y1 : IntKind.i64.wrap ((n : Int) - 1) = (j : Int) := (IntWalk.i64_in _ (by omega)).trans (by omega)
    have y1' : (n : Int) - 1 = (j : Int) := by omega
    have q0 : (0 : Int) ≤ (j : Int) := by omega
    have q1 : (j : Int) < (n : Int) := by omega
    have q3 : ((j : Int)).toNat = j := by omega
    have HMU : Hid (Calls Tryz.prog 73 #[.slice R L C, .slice R L C] wo fun e w' => ∃ R2 l2 c2, e = .returned (.slice R2 l2 c2) ∧ Hid (l2 = (dg (pw n)).length ∧ NW w' R2 c2 (pw n) ∧ Below wo.heap.size wo w')) := zh (by
     have := mulw_short R R C C (pw j) (pw j) wo hN hN (by omega) (by omega) (.inl hL39); rw [hL, pw_sq, hjn] at this; refine this.mono ?_; rintro e w' ⟨R2, c2, rfl, h1, h2⟩
     exact ⟨R2, _, c2, rfl, zh ⟨rfl, h1, h2⟩⟩)
    have HPB := zh HM.out.2; have HBB := zh HM.out.1; clear HM hL hN hL39 hgo hj hk HS
    go_wp2_with (first
      | (go_at_call 73; refine HMU.out.mono ?_; rintro e w2 ⟨R2, l2, c2, rfl, HH⟩; obtain ⟨g', N', w', hr, hP', hgr, hor⟩ := (HPB.out.keep HH.out.2.2).push HH.out.2.1 (by omega); rw [← HH.out.1] at hr; have HR2 := zh hr; have HNEW : Hid (w.heap.size ≤ g' ∧ Below w.heap.size w w' ∧ PwB w' g' N' (n + 1)) := zh ⟨by have := HBB.out.size; have := HH.out.2.2.size; omega, (below_all HBB.out HH.out.2.2).trans (grown_base hgr (Nat.le_trans HBB.out.size HH.out.2.2.size) hg), hP'⟩; clear hr hP' hgr hor)
      | (at_builtin; refine Fi.wpList_append_run _ rfl _ _ 129 129 rfl _ _ HR2.out ?_))
    go_roundw
    case rel => exact ⟨g', n + 1, N', rfl, by omega, by omega, HNEW.out.1, zh HNEW.out.2⟩
    case measure => first | (simp [slen]; omega) | simp [slen]
   ·have d1 : decide ((k : Int) < (s.size : Int)) = false := dF (by omega); have d1' : decide (k < s.size) = false := dF hgo; have HSP := zh (HS.out wo g N n HM.out.1 HM.out.2 h7); clear HM hk HS hgo
    go_wp2_with (go_at_call 83; refine HSP.out.mono ?_; rintro e w' ⟨v, rfl, H⟩)
    exact H.out
theorem pwords_any (s : ByteArray) (w : World) (hs : s.size ≤ 1700) (hd : ∀ c ∈ s.data.toList, Go.Qn.isD c = true) :
    Calls Tryz.prog 67 #[.string s] w (RetW (Go.Qn.val s.data.toList) w) := by
  by_cases h : s.size ≤ 570
  ·exact pwords_w s w h hd
  ·exact pwords_long s w (by omega) hs hd
theorem parse_long (s : ByteArray) (w : World) (hs : s.size ≤ 1700) (hd : ∀ c ∈ s.data.toList, Go.Qn.isD c = true) :
    Calls Tryz.prog 38 #[.string s] w (RetI false (Go.Qn.val s.data.toList) w) := by
  have HP := zh (fun W => pwords_any s W hs hd); clear hd; have hb1 : Below w.heap.size w (w.alloc (.cells #[.bool false, .slice none 0 0] 68)) := bal; have B2 := Blk.new w 68 #[.bool false, .slice none 0 0]; generalize Go.Qn.val s.data.toList = n at *; go_enter Tryz.func38, Tryz.ntmps38
  go_wp2_with (go_at_call 67; refine (HP.out _).mono ?_; rintro e w' ⟨A, c, rfl, h1, h3⟩; have B3 := B2.keep h3 (by simp); have c0 := B3.cell 0; have c1 := B3.cell 1; have f0 := B3.frozen 0; have f1 := B3.frozen 1; have H1 := zh h1; clear h1; simp at c0 c1)
  refine bodyPost_ret (v := .agg #[.bool false, .slice A (dg n).length c]) (by simp [results, Tryz.results38, go_sem, c0, c1]) rfl ⟨A, c, rfl, ?_, ?_⟩
  ·have h4 := H1.out.put c0 (by simp [vs]) (.bool false); exact h4.put (v := .slice none 0 0) (by rw [World.cell?_setCell_other _ _ _ _ (by simp)]; exact c1) (by simp [vs]) _
  ·exact (((hb1.trans (h3.mono (by simp))).setCell (by simp) _).setCell (by simp) _)
end
end Go.Proofs.Tg.Iw
namespace Go.Proofs.Tg
section
open Go.RowKit Go.Qn
theorem split_more (s : ByteArray) (w : World) (hs : s.size ≤ 64) :
    Calls Tryz.prog 37 #[.string s] w (RetSplit2 s.data.toList w) := split_moreL s w (by omega)
def RetSplit3 (b : Bool) (n d : Nat) (w : World) (e : Ending) (w' : World) : Prop :=
  e = .returned (.tuple #[.agg #[.bool b, .string (bs (Lib.decDigits n)), .string (bs (if d = 1 then [] else Lib.decDigits d))], .bool true]) ∧ Below w.heap.size w w'
theorem split_textL (b : Bool) (n d : Nat) (w : World) (hc : Canon b n d) (hs : (text b n d).length ≤ 4000) :
    Calls Tryz.prog 37 #[.string (bs (text b n d))] w (RetSplit3 b n d w) := by
  refine (split_moreL (bs (text b n d)) w (by rw [bs_size]; exact hs)).mono ?_; rintro e w' ⟨b2, num, den, ok, rfl, ⟨hS, hb2, hnum, hden⟩, hb⟩; rw [bs_data] at hS hb2 hnum hden; rw [cut_text] at hb2 hnum hden; simp only at hb2 hnum hden; subst hb2; obtain ⟨e1, e2⟩ := tw_app (p := isD) (Lib.decDigits n) (if d = 1 then [] else 47 :: Lib.decDigits d) (dec_allD n) (tail_form d); rw [e1] at hnum; rw [e2] at hden; subst hnum; obtain ⟨_, _, h0, h1⟩ := hS; have hrd := rd_text hc
  have hok : ok = true := by
   cases ok with
   | true => rfl
   | false => rw [h0 rfl] at hrd; cases hrd
  subst hok; obtain ⟨_, h2, h3⟩ := h1 rfl
  have hD : den = if d = 1 then [] else Lib.decDigits d := by
   by_cases hd : d = 1
   ·rw [if_pos hd] at hden ⊢
    rcases hden with h | h
    ·exact h
    ·rw [h]; rfl
   ·rw [if_neg hd] at hden ⊢
    rcases hden with h | h
    ·have := h2 h; rw [hrd] at this
     injection this with this
     injection this with _ this
     injection this with _ this
     exact absurd this hd
    ·rw [h, List.tail_cons]; have := (tw_app (p := isD) (Lib.decDigits d) [] (dec_allD d) (.inl rfl)).1; rwa [List.append_nil] at this
  subst hD; exact ⟨rfl, hb⟩
theorem split_text (b : Bool) (n d : Nat) (w : World) (hc : Canon b n d) (hs : (text b n d).length ≤ 64) :
    Calls Tryz.prog 37 #[.string (bs (text b n d))] w (RetSplit3 b n d w) := split_textL b n d w hc (by omega)
end
end Go.Proofs.Tg
