/- Parts of the proof: IM10, IM11. -/
import Derived.Deep.CutRange
import Derived.Test.YtbgaiceakmmfdaaGreatDoorMMR0
import Derived.Test.YtbgaiceakmmfdaaGreatDoorMMR13
set_option maxHeartbeats 64000000
set_option maxRecDepth 100000
section
namespace Go.Bw
theorem Tops.full {u v top u2 v1 v2 P : Nat} (h : Tops u v top u2 v1 v2 P) (hP : 0 < P) (ht : v1 * B ≤ top) : (B - 1) * v < u + v := by
 have h1 : v < (v1 + 1) * B * P := by
  refine Nat.lt_of_lt_of_le h.v_lo (Nat.mul_le_mul_right _ ?_); have h5 := h.v2lt; rw [Nat.add_mul, Nat.one_mul]; clear h; generalize B = b at *; omega
 have h2 : v1 * B * B * P ≤ u := by
  refine Nat.le_trans (Nat.mul_le_mul_right _ ?_) h.u_hi; exact Nat.le_trans (Nat.mul_le_mul_right B ht) (Nat.le_add_right _ _)
 have h3 : (B - 2) * v < (B - 2) * ((v1 + 1) * B * P) := Nat.mul_lt_mul_of_pos_left h1 (by decide)
 have h4 : (B - 2) * ((v1 + 1) * B * P) ≤ v1 * B * B * P := by
  have e1 : (B - 2) * ((v1 + 1) * B * P) = ((B - 2) * (v1 + 1)) * (B * P) := by simp only [Nat.mul_assoc]
  have e2 : v1 * B * B * P = (v1 * B) * (B * P) := by simp only [Nat.mul_assoc]
  rw [e1, e2]; refine Nat.mul_le_mul_right _ ?_; have hb := h.big; simp only [B] at *; omega
 have hv : 0 < v := Nat.lt_of_lt_of_le (Nat.mul_pos (by have := h.big; have := h.v1lt; simp only [B] at *; omega) hP) h.v_hi
 have e : (B - 1) * v = (B - 2) * v + v := by
  rw [show B - 1 = (B - 2) + 1 by decide, Nat.add_mul, Nat.one_mul]
 rw [e]
 exact Nat.add_lt_add_right (Nat.lt_of_lt_of_le h3 (Nat.le_trans h4 h2)) v
theorem est_near {u v e q : Nat} (hv : 0 < v) (hq : q = u / v) (h1 : q ≤ e) (h2 : e * v < u + v) : e = q ∨ e = q + 1 := by
 have h3 : e < q + 2 := by
  refine Nat.lt_of_mul_lt_mul_right (a := v) ?_; have h4 := Nat.lt_div_mul_add (a := u) hv; rw [← hq] at h4; rw [Nat.add_mul]; omega
 omega
theorem split_le {hi lo r u2 : Nat} (hlo : lo < B) (hu : u2 < B) : hi * B + lo ≤ r * B + u2 ↔ hi < r ∨ (hi = r ∧ lo ≤ u2) := by
 simp only [B] at *
 omega
end Go.Bw
namespace Go.Proofs.Tg.Iw
open Go.RowKit Go.Bw Go.Gr Go.Proofs.Tg
def RetEst (q : Nat) (w : World) (e : Ending) (w' : World) : Prop := ∃ d : Nat, e = .returned (.int .u64 (d : Nat)) ∧ (d = q ∨ d = q + 1) ∧ d < B ∧ Below w.heap.size w w'
theorem est_any (wd yd : Addr) (cw cy n n1 n2 N c a1 a0 v1 v2 u v P q : Nat) (w : World) (hn1 : n1 + 1 = n) (hn2 : n2 + 2 = n) (hN : n + 1 = N) (hn : n ≤ 1000000) (hc : w.cell? (wd.add n) = some (.int .u64 (c : Nat))) (hc1 : w.cell? (wd.add n1) = some (.int .u64 (a1 : Nat))) (hc0 : w.cell? (wd.add n2) = some (.int .u64 (a0 : Nat)))
    (hy1 : w.cell? (yd.add n1) = some (.int .u64 (v1 : Nat))) (hy2 : w.cell? (yd.add n2) = some (.int .u64 (v2 : Nat))) (hT : Tops u v (c * B + a1) a0 v1 v2 P) (hP : 0 < P) (hv : 0 < v) (hq : q = u / v) (hlt : u < v * B) (hcB : c < 18446744073709551616) (ha1 : a1 < 18446744073709551616) :
    Calls Tryz.prog 133 #[.slice (some wd) N cw, .slice (some yd) n cy] w (RetEst q w) := by
  have hqB : q < B := by rw [hq]; exact Nat.div_lt_of_lt_mul hlt
  have hqv : q * v ≤ u := by rw [hq]; exact Nat.div_mul_le_self _ _
  have hv1B : v1 < 18446744073709551616 := hT.v1lt; have hv2B : v2 < 18446744073709551616 := hT.v2lt; have ha0 : a0 < 18446744073709551616 := hT.u2lt
  have x1 : (n : Int) - 1 = (n1 : Int) := by omega
  have x2 : (n : Int) - 2 = (n2 : Int) := by omega
  have x3 : IntKind.i64.wrap ((n : Int) - 1) = (n1 : Int) := (IntWalk.i64_in _ (by omega)).trans x1; have x4 : IntKind.i64.wrap ((n : Int) - 2) = (n2 : Int) := (IntWalk.i64_in _ (by omega)).trans x2; have x5 : IntKind.i64.wrap (n1 : Int) = (n1 : Int) := IntWalk.i64_in _ (by omega); have x6 : IntKind.i64.wrap (n2 : Int) = (n2 : Int) := IntWalk.i64_in _ (by omega)
  have p0 : (0 : Int) ≤ (n : Int) := by omega
  have p1 : (0 : Int) ≤ (n1 : Int) := by omega
  have p2 : (0 : Int) ≤ (n2 : Int) := by omega
  have t0 : ((n : Int)).toNat = n := by omega
  have t1 : ((n1 : Int)).toNat = n1 := by omega
  have t2 : ((n2 : Int)).toNat = n2 := by omega
  have l0 : (n : Int) < (N : Int) := by omega
  have l1 : (n1 : Int) < (N : Int) := by omega
  have l2 : (n2 : Int) < (N : Int) := by omega
  have l3 : (n1 : Int) < (n : Int) := by omega
  have l4 : (n2 : Int) < (n : Int) := by omega
  have HT := zh hT; have HQ := zh hq; have HQB := zh hqB; have HQV := zh hqv; have HLT := zh hlt; have hbd : Below w.heap.size w w.drew := brf.drew; clear hT hq hqB hqv hlt; go_enter Tryz.func133, Tryz.ntmps133; go_wp2
  go_quiet (fail)
  have hbw : Below w.heap.size w (w.drewN nq) := below_drewN brf _; have hc := keep_cell hbw hc; have hc1 := keep_cell hbw hc1; have hc0 := keep_cell hbw hc0; clear hy1 hy2; generalize w.drewN nq = W at *
  by_cases hcv : v1 ≤ c
  ·have d1 : decide ((v1 : Int) ≤ (c : Int)) = true := dT (by omega); have d2 : decide (v1 ≤ c) = true := dT hcv
   have HR : Hid (RetEst q w (.returned (.int .u64 18446744073709551615)) W) := zh (by
    refine ⟨18446744073709551615, rfl, ?_, by decide, hbw⟩; have h1 := HT.out.full hP (Nat.le_trans (Nat.mul_le_mul_right B hcv) (Nat.le_add_right _ _))
    exact est_near hv HQ.out (by have := HQB.out; simp only [B] at this; omega) h1)
   go_wp2; go_ret; exact HR.out
  ·have d1 : decide ((v1 : Int) ≤ (c : Int)) = false := dF (by omega); have d2 : decide (v1 ≤ c) = false := dF hcv; have hD := div64 c a1 v1 (by omega) ha1 hv1B; obtain ⟨e0, he0⟩ := eqx ((c * B + a1) / v1); obtain ⟨r0, hr0⟩ := eqx ((c * B + a1) % v1)
   have HS : Hid (Est (c * B + a1) v1 q e0 r0) := zh (by
    have := Est.start HT.out HQV.out HLT.out
    rwa [he0, hr0] at this)
   have he0B : e0 < 18446744073709551616 := by rw [← he0]; exact dw_fit (by omega) ha1
   have hr0v : r0 < v1 := by rw [← hr0]; exact Nat.mod_lt _ (by omega)
   rw [he0, hr0] at hD; have HD := zh hD; clear hD he0 hr0 hbd; go_wp2; have hbe : Below W.heap.size W W.drew := brf.drew; go_upto_region 5 with (fail)
   go_cut [8, 9] from 30 (fun s8 s9 wx => s8 = .int .u64 (e0 : Nat) ∧ s9 = .int .u64 (r0 : Nat) ∧ Below W.heap.size W wx)
   case first =>
    clear HT HQ HQB HQV HLT HS hc0
    go_region_held3 (fun w' => w'.cell? (wd.add n) = some (.int .u64 (c : Nat)) ∧ w'.cell? (wd.add n1) = some (.int .u64 (a1 : Nat)))
      (first | exact ⟨keep_cell hbe hc, keep_cell hbe hc1⟩ | go_keep)
      (first | (go_at_call 115; with_reducible refine Calls.mono (HD.out _) ?_; rintro e w3 ⟨rfl, hb3⟩; have hbe := below_all hbe hb3))
    all_goals
      go_wp2; go_meet; exact ⟨rfl, rfl, by assumption⟩
   case rest =>
    obtain ⟨rfl, rfl, hbc⟩ := hcut; have hc0 := keep_cell hbc hc0; have hbW := below_all hbw hbc; clear hc hc1 hbe hbc HD; go_wp2
    go_loopw [8, 9] (fun s8 s9 wr => ∃ e r : Nat, s8 = .int .u64 (e : Nat) ∧ s9 = .int .u64 (r : Nat) ∧ e < 18446744073709551616 ∧ r < 18446744073709551616 ∧ Hid (Est (c * B + a1) v1 q e r) ∧ wc = wr) (fun s8 _ _ => (intOf s8).toNat)
    case atStart => exact ⟨e0, r0, rfl, rfl, he0B, by omega, HS, rfl⟩
    case round =>
     clear HS he0B hr0v; obtain ⟨e, r, rfl, rfl, heB, hrB, HE, hwr⟩ := hrel; subst hwr; have hM := mul64 e v2 heB hv2B; obtain ⟨hi, hhi⟩ := eqx (e * v2 / B); obtain ⟨lo, hlo⟩ := eqx (e * v2 % B)
     have hloB : lo < B := by rw [← hlo]; exact Nat.mod_lt _ (by decide)
     have hev : e * v2 = hi * B + lo := by
      rw [← hhi, ← hlo, Nat.mul_comm (e * v2 / B)]; exact (Nat.div_add_mod _ _).symm
     rw [hhi, hlo] at hM; have HM := zh hM; have hsl := split_le (hi := hi) (r := r) hloB ha0; rw [← hev] at hsl; have HSL := zh hsl; clear hM hhi hlo hev hsl
     by_cases hst : e * v2 ≤ r * B + a0
     ·have HR : Hid (RetEst q w (.returned (.int .u64 (e : Nat))) wc) := zh ⟨e, rfl, HE.out.stop HT.out hP HQ.out hv (Nat.le_of_lt heB) (.inl hst), heB, hbW⟩
      by_cases h1 : hi < r
      ·have d3 : decide ((hi : Int) < (r : Int)) = true := dT (by omega); have d4 : decide (hi < r) = true := dT h1; clear hst HSL
       go_wp2_with (go_at_call 121; refine (HM.out _).mono ?_; rintro e w3 ⟨rfl, rfl⟩)
       go_ret; exact HR.out
      ·obtain ⟨h2, h3⟩ := (HSL.out.1 hst).resolve_left h1; subst h2
       have d3 : decide ((hi : Int) < (hi : Int)) = false := by simp
       have d4 : ((hi : Int) == (hi : Int)) = true := by simp
       have d5 : decide ((lo : Int) ≤ (a0 : Int)) = true := dT (by omega); have d6 : decide (lo ≤ a0) = true := dT h3; clear hst HSL h1
       go_wp2_with (go_at_call 121; refine (HM.out _).mono ?_; rintro e w3 ⟨rfl, rfl⟩)
       go_ret; exact HR.out
     ·obtain ⟨g1, g2, g3⟩ := Est.round HT.out HQV.out HQB.out HE.out (.inr (by omega))
      have hsn : ¬ (hi < r ∨ (hi = r ∧ lo ≤ a0)) := fun h => hst (HSL.out.2 h)
      obtain ⟨d, hd⟩ := eqx (e - 1); obtain ⟨r', hr'⟩ := eqx (r + v1); rw [hd] at g1 g2; rw [hr'] at g1; have HG := zh g1
      have hde : d < e := by omega
      have y1 : (e : Int) - 1 = (d : Int) := by omega
      have y2 : IntKind.u64.wrap ((e : Int) - 1) = (d : Int) := by rw [y1]; exact Go.Proofs.Mul64.wrapN _ (by omega)
      obtain ⟨r2, hr2⟩ := eqx ((r + v1) % B)
      have hr2B : r2 < 18446744073709551616 := by rw [← hr2]; exact Nat.mod_lt _ (by decide)
      have y3 : IntKind.u64.wrap ((r : Int) + (v1 : Int)) = (r2 : Int) := by
       rw [Go.Proofs.Mul64.addN, ← hr2]; exact Go.Proofs.Mul64.wrapM _
      have hcy : r2 < v1 ↔ B ≤ r' := by
       rw [← hr2, ← hr']; simp only [B]; omega
      have hr3 : ¬ B ≤ r' → r2 = r' := by
       rw [← hr2, ← hr']; simp only [B]; omega
      have HX : Hid (B ≤ r' → RetEst q w (.returned (.int .u64 (d : Nat))) wc) := zh (fun h => ⟨d, rfl, g1.stop HT.out hP HQ.out hv g2 (.inr h), by simp only [B]; omega, hbW⟩); have d3 : decide ((hi : Int) < (r : Int)) = false := dF (by omega); have d3' : decide (hi < r) = false := dF (by omega); clear g1 g2 g3 hd hr' hr2 hst HSL y1
      by_cases hov : r2 < v1
      ·have HR := zh (HX.out (hcy.1 hov)); have d7 : decide ((r2 : Int) < (v1 : Int)) = true := dT (by omega); have d8 : decide (r2 < v1) = true := dT hov; clear HX hcy hr3
       by_cases h1 : hi = r
       ·subst h1
        have d4 : ((hi : Int) == (hi : Int)) = true := by simp
        have d5 : decide ((lo : Int) ≤ (a0 : Int)) = false := dF (by omega); have d6 : decide (lo ≤ a0) = false := dF (by omega); clear hsn
        go_wp2_with (go_at_call 121; refine (HM.out _).mono ?_; rintro e w3 ⟨rfl, rfl⟩)
        go_ret; exact HR.out
       ·have d4 : ((hi : Int) == (r : Int)) = false := beq_eq_false_iff_ne.2 (by omega); have d4' : (hi == r) = false := beq_eq_false_iff_ne.2 h1; have d4n : (hi = r) = False := eq_false h1; clear hsn h1
        go_wp2_with (go_at_call 121; refine (HM.out _).mono ?_; rintro e w3 ⟨rfl, rfl⟩)
        go_ret; exact HR.out
      ·have d7 : decide ((r2 : Int) < (v1 : Int)) = false := dF (by omega); have d8 : decide (r2 < v1) = false := dF hov; have HG2 : Hid (Est (c * B + a1) v1 q d r2) := zh (by rw [hr3 (fun h => hov (hcy.2 h))]; exact HG.out); clear HX hcy hr3 hov
       by_cases h1 : hi = r
       ·subst h1
        have d4 : ((hi : Int) == (hi : Int)) = true := by simp
        have d5 : decide ((lo : Int) ≤ (a0 : Int)) = false := dF (by omega); have d6 : decide (lo ≤ a0) = false := dF (by omega); clear hsn
        go_wp2_with (go_at_call 121; refine (HM.out _).mono ?_; rintro e w3 ⟨rfl, rfl⟩)
        go_roundw
        case rel => exact ⟨d, r2, rfl, rfl, by omega, hr2B, HG2, trivial⟩
        case measure => simp [intOf]; omega
       ·have d4 : ((hi : Int) == (r : Int)) = false := beq_eq_false_iff_ne.2 (by omega); have d4' : (hi == r) = false := beq_eq_false_iff_ne.2 h1; have d4n : (hi = r) = False := eq_false h1; clear hsn h1
        go_wp2_with (go_at_call 121; refine (HM.out _).mono ?_; rintro e w3 ⟨rfl, rfl⟩)
        go_roundw
        case rel => exact ⟨d, r2, rfl, rfl, by omega, hr2B, HG2, trivial⟩
        case measure => simp [intOf]; omega
end Go.Proofs.Tg.Iw
end
section
namespace Go.Bw
theorem mid_set1 {us zs : List Nat} {j n : Nat} (hj : j + n < us.length) (hz : zs.length = n) (d : Nat) : (us.take j ++ (zs ++ us.drop (j + n))).set (j + n) d = us.take j ++ (zs ++ d :: us.drop (j + n + 1)) := by
 rw [mid_set hj hz, List.append_assoc]; rfl
theorem mid_drop {us zs ts : List Nat} {j n : Nat} (hj : j ≤ us.length) (hz : zs.length = n) : ((us.take j ++ (zs ++ ts)).drop j).take n = zs := by
 rw [List.drop_append_of_le_length (by rw [List.length_take]; omega), List.drop_of_length_le (by rw [List.length_take]; omega), List.nil_append, ← hz, List.take_left]
theorem mid_take {us ts : List Nat} {j : Nat} (hj : j ≤ us.length) : (us.take j ++ ts).take j = us.take j := by
 have : (us.take j).length = j := by rw [List.length_take]; omega
 rw [List.take_append_of_le_length (by omega), List.take_of_length_le (by omega)]
theorem mid_tail {us zs ts : List Nat} {j n : Nat} (hj : j ≤ us.length) (hz : zs.length = n) : (us.take j ++ (zs ++ ts)).drop (j + n) = ts := by
 rw [← List.append_assoc, List.drop_append_of_le_length (by simp; omega), List.drop_of_length_le (by simp; omega), List.nil_append]
end Go.Bw
namespace Go.Proofs.Tg.Iw
open Go.RowKit Go.Bw Go.Gr Go.Proofs.Tg
structure DsM (w1 : World) (A V L M gu gq : Nat) (wr : World) (k : Nat) (us qs : List Nat) : Prop where
  st : DvSt A V L M k us qs
  bu : Blk wr gu 118 (warr us)
  bq : Blk wr gq 118 (warr (List.replicate k 0 ++ qs))
  below : Below w1.heap.size w1 wr
theorem DsM.keep {w1 wr wz : World} {A V L M gu gq k : Nat} {us qs : List Nat} (h : DsM w1 A V L M gu gq wr k us qs) (hb : Below wr.heap.size wr wz) : DsM w1 A V L M gu gq wz k us qs :=
  ⟨h.st, h.bu.keep hb h.bu.lt, h.bq.keep hb h.bq.lt, below_all h.below hb⟩
theorem DsM.next {w1 wo wr : World} {A V L M gu gq j n q : Nat} {us qs zs : List Nat} (h : DsM w1 A V L M gu gq wo (j + 1) us qs) (hV : V ≤ B ^ n) (hj : j + n < L) (hn : 0 < n) (hq : q = val (us.drop j) / V) (hV0 : 0 < V) (hz : val zs = val (us.drop j) % V) (hzl : zs.length = n) (hzd : Dig zs)
    (bu : Blk wr gu 118 (warr (us.take j ++ (zs ++ 0 :: us.drop (j + n + 1))))) (bq : Blk wr gq 118 (warr (List.replicate (j + 1) 0 ++ qs))) (hb : Below w1.heap.size w1 wr) (hg : w1.heap.size ≤ gq) (hne : gu ≠ gq) :
    DsM w1 A V L M gu gq (wr.setCell ⟨gq, j, none⟩ (.int .u64 (q : Nat))) j (us.take j ++ (zs ++ 0 :: us.drop (j + n + 1))) (q :: qs) := by
  have hb2 := bq.set j (.int .u64 (q : Nat)); rw [warr_set, qset_w] at hb2; exact ⟨h.st.next hV hj hn hq hV0 hz hzl hzd, bu.far hne _, hb2, below_far hb hg _ _⟩
def RetDiv (a b : Nat) (w : World) (e : Ending) (w' : World) : Prop := ∃ Q cq R cr, e = .returned (.tuple #[.slice Q (dg (a / b)).length cq, .slice R (dg (a % b)).length cr]) ∧ NW w' Q cq (a / b) ∧ NW w' R cr (a % b) ∧ Below w.heap.size w w'
theorem wds_dg {m : Nat} (h : m < 18446744073709551616) : wds m = dg m := by
 unfold wds
 by_cases h0 : m = 0
 ·subst h0; rw [if_pos rfl, dg_zero]
 ·rw [if_neg h0, dg_small h0 h]
theorem fw_any (m : Nat) (w : World) (hm : m < 18446744073709551616) : Calls Tryz.prog 89 #[.int .u64 (m : Nat)] w (RetW m w) := by
 have h := fword_any m w hm
 rw [wds_dg hm] at h
 refine h.mono ?_
 rintro e w' ⟨A, c, rfl, hc, hS, hb⟩
 exact ⟨A, c, rfl, ⟨hS, hc⟩, hb⟩
theorem div_small (X Y : Option Addr) (cx cy a b : Nat) (w : World) (hX : NW w X cx a) (hY : NW w Y cy b) (hn : (dg a).length ≤ 400000) (h : a < b) :
    Calls Tryz.prog 111 #[.slice X (dg a).length cx, .slice Y (dg b).length cy] w (RetDiv a b w) := by
  have HC := zh (cmp_n X Y cx cy a b w hX.wds hY.wds (by omega)); rw [if_pos h] at HC
  have HRET : Hid (∀ w', Dr w w' → RetDiv a b w (.returned (.tuple #[.slice none 0 0, .slice X (dg a).length cx])) w') := zh (fun w' hd => by
   refine ⟨none, 0, X, cx, ?_, ?_, ?_, hd.below⟩
   ·rw [Nat.div_eq_of_lt h, Nat.mod_eq_of_lt h, dg_zero]; rfl
   ·rw [Nat.div_eq_of_lt h]; exact NW.zero _ _ _
   ·rw [Nat.mod_eq_of_lt h]; exact hX.keep hd.below)
  obtain ⟨Q, hQ⟩ := eqx (RetDiv a b w); rw [hQ] at HRET ⊢; clear hX hY h hQ; generalize (dg a).length = la at *; generalize (dg b).length = lb at *; go_enter Tryz.func111, Tryz.ntmps111
  go_wp2_with (go_at_call 77; refine HC.out.mono ?_; rintro e w1 ⟨rfl, hd1⟩; have HD1 := zh hd1; clear hd1)
  exact HRET.out _ HD1.out
theorem div_one (X Y : Option Addr) (cx cy a b : Nat) (w : World) (hX : NW w X cx a) (hY : NW w Y cy b) (hn : (dg a).length ≤ 400000) (hab : b ≤ a) (h1 : (dg b).length = 1) :
    Calls Tryz.prog 111 #[.slice X (dg a).length cx, .slice Y (dg b).length cy] w (RetDiv a b w) := by
  have hb0 : b ≠ 0 := fun e => by rw [e, dg_zero] at h1; simp at h1
  have hbB : b < 18446744073709551616 := by
   have := val_lt_dg b
   rwa [h1, Nat.pow_one] at this
  obtain ⟨z, hz⟩ := eqx ((if a < b then (-1 : Int) else if a = b then 0 else 1) : Int); have HC := zh (cmp_n X Y cx cy a b w hX.wds hY.wds (by omega)); rw [hz] at HC
  have hzb : decide (z < 0) = false := by
   rw [← hz, if_neg (by omega)]
   split <;> simp
  clear hz
  obtain ⟨yd, rfl, hy0⟩ : ∃ yd, Y = some yd ∧ ∀ V, Below w.heap.size w V → V.cell? yd = some (.int .u64 (b : Nat)) := by
   obtain ⟨yd, e, _, hc⟩ := Sl.lies hY.wds (by omega); refine ⟨yd, e, fun V hV => ?_⟩; have h2 := keep_cell hV (hc 0 (.int .u64 (b : Nat)) (by rw [dg_small hb0 hbB]; rfl))
   rwa [show yd.add 0 = yd by simp [Addr.add]] at h2
  have HY0 := zh hy0
  have HDW : Hid (∀ V, Below w.heap.size w V → Calls Tryz.prog 132 #[.slice X (dg a).length cx, .int .u64 (b : Nat)] V fun e w' => ∃ R c, e = .returned (.tuple #[.slice R (dg (a / b)).length c, .int .u64 (a % b : Nat)]) ∧ NW w' R c (a / b) ∧ Below V.heap.size V w') := zh (fun V hV => by
   have := dw_any X cx b (dg a) V (hX.wds.keep hV) (dg_dig a) (by omega) hbB (by omega); unfold RetDw at this
   rwa [val_dg] at this)
  have HMB : a % b < b := Nat.mod_lt _ (by omega); have HFW := zh (fun V => fw_any (a % b) V (by omega))
  have HRET : Hid (∀ w2 w3 R c e, Below w.heap.size w w2 → NW w2 R c (a / b) → RetW (a % b) w2 e w3 → ∃ v, e = .returned v ∧ RetDiv a b w (.returned (.tuple #[.slice R (dg (a / b)).length c, v])) w3) := zh (fun w2 w3 R c e hb hN h => by
   obtain ⟨R2, c2, rfl, hN2, hb2⟩ := h
   exact ⟨_, rfl, R, c, R2, c2, rfl, hN.keep hb2, hN2, below_all hb hb2⟩)
  obtain ⟨Q, hQ⟩ := eqx (RetDiv a b w); rw [hQ] at HRET ⊢; rw [h1] at HC ⊢; clear hX hY hy0 hQ h1 HMB hab hb0; generalize (dg a).length = la at *; generalize a % b = rm at *; generalize (dg (a / b)).length = lq at *; go_enter Tryz.func111, Tryz.ntmps111
  go_upto_region 3 with (go_at_call 77; refine HC.out.mono ?_; rintro e w1 ⟨rfl, hd1⟩; have HB1 := zh hd1.below; clear hd1)
  have c0 := HY0.out _ HB1.out
  go_upto_region 5 with (go_at_call 132; refine (HDW.out _ HB1.out).mono ?_; rintro e w2 ⟨R, c, rfl, hN2, hb2⟩; have HN2 := zh hN2; have HB2 := zh (below_all HB1.out hb2); clear hN2 hb2)
  go_wp2_with (go_at_call 89; refine (HFW.out _).mono ?_; rintro e w3 h3; obtain ⟨v3, rfl, hq3⟩ := HRET.out _ _ _ _ _ HB2.out HN2.out h3; have HQ3 := zh hq3; clear hq3 h3)
  exact HQ3.out
end Go.Proofs.Tg.Iw
end
