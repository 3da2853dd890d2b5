/- Parts of the proof: IL8, IL9, IL10. -/
import Derived.Test.YtbgaiceakmmfdaaGreatDoorMMV3
import Derived.Test.YtbgaiceakmmfdaaGreatDoorMMV13
import Derived.Test.YtbgaiceakmmfdaaGreatDoorMMV22
section
/- Walks: the program's words: parseSimple of any digits. -/
namespace Go.Proofs.Tg.Iw
open Go.RowKit Go.Bw Go.Gr Go.Proofs.Tg
set_option maxHeartbeats 8000000
set_option maxRecDepth 100000
def strlen : Value → Nat
  | .string s => s.size
  | _ => 0
theorem dval_app (q r : List UInt8) : Go.Qn.val (q ++ r) = Go.Qn.val q * 10 ^ r.length + Go.Qn.val r := by
 refine Go.Qn.snoc_ind (P := fun r => Go.Qn.val (q ++ r) = Go.Qn.val q * 10 ^ r.length + Go.Qn.val r) ?_ ?_ r
 ·simp [Go.Qn.val]
 ·intro r c ih
  rw [← List.append_assoc, Go.Qn.val_snoc, ih, Go.Qn.val_snoc, List.length_append, List.length_singleton, Nat.pow_succ, Nat.mul_add]
  have e : 10 * (Go.Qn.val q * 10 ^ r.length) = Go.Qn.val q * (10 ^ r.length * 10) := by rw [Nat.mul_comm, Nat.mul_assoc]
  omega
theorem dval_len {q : List UInt8} (h : ∀ c ∈ q, Go.Qn.isD c = true) : (dg (Go.Qn.val q)).length ≤ q.length := by
 refine dg_len_lt (Nat.lt_of_lt_of_le (Go.Qn.val_lt q h) ?_)
 exact Nat.pow_le_pow_left (by decide) _
theorem psimple_w (s : ByteArray) (w : World) (hs : s.size ≤ 100000) (hd : ∀ c ∈ s.data.toList, Go.Qn.isD c = true) :
    Calls Tryz.prog 108 #[.string s] w (RetW (Go.Qn.val s.data.toList) w) := by
  have HD := Lib.hid hd
  have HL := Lib.hid (len_size s)
  obtain ⟨Q, hQ⟩ : ∃ Q, RetW (Go.Qn.val s.data.toList) w = Q := ⟨_, rfl⟩
  have HRQ : Hid (∀ e V, RetW (Go.Qn.val s.data.toList) w e V → Q e V) := Lib.hid (fun e V h => by rw [← hQ]; exact h)
  rw [hQ]
  clear hd hQ
  obtain ⟨l, hl⟩ : ∃ l, s.data.toList = l := ⟨_, rfl⟩
  have HS0 : Hid (s = bs l) := Lib.hid (by rw [← hl, bs_self])
  rw [hl] at HD HL HRQ
  clear hl
  go_enter Tryz.func108, Tryz.ntmps108
  go_wp2
  go_loopw [0, 3] (fun s0 s3 wr => ∃ (S : ByteArray) (A : Option Addr) (n c m : Nat), s0 = .string S ∧ s3 = .slice A n c ∧ S.size ≤ 100000 ∧ n ≤ 100000 ∧ Hid (∃ q r, S = bs r ∧ l = q ++ r ∧ Go.Qn.val q = m) ∧ Hid ((dg m).length = n) ∧ Hid (c ≤ maxLen ∧ PsM w.heap.size w wr A c m)) (fun s0 _ _ => strlen s0)
  case atStart =>
   refine ⟨s, none, 0, 0, 0, rfl, rfl, hs, by omega, Lib.hid ⟨[], l, HS0.out, rfl, rfl⟩, Lib.hid (by rw [dg_zero]; rfl), Lib.hid ⟨by decide, Below.refl _ _, fun _ => ⟨rfl, rfl⟩, fun h => absurd h (by omega)⟩⟩
  case round =>
   obtain ⟨wo, rfl⟩ : ∃ wo : World, wo = wr := ⟨_, rfl⟩
   obtain ⟨S, A, n, c, m, rfl, rfl, hSs, hn, HQR, HN, HP⟩ := hrel
   by_cases h0 : S.size = 0
   ·have d1 : decide ((0 : Int) < (S.size : Int)) = false := decide_eq_false (by omega)
    have d2 : decide (0 < S.size) = false := decide_eq_false (by omega)
    have HR : Hid (Q (.returned (.slice A n c)) wo) := Lib.hid (by
     obtain ⟨q, r, e1, e2, e3⟩ := HQR.out
     have hr : r = [] := List.eq_nil_of_length_eq_zero (by rw [e1, bs_size] at h0; exact h0)
     rw [hr, List.append_nil] at e2
     have em : Go.Qn.val l = m := by rw [e2]; exact e3
     refine HRQ.out _ _ ⟨A, c, by rw [em, HN.out], ?_, HP.out.2.below⟩
     rw [em]
     rcases Nat.eq_zero_or_pos m with h | h
     ·rw [h]; exact NW.zero _ _ _
     ·obtain ⟨g, rfl, hp, _⟩ := HP.out.2.pos h
      exact hp.nw)
    clear h0 HQR HN HP HRQ HD HL HS0
    go_wp2
    exact HR.out
   ·have d1 : decide ((0 : Int) < (S.size : Int)) = true := decide_eq_true (by omega)
    have d2 : decide (0 < S.size) = true := decide_eq_true (by omega)
    obtain ⟨y, hy⟩ : ∃ y, (S.size - 1) % 19 = y := ⟨_, rfl⟩
    obtain ⟨z, hz⟩ : ∃ z, y + 1 = z := ⟨_, rfl⟩
    have hz19 : z ≤ 19 := by omega
    have hz1 : 1 ≤ z := by omega
    have hzS : z ≤ S.size := by omega
    have m1 : IntKind.i64.wrap ((S.size : Int) - 1) = (S.size : Int) - 1 := IntWalk.i64_in _ (by omega)
    have m2 : ((S.size : Int) - 1) % 19 = (y : Int) := by omega
    have m2t : ((S.size : Int) - 1).tmod 19 = (y : Int) := by rw [Int.tmod_eq_emod_of_nonneg (by omega)]; exact m2
    have m3 : (y : Int) + 1 = (z : Int) := by omega
    have m4 : IntKind.i64.wrap (z : Int) = (z : Int) := IntWalk.i64_in _ (by omega)
    have m5 : IntKind.i64.wrap (y : Int) = (y : Int) := IntWalk.i64_in _ (by omega)
    obtain ⟨S1, hS1⟩ : ∃ X, S.extract 0 z = X := ⟨_, rfl⟩
    obtain ⟨S2, hS2⟩ : ∃ X, S.extract z S.size = X := ⟨_, rfl⟩
    have HPT : Hid (∃ q r1 r2, S1 = bs r1 ∧ S2 = bs r2 ∧ r1.length = z ∧ r2.length + z = S.size ∧ l = (q ++ r1) ++ r2 ∧ Go.Qn.val q = m ∧ (∀ c ∈ q ++ r1, Go.Qn.isD c = true)) := Lib.hid (by
     obtain ⟨q, r, e1, e2, e3⟩ := HQR.out
     have hrl : r.length = S.size := by rw [e1, bs_size]
     refine ⟨q, r.take z, r.drop z, ?_, ?_, by rw [List.length_take]; omega, by rw [List.length_drop]; omega, by rw [List.append_assoc, List.take_append_drop]; exact e2, e3, ?_⟩
     ·rw [← hS1, ext_bs, e1, bs_data]; rfl
     ·rw [← hS2, ext_end, e1, bs_data]
     ·intro c hc
      refine HD.out c ?_
      rw [e2]
      rcases List.mem_append.1 hc with h | h
      ·exact List.mem_append_left _ h
      ·exact List.mem_append_right _ (List.mem_of_mem_take h))
    obtain ⟨c1, w1, hrun, hcell, hb1⟩ := conv_bytes wo S1
    have hS1z : S1.size = z := by
     obtain ⟨q, r1, r2, e1, _, e3, _⟩ := HPT.out
     rw [e1, bs_size, e3]
    rw [hS1z] at hrun
    have HC : Hid (∀ k (hk : k < S1.size), w1.cell? ⟨wo.heap.size, k, none⟩ = some (.int .u8 (S1[k].toNat : Int))) := Lib.hid hcell
    have HZ := Lib.hid hS1z
    have HB1 := Lib.hid hb1
    have hzz := hb1.size
    have q2 : (0 : Int) ≤ (z : Int) := by omega
    have q3 : ((z : Int)).toNat = z := by omega
    have q4 : (z : Int) ≤ (S.size : Int) := by omega
    have q5 : decide (S.size < z) = false := decide_eq_false (by omega)
    clear hcell hb1 hS1z hy hz HQR
    go_upto_block 2 with (fail)
    go_wp2
    go_loop [5, 6, 25] (fun ch ba i => ∃ k : Nat, k ≤ z ∧ i = .int .i64 k ∧ ∃ v p : Nat, ch = .int .u64 v ∧ ba = .int .u64 p ∧ Hid (v = Go.Qn.val (S1.data.toList.take k) ∧ p = 10 ^ k ∧ v < 10 ^ k)) (fun _ _ i => z - (intOf i).toNat)
    case atStart => exact ⟨0, Nat.zero_le _, rfl, 0, 1, rfl, rfl, Lib.hid ⟨rfl, rfl, by decide⟩⟩
    case round =>
     obtain ⟨k, hk, rfl, v, p, rfl, rfl, HV⟩ := hrel
     by_cases hlt : k < z
     ·have hltS : k < S1.size := by rw [HZ.out]; exact hlt
      have hc := HC.out k hltS
      have hlt' : k < S1.data.toList.length := by rw [len_size]; exact hltS
      have hD : Go.Qn.isD S1.data.toList[k] = true := by
       obtain ⟨q, r1, r2, e1, _, _, _, _, _, e6⟩ := HPT.out
       have hm := List.getElem_mem hlt'
       obtain ⟨x, hx⟩ : ∃ x, S1.data.toList[k] = x := ⟨_, rfl⟩
       rw [hx] at hm ⊢
       rw [show S1.data.toList = r1 by rw [e1, bs_data]] at hm
       exact e6 _ (List.mem_append_right _ hm)
      obtain ⟨g1, g2⟩ := isD_int hD
      have HX : Hid (Go.Qn.val (S1.data.toList.take (k + 1)) = 10 * v + (S1[k].toNat - 48)) := Lib.hid (by rw [val_take _ _ hlt', HV.out.1]; rfl)
      have hv : v < 1000000000000000000 := Nat.lt_of_lt_of_le HV.out.2.2 (by
       have : 10 ^ k ≤ 10 ^ 18 := Nat.pow_le_pow_right (by omega) (by omega)
       exact Nat.le_trans this (by decide))
      have hp : p ≤ 1000000000000000000 := by
       rw [HV.out.2.1]
       have : 10 ^ k ≤ 10 ^ 18 := Nat.pow_le_pow_right (by omega) (by omega)
       exact Nat.le_trans this (by decide)
      have e1 : (48 : Int) ≤ (S1[k].toNat : Int) := g1
      have e2 : (S1[k].toNat : Int) ≤ 57 := g2
      clear g1 g2 hD
      go_wp2
      go_round
      case rel =>
       have h1 := HX.out
       have h2 := HV.out
       refine ⟨k + 1, by omega, by go_num, 10 * v + (S1[k].toNat - 48), p * 10, by go_num, by go_num, Lib.hid ⟨h1.symm, by rw [h2.2.1, Nat.pow_succ], ?_⟩⟩
       rw [Nat.pow_succ]; omega
      case measure => simp [intOf]; omega
     ·obtain rfl : k = z := by omega
      obtain ⟨q, r1, r2, e1, e2, e3, e4, e5, e6, e7⟩ := HPT.out
      have hS1d : S1.data.toList = r1 := by rw [e1, bs_data]
      have hV : v = Go.Qn.val r1 ∧ p = 10 ^ k ∧ v < 10 ^ k := by
       have h := HV.out
       rw [hS1d, List.take_of_length_le (by omega)] at h
       exact h
      have hmp : m * p + v = Go.Qn.val (q ++ r1) := by rw [dval_app, e6, e3, hV.1, ← hV.2.1]
      have hlen : (dg (m * p + v)).length ≤ 100000 := by
       rw [hmp]
       refine Nat.le_trans (dval_len e7) ?_
       have h1 := congrArg List.length e5
       have h2 := HL.out
       rw [List.length_append] at h1
       omega
      have HQR2 : Hid (∃ q r, S2 = bs r ∧ l = q ++ r ∧ Go.Qn.val q = m * p + v) := Lib.hid ⟨q ++ r1, r2, e2, e5, hmp.symm⟩
      have hS2s : S2.size + k = S.size := by rw [e2, bs_size]; exact e4
      have hvB : v < B := Nat.lt_of_lt_of_le hV.2.2 (Nat.le_trans (pow_19 hz19) (by decide))
      have hpB : p < B := by rw [hV.2.1]; exact Nat.lt_of_le_of_lt (pow_19 hz19) (by decide)
      have hp0 : 0 < p := by rw [hV.2.1]; exact Nat.pow_pos (by decide)
      have HM0 : Hid (m = 0 → A = none ∧ c = 0) := Lib.hid HP.out.2.nil
      have HPL := Lib.hid (HP.out.2.start (p := p) (v := v) HP.out.2.below.size HB1.out HP.out.1)
      clear e1 e2 e3 e4 e5 e6 e7 hS1d hV hmp HPT HV HC HB1 HP hrun hlt hk
      go_upto_block 4 with (fail)
      go_wp2
      go_loopw [9, 44] (fun s9 s44 wr => ∃ j cy : Nat, s9 = .int .u64 (cy : Nat) ∧ s44 = .int .i64 (j : Nat) ∧ j ≤ n ∧ Hid (cy < B ∧ PsL w.heap.size w wr A c (dg m) p v j cy)) (fun _ s44 _ => n - (intOf s44).toNat)
      case atStart => exact ⟨0, v, rfl, rfl, Nat.zero_le _, Lib.hid ⟨hvB, HPL.out⟩⟩
      case round =>
       clear HPL
       obtain ⟨wi, rfl⟩ : ∃ wi : World, wi = wr := ⟨_, rfl⟩
       obtain ⟨j, cy, rfl, rfl, hj, HJ⟩ := hrel
       by_cases hjn : j < n
       ·have hjl : j < (dg m).length := by rw [HN.out]; exact hjn
        obtain ⟨x, hx⟩ : ∃ x, (dg m)[j] = x := ⟨_, rfl⟩
        obtain ⟨g, rfl, cx, fx, hxB, hcB, hnx⟩ := HJ.out.2.next hjl hx (dg_dig m) hpB HJ.out.1
        have HMA := Lib.hid (ma_any x p cy hxB hpB HJ.out.1 wi)
        have HNX := Lib.hid hnx
        have HCB := Lib.hid hcB
        have d3 : decide ((j : Int) < (n : Int)) = true := decide_eq_true (by omega)
        have d4 : decide (j < n) = true := decide_eq_true hjn
        obtain ⟨hi, hhi⟩ : ∃ t, (x * p + cy) / B = t := ⟨_, rfl⟩
        obtain ⟨lo, hlo⟩ : ∃ t, (x * p + cy) % B = t := ⟨_, rfl⟩
        rw [hhi, hlo] at HMA HNX
        rw [hhi] at HCB
        obtain ⟨j1, hj1⟩ : ∃ t, j + 1 = t := ⟨_, rfl⟩
        rw [hj1] at HNX
        have w1' : IntKind.i64.wrap ((j : Int) + 1) = (j1 : Int) := (IntWalk.i64_in _ (by omega)).trans (by omega)
        have w2' : (j : Int) + 1 = (j1 : Int) := by omega
        have w3' : IntKind.i64.wrap (j1 : Int) = (j1 : Int) := IntWalk.i64_in _ (by omega)
        clear hnx hcB hhi hlo hx hjl hj1
        go_wp2_with (go_at_call 112; refine HMA.out.mono ?_; rintro e w2 ⟨rfl, rfl⟩)
        go_roundw
        case rel => exact ⟨j1, hi, rfl, rfl, by omega, Lib.hid ⟨HCB.out, HNX.out⟩⟩
        case measure => simp [intOf]; omega
       ·obtain rfl : j = n := by omega
        have d3 : decide ((j : Int) < (j : Int)) = false := decide_eq_false (by omega)
        have d4 : decide (j < j) = false := decide_eq_false (by omega)
        have hms : strlen (.string S2) < strlen (.string S) := by show S2.size < S.size; omega
        have HMS := Lib.hid hms
        have hbs : w.heap.size ≤ wi.heap.size := HJ.out.2.below.size
        clear hms
        by_cases hc0 : cy = 0
        ·subst hc0
         obtain ⟨hPM, hln⟩ := PsL.done (h := by have := HJ.out.2; rw [← HN.out] at this; exact this) hp0 HM0.out
         rw [HN.out] at hln
         have HNEW : Hid (Hid (∃ q r, S2 = bs r ∧ l = q ++ r ∧ Go.Qn.val q = m * p + v) ∧ Hid ((dg (m * p + v)).length = j) ∧ Hid (c ≤ maxLen ∧ PsM w.heap.size w wi A c (m * p + v))) := Lib.hid ⟨HQR2, Lib.hid hln, Lib.hid ⟨HJ.out.2.le, hPM⟩⟩
         have hb0 : (((0 : Nat) : Int) != 0) = false := by decide
         clear hPM hln HJ HQR2 hbs
         go_wp2
         exact ⟨⟨S2, A, j, c, m * p + v, rfl, rfl, by omega, hn, HNEW.out.1, HNEW.out.2.1, HNEW.out.2.2⟩, HMS.out⟩
        ·have hb0 : ((cy : Int) != 0) = true := by simp; omega
         have hb0' : (cy != 0) = true := by simp; omega
         have HWA : Below wi.heap.size wi (wi.alloc (.cells #[.int .u64 (cy : Nat)] 118)) := (Below.refl _ _).alloc (Nat.le_refl _) _
         obtain ⟨g', c', w', hr, hPM, hcm⟩ := PsL.push (h := by have := HJ.out.2; rw [← HN.out] at this; exact this) hc0 HJ.out.1 HWA hbs HM0.out (k := wi.heap.size) (d := 1) ((Blk.new wi 118 #[.int .u64 (cy : Nat)]).cell 0) (by rw [HN.out]; omega)
         rw [HN.out] at hr
         obtain ⟨n', hn'⟩ : ∃ t, (dg (m * p + v)).length = t := ⟨_, rfl⟩
         rw [hn'] at hr hlen
         have HNEW : Hid (Hid (∃ q r, S2 = bs r ∧ l = q ++ r ∧ Go.Qn.val q = m * p + v) ∧ Hid ((dg (m * p + v)).length = n') ∧ Hid (c' ≤ maxLen ∧ PsM w.heap.size w w' (some ⟨g', 0, none⟩) c' (m * p + v))) := Lib.hid ⟨HQR2, Lib.hid hn', Lib.hid ⟨hcm, hPM⟩⟩
         clear hPM hn' HJ HQR2 hbs HWA hcm
         go_upto_region 19 with (fail)
         refine wp_region_list ?_
         refine wpList_plain rfl (fun K hK => ?_)
         go_simp
         refine hK _ _ ?_
         clear hK K
         refine wpList_plain rfl (fun K hK => ?_)
         go_simp
         refine hK _ _ ?_
         clear hK K
         refine wpList_plain rfl (fun K hK => ?_)
         go_simp
         refine hK _ _ ?_
         clear hK K
         refine wpList_append_run _ rfl _ _ 66 rfl (.slice A j c) (.slice (some ⟨wi.heap.size, 0, none⟩) 1 1) rfl rfl hr ?_
         clear hr
         go_wp2
         exact ⟨⟨S2, some ⟨g', 0, none⟩, n', c', m * p + v, rfl, rfl, by omega, hlen, HNEW.out.1, HNEW.out.2.1, HNEW.out.2.2⟩, HMS.out⟩
end Go.Proofs.Tg.Iw
end
section
/- Walks: the program's integers of any length: Parse, GCD, IsOne. -/
namespace Go.Proofs.Tg.Iw
open Go.RowKit Go.Bw Go.Gr Go.Proofs.Tg
set_option maxHeartbeats 4000000
set_option maxRecDepth 100000
theorem psplit_w (s : ByteArray) (w : World) (hs : s.size ≤ 570) (hd : ∀ c ∈ s.data.toList, Go.Qn.isD c = true) :
    Calls Tryz.prog 83 #[.string s, .slice none 0 0] w (RetW (Go.Qn.val s.data.toList) w) := by
  have HP := Lib.hid (psimple_w s w (by omega) hd)
  obtain ⟨Q, hQ⟩ : ∃ Q, RetW (Go.Qn.val s.data.toList) w = Q := ⟨_, rfl⟩
  rw [hQ] at HP ⊢
  have HQ : Hid (∀ e V, Q e V → ∃ v, e = .returned v) := Lib.hid (fun e V h => by rw [← hQ] at h; obtain ⟨R, c, rfl, _⟩ := h; exact ⟨_, rfl⟩)
  clear hd hQ
  have d1 : decide ((s.size : Int) ≤ 570) = true := decide_eq_true (by omega)
  go_enter Tryz.func83, Tryz.ntmps83
  go_wp2
  refine wp_loop_rounds 1 ?_
  rw [rounds_succ]
  go_wp2_with (go_at_call 108; refine HP.out.mono ?_; rintro e w' h; obtain ⟨v, rfl⟩ := HQ.out _ _ h; have H := Lib.hid h; clear h)
  exact H.out
theorem pwords_w (s : ByteArray) (w : World) (hs : s.size ≤ 570) (hd : ∀ c ∈ s.data.toList, Go.Qn.isD c = true) :
    Calls Tryz.prog 67 #[.string s] w (RetW (Go.Qn.val s.data.toList) w) := by
  have HP := Lib.hid (psplit_w s w hs hd)
  obtain ⟨Q, hQ⟩ : ∃ Q, RetW (Go.Qn.val s.data.toList) w = Q := ⟨_, rfl⟩
  rw [hQ] at HP ⊢
  have HQ : Hid (∀ e V, Q e V → ∃ v, e = .returned v) := Lib.hid (fun e V h => by rw [← hQ] at h; obtain ⟨R, c, rfl, _⟩ := h; exact ⟨_, rfl⟩)
  clear hd hQ
  have d1 : decide ((570 : Int) < (s.size : Int)) = false := decide_eq_false (by omega)
  have d2 : decide (570 < s.size) = false := decide_eq_false (by omega)
  go_enter Tryz.func67, Tryz.ntmps67
  go_wp2_with (go_at_call 83; refine HP.out.mono ?_; rintro e w' h; obtain ⟨v, rfl⟩ := HQ.out _ _ h; have H := Lib.hid h; clear h)
  exact H.out
/-- An integer returned. -/
def RetI (x : Bool) (n : Nat) (w : World) (e : Ending) (w' : World) : Prop := ∃ R c, e = .returned (.agg #[.bool x, .slice R (dg n).length c]) ∧ NW w' R c n ∧ Below w.heap.size w w'
theorem NW.put {w : World} {R : Option Addr} {c n : Nat} (h : NW w R c n) {p : Addr} {v : Value} (hc : w.cell? p = some v) (hv : v ∉ (dg n).map vs) (u : Value) : NW (w.setCell p u) R c n := ⟨Sl.put h.wds hc hv u, h.cap⟩
theorem parse_w (s : ByteArray) (w : World) (hs : s.size ≤ 570) (hd : ∀ c ∈ s.data.toList, Go.Qn.isD c = true) :
    Calls Tryz.prog 38 #[.string s] w (RetI false (Go.Qn.val s.data.toList) w) := by
  have HP := Lib.hid (fun W => pwords_w s W hs hd)
  clear hd
  have hb1 : Below w.heap.size w (w.alloc (.cells #[.bool false, .slice none 0 0] 68)) := (Below.refl _ _).alloc (Nat.le_refl _) _
  have B2 := Blk.new w 68 #[.bool false, .slice none 0 0]
  generalize Go.Qn.val s.data.toList = n at *
  go_enter Tryz.func38, Tryz.ntmps38
  go_wp2_with (go_at_call 67; refine (HP.out _).mono ?_; rintro e w' ⟨A, c, rfl, h1, h3⟩
               have B3 := B2.keep h3 (by simp)
               have c0 := B3.cell 0
               have c1 := B3.cell 1
               have f0 := B3.frozen 0
               have f1 := B3.frozen 1
               have H1 := Lib.hid h1
               clear h1
               simp at c0 c1)
  refine bodyPost_ret (v := .agg #[.bool false, .slice A (dg n).length c]) (by simp [results, Tryz.results38, go_sem, c0, c1]) rfl ⟨A, c, rfl, ?_, ?_⟩
  ·have h4 := H1.out.put c0 (by simp [vs]) (.bool false)
   exact h4.put (v := .slice none 0 0) (by rw [World.cell?_setCell_other _ _ _ _ (by simp)]; exact c1) (by simp [vs]) _
  ·exact (((hb1.trans (h3.mono (by simp))).setCell (by simp) _).setCell (by simp) _)
theorem igcd_w (A B : Option Addr) (c d a b : Nat) (x y : Bool) (w : World) (hA : NW w A c a) (hB : NW w B d b) (ha : (dg a).length ≤ 400000) (hb : (dg b).length ≤ 400000) (hs : (dg a).length < 80 ∨ (dg b).length < 80) (hT : Tab w) :
    Calls Tryz.prog 39 #[.agg #[.bool x, .slice A (dg a).length c], .agg #[.bool y, .slice B (dg b).length d]] w (RetI false (Nat.gcd a b) w) := by
  have hbA : Below w.heap.size w (((w.alloc (.cells #[.bool x, .slice A (dg a).length c] 68)).alloc (.cells #[.bool y, .slice B (dg b).length d] 68)).alloc (.cells #[.bool false, .slice none 0 0] 68)) :=
    (((Below.refl _ _).alloc (Nat.le_refl _) _).alloc (by simp) _).alloc (by simp; omega) _
  have HK := Lib.hid (gcdw_any A B c d a b _ (hA.keep hbA) (hB.keep hbA) ha hb hs (hT.below hbA hT.1))
  clear hA hB ha hb hs hT
  generalize (dg a).length = la at *
  generalize (dg b).length = lb at *
  generalize Nat.gcd a b = G at *
  go_enter Tryz.func39, Tryz.ntmps39
  go_wp2_with (go_at_call 68; refine HK.out.mono ?_; rintro e w1 ⟨A1, c1, rfl, h1, h3⟩
               have B4 : Blk w1 (w.heap.size + 1 + 1) 68 #[.bool false, .slice none 0 0] := by
                have := (Blk.new ((w.alloc (.cells #[.bool x, .slice A la c] 68)).alloc (.cells #[.bool y, .slice B lb d] 68)) 68 #[.bool false, .slice none 0 0]).keep h3 (by simp)
                simpa using this
               have q0 := B4.cell 0
               have q1 := B4.cell 1
               have f0 := B4.frozen 0
               have f1 := B4.frozen 1
               have H1 := Lib.hid h1
               clear B4 h1
               simp at q0 q1)
  refine bodyPost_ret (v := .agg #[.bool false, .slice A1 (dg G).length c1]) (by simp [results, Tryz.results39, go_sem, q0, q1]) rfl ⟨A1, _, rfl, ?_, ?_⟩
  ·have h4 := H1.out.put q0 (by simp [vs]) (.bool false)
   exact h4.put (v := .slice none 0 0) (by rw [World.cell?_setCell_other _ _ _ _ (by simp)]; exact q1) (by simp [vs]) _
  ·exact (((hbA.trans (h3.mono (by simp; omega))).setCell (by simp; omega) _).setCell (by simp; omega) _)
theorem isone_w (A : Option Addr) (c m : Nat) (w : World) (hA : NW w A c m) :
    Calls Tryz.prog 40 #[.agg #[.bool false, .slice A (dg m).length c]] w fun e w' => e = .returned (.bool (decide (m = 1))) ∧ Below w.heap.size w w' := by
  by_cases h1 : (dg m).length = 1
  ·have hm0 : m ≠ 0 := fun e => by rw [e, dg_zero] at h1; simp at h1
   have hmB : m < 18446744073709551616 := by
    have := val_lt_dg m
    rwa [h1, Nat.pow_one] at this
   have h2 := isone_any A c m w (by rw [wds_dg hmB]; exact hA.wds)
   rwa [wds_dg hmB] at h2
  ·have hne : m ≠ 1 := fun e => h1 (by rw [e, dg_small (by decide) (by decide)]; rfl)
   rw [decide_eq_false hne]
   have b1 : (((dg m).length : Int) == 1) = false := beq_eq_false_iff_ne.2 (by omega)
   have b2 : ((dg m).length == 1) = false := beq_eq_false_iff_ne.2 h1
   clear hA hne
   generalize (dg m).length = n at *
   go_enter Tryz.func40, Tryz.ntmps40
   go_wp2
   go_ret
   exact ⟨rfl, (Below.refl _ _).alloc (Nat.le_refl _) _⟩
end Go.Proofs.Tg.Iw
end
section
/- Walks: the program's numbers on texts of any length: a short number is read, or not. -/
namespace Go.Proofs.Tg
open Go.RowKit Go.Qn
set_option maxHeartbeats 4000000
set_option maxRecDepth 100000
def RetShW (l : List UInt8) (w : World) (e : Ending) (w' : World) : Prop :=
  Below w.heap.size w w' ∧ (e = .returned (.tuple #[.agg #[.int .i64 0, .int .i64 0], .bool false]) ∨
    (∃ b n d, rd l = some (b, n, d) ∧ n < 1000000000 ∧ d < 1000000000 ∧ e = .returned (.tuple #[.agg #[.int .i64 (sg b n), .int .i64 (d : Nat)], .bool true])))
theorem rshort_w (s : ByteArray) (w : World) (hs : s.size ≤ 64) :
    Calls Tryz.prog 36 #[.string s] w (RetShW s.data.toList w) := by
  have HL := Lib.hid (len_size s)
  obtain ⟨W0, hW0⟩ : ∃ W0, w.alloc (.cells #[.int .i64 0, .int .i64 0] 62) = W0 := ⟨_, rfl⟩
  have B2 : Blk W0 w.heap.size 62 #[.int .i64 0, .int .i64 0] := by rw [← hW0]; exact Blk.new _ _ _
  have hbA : Below w.heap.size w W0 := by rw [← hW0]; exact (Below.refl _ _).alloc (Nat.le_refl _) _
  have HW0 := Lib.hid hW0
  clear hW0
  by_cases h20 : 20 < s.size
  ·have hd20 : decide ((20 : Int) < (s.size : Int)) = true := decide_eq_true (by omega)
   have hz := B2.lt
   obtain ⟨a0, a1, a2, a3⟩ := B2.two
   go_enter Tryz.func36, Tryz.ntmps36
   go_upto_region 1 with (fail)
   rw [HW0.out]
   go_wp2
   refine bodyPost_ret (v := .tuple #[.agg #[.int .i64 0, .int .i64 0], .bool false]) (by simp [results, Tryz.results36, go_sem, a0, a1]) rfl ⟨?_, .inl rfl⟩
   exact below_far (below_far hbA (by omega) _ _) (by omega) _ _
  have hd20 : decide ((20 : Int) < (s.size : Int)) = false := decide_eq_false (by omega)
  go_enter Tryz.func36, Tryz.ntmps36
  go_upto_region 1 with (fail)
  rw [HW0.out]
  go_wp2_with (fail)
  refine (split_any s W0 (by omega)).mono ?_
  rintro e w1 ⟨b, num, den, ok, rfl, HS, hb1⟩
  have hc := splitis_cases HS
  clear HS
  go_upto_region 4 with (fail)
  obtain ⟨W1, hW1⟩ : ∃ W1, w1.alloc (.cells #[.bool b, .string (bs num), .string (bs den)] 83) = W1 := ⟨_, rfl⟩
  have C2 : Blk W1 w.heap.size 62 #[.int .i64 0, .int .i64 0] := by rw [← hW1]; exact (B2.keep hb1 B2.lt).alloc _
  have C4 : Blk W1 w1.heap.size 83 #[.bool b, .string (bs num), .string (bs den)] := by rw [← hW1]; exact Blk.new _ _ _
  have hbB : Below w.heap.size w W1 := by rw [← hW1]; have := below_all hbA hb1; exact this.alloc this.size _
  have hz1 : w.heap.size < w1.heap.size := by have := B2.lt; have := hb1.size; omega
  rw [hW1]
  clear hW1 B2 hb1 hbA
  obtain ⟨a0, a1, a2, a3⟩ := C2.two
  obtain ⟨p0, p1, p2, _, _, _⟩ := C4.three
  have hz2 := C4.lt
  have hz3 := C2.lt
  rcases hc with ⟨rfl, hr⟩ | ⟨rfl, n1, _, rfl, hr⟩ | ⟨rfl, n1, _, _, hdn, m1, v0, v1, hr⟩
  ·have HR := Lib.hid hr
   clear hr
   go_wp2
   refine bodyPost_ret (v := .tuple #[.agg #[.int .i64 0, .int .i64 0], .bool false]) (by simp [results, Tryz.results36, go_sem, a0, a1]) rfl ⟨?_, .inl rfl⟩
   exact below_far (below_far hbB (by omega) _ _) (by omega) _ _
  ·by_cases h9 : num.length ≤ 9
   rotate_left
   ·have l1 : decide ((9 : Int) < ((bs num).size : Int)) = true := by rw [bs_size]; exact decide_eq_true (by omega)
    clear hr n1
    go_wp2
    refine bodyPost_ret (v := .tuple #[.agg #[.int .i64 0, .int .i64 0], .bool false]) (by simp [results, Tryz.results36, go_sem, a0, a1]) rfl ⟨?_, .inl rfl⟩
    exact below_far (below_far hbB (by omega) _ _) (by omega) _ _
   have hnl := h9
   have l1 : decide ((9 : Int) < ((bs num).size : Int)) = false := by rw [bs_size]; exact decide_eq_false (by omega)
   have l2 : decide ((9 : Int) < ((bs []).size : Int)) = false := by rw [bs_size]; exact decide_eq_false (by simp)
   have HR := Lib.hid hr
   have hv := val9 num n1 hnl
   have HD := Lib.hid (fun W => dval_any (bs num) W (by rw [bs_size]; omega) (by rw [bs_data]; exact (numOk_iff.1 n1).1))
   rw [bs_data] at HD
   have hbe : (bs []).toList.isEmpty = true := by rw [bs_toList]; rfl
   have hbe' : (bs []).toList = [] := by rw [bs_toList]
   clear hr n1
   generalize val num = v at *
   go_upto_region 7 with (go_at_call 64; refine (HD.out _).mono ?_; rintro e w' ⟨rfl, rfl⟩)
   obtain ⟨W2, hW2⟩ : ∃ W2, W1.alloc (.cells #[.int .i64 v, .int .i64 1] 62) = W2 := ⟨_, rfl⟩
   have D2 : Blk W2 w.heap.size 62 #[.int .i64 0, .int .i64 0] := by rw [← hW2]; exact C2.alloc _
   have D4 : Blk W2 w1.heap.size 83 #[.bool b, .string (bs num), .string (bs [])] := by rw [← hW2]; exact C4.alloc _
   have D6 : Blk W2 W1.heap.size 62 #[.int .i64 v, .int .i64 1] := by rw [← hW2]; exact Blk.new W1 _ _
   have hbC : Below w.heap.size w W2 := by rw [← hW2]; exact hbB.alloc hbB.size _
   rw [hW2]
   have hz4 := D2.lt
   clear hW2 C2 C4 hbB a0 a1 a2 a3 p0 p1 p2
   obtain ⟨a0, a1, a2, a3⟩ := D2.two
   obtain ⟨p0, p1, p2, _, _, _⟩ := D4.three
   obtain ⟨x0, x1, x2, x3⟩ := D6.two
   cases b with
   | false =>
     go_wp2
     refine bodyPost_ret (v := .tuple #[.agg #[.int .i64 (sg false v), .int .i64 (1 : Nat)], .bool true]) (by simp [results, Tryz.results36, go_sem, a0, a1, sg]) rfl ⟨?_, .inr ⟨false, v, 1, HR.out, hv, by omega, rfl⟩⟩
     exact below_far (below_far hbC (by omega) _ _) (by omega) _ _
   | true =>
     go_wp2
     refine bodyPost_ret (v := .tuple #[.agg #[.int .i64 (sg true v), .int .i64 (1 : Nat)], .bool true]) (by simp [results, Tryz.results36, go_sem, a0, a1, sg]) rfl ⟨?_, .inr ⟨true, v, 1, HR.out, hv, by omega, rfl⟩⟩
     exact below_far (below_far (below_far hbC (by omega) _ _) (by omega) _ _) (by omega) _ _
  ·by_cases h9 : num.length ≤ 9
   rotate_left
   ·have l1 : decide ((9 : Int) < ((bs num).size : Int)) = true := by rw [bs_size]; exact decide_eq_true (by omega)
    clear hr n1 m1 v0 v1 hdn
    go_wp2
    refine bodyPost_ret (v := .tuple #[.agg #[.int .i64 0, .int .i64 0], .bool false]) (by simp [results, Tryz.results36, go_sem, a0, a1]) rfl ⟨?_, .inl rfl⟩
    exact below_far (below_far hbB (by omega) _ _) (by omega) _ _
   have hnl := h9
   have l1 : decide ((9 : Int) < ((bs num).size : Int)) = false := by rw [bs_size]; exact decide_eq_false (by omega)
   by_cases h9d : den.length ≤ 9
   rotate_left
   ·have l2 : decide ((9 : Int) < ((bs den).size : Int)) = true := by rw [bs_size]; exact decide_eq_true (by omega)
    clear hr n1 m1 v0 v1 hdn
    go_wp2
    refine bodyPost_ret (v := .tuple #[.agg #[.int .i64 0, .int .i64 0], .bool false]) (by simp [results, Tryz.results36, go_sem, a0, a1]) rfl ⟨?_, .inl rfl⟩
    exact below_far (below_far hbB (by omega) _ _) (by omega) _ _
   have hdl := h9d
   have l2 : decide ((9 : Int) < ((bs den).size : Int)) = false := by rw [bs_size]; exact decide_eq_false (by omega)
   have HR := Lib.hid hr
   have hv := val9 num n1 hnl
   have hu := val9 den m1 hdl
   have HD := Lib.hid (fun W => dval_any (bs num) W (by rw [bs_size]; omega) (by rw [bs_data]; exact (numOk_iff.1 n1).1))
   have HE := Lib.hid (fun W => dval_any (bs den) W (by rw [bs_size]; omega) (by rw [bs_data]; exact (numOk_iff.1 m1).1))
   rw [bs_data] at HD HE
   have hbe : (bs den).toList.isEmpty = false := by rw [bs_toList]; cases den; exact absurd rfl hdn; rfl
   have hbe' : ¬ (bs den).toList = [] := by rw [bs_toList]; exact hdn
   have HG := Lib.hid (fun W => sgcd_any (val num) (val den) W (by omega) (by omega))
   clear hr n1 m1 hdn v0 v1
   generalize val num = v at *
   generalize val den = u at *
   go_upto_region 9 with (first
     | (go_at_call 64; with_reducible refine Calls.mono (HD.out _) ?_; rintro e w' ⟨rfl, rfl⟩)
     | (go_at_call 64; with_reducible refine Calls.mono (HE.out _) ?_; rintro e w' ⟨rfl, rfl⟩))
   obtain ⟨W2, hW2⟩ : ∃ W2, W1.alloc (.cells #[.int .i64 v, .int .i64 u] 62) = W2 := ⟨_, rfl⟩
   have D2 : Blk W2 w.heap.size 62 #[.int .i64 0, .int .i64 0] := by rw [← hW2]; exact C2.alloc _
   have D4 : Blk W2 w1.heap.size 83 #[.bool b, .string (bs num), .string (bs den)] := by rw [← hW2]; exact C4.alloc _
   have D6 : Blk W2 W1.heap.size 62 #[.int .i64 v, .int .i64 u] := by rw [← hW2]; exact Blk.new W1 _ _
   have hbC : Below w.heap.size w W2 := by rw [← hW2]; exact hbB.alloc hbB.size _
   rw [hW2]
   clear hW2 C2 C4 hbB a0 a1 a2 a3 p0 p1 p2
   obtain ⟨x0, x1, x2, x3⟩ := D6.two
   go_wp2_with (fail)
   refine (HG.out _).mono ?_
   rintro e w5 ⟨rfl, hb5⟩
   have E2 := D2.keep hb5 D2.lt
   have E4 := D4.keep hb5 D4.lt
   have E6 := D6.keep hb5 D6.lt
   have hbE := below_all hbC hb5
   have hz4 := E2.lt
   clear D2 D4 D6 hbC hb5 x0 x1 x2 x3
   obtain ⟨a0, a1, a2, a3⟩ := E2.two
   obtain ⟨p0, p1, p2, _, _, _⟩ := E4.three
   obtain ⟨x0, x1, x2, x3⟩ := E6.two
   by_cases hg : Nat.gcd v u = 1
   ·have HR2 : Hid (rd s.data.toList = some (b, v, u)) := Lib.hid (by rw [HR.out, if_pos hg])
    rw [hg]
    clear HR HG hg
    cases b with
    | false =>
      go_wp2
      refine bodyPost_ret (v := .tuple #[.agg #[.int .i64 (sg false v), .int .i64 u], .bool true]) (by simp [results, Tryz.results36, go_sem, a0, a1, sg]) rfl ⟨?_, .inr ⟨false, v, u, HR2.out, hv, hu, rfl⟩⟩
      exact below_far (below_far hbE (by omega) _ _) (by omega) _ _
    | true =>
      go_wp2
      refine bodyPost_ret (v := .tuple #[.agg #[.int .i64 (sg true v), .int .i64 u], .bool true]) (by simp [results, Tryz.results36, go_sem, a0, a1, sg]) rfl ⟨?_, .inr ⟨true, v, u, HR2.out, hv, hu, rfl⟩⟩
      exact below_far (below_far (below_far hbE (by omega) _ _) (by omega) _ _) (by omega) _ _
   ·have HR2 : Hid (rd s.data.toList = none) := Lib.hid (by rw [HR.out, if_neg hg])
    have hgb : (((Nat.gcd v u : Nat) : Int) != 1) = true := by simp; omega
    have hgb' : (Nat.gcd v u == 1) = false := by simp [hg]
    have hgb'' : (((Nat.gcd v u : Nat) : Int) == 1) = false := beq_eq_false_iff_ne.2 (by omega)
    clear HR HG hg
    generalize Nat.gcd v u = g at *
    go_wp2
    refine bodyPost_ret (v := .tuple #[.agg #[.int .i64 0, .int .i64 0], .bool false]) (by simp [results, Tryz.results36, go_sem, a0, a1]) rfl ⟨?_, .inl rfl⟩
    exact below_far (below_far hbE (by omega) _ _) (by omega) _ _
end Go.Proofs.Tg
end
