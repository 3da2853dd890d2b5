/- Parts of the proof: JH4. -/
import Derived.Deep.Cut
import Derived.Test.YtbgaiceakmmfdaaGreatDoorMMR0
import Derived.Test.YtbgaiceakmmfdaaGreatDoorMMR34
import Derived.Test.YtbgaiceakmmfdaaGreatDoorMMR37
set_option maxHeartbeats 64000000
set_option maxRecDepth 100000
namespace Go.Proofs.Tg.Fi
section
open Go.RowKit Go.Rq Go.Qn Go.Mm Go.Proofs.Tg
def short20 (s : ByteArray) : Bool := decide (s.size ≤ 20)
theorem small20_any (A : Option Addr) (c : Nat) (ss : List ByteArray) (w : World) (hA : Sl w A ss.length 1 (ss.map Value.string)) (hn : ss.length ≤ 1000000) :
    Calls Tryz.prog 5 #[.int .i64 20, .slice A ss.length c] w fun e w' => e = .returned (.bool (ss.all short20)) ∧ w = w' := by
  obtain ⟨n, hn'⟩ := eqx (ss.length); have HA := zh hA; obtain ⟨r, hr⟩ := eqx (ss.all short20); rw [hr]; have HR := zh hr; rw [hn'] at hn ⊢; have HN := zh hn'; clear hA hn' hr; go_enter Tryz.func5, Tryz.ntmps5; go_wp2
  go_loop [9] (fun s9 => ∃ k : Nat, s9 = .int .i64 (k : Nat) ∧ k ≤ n ∧ Hid (∀ s ∈ ss.take k, short20 s = true)) (fun s9 => n - (intOf s9).toNat)
  case atStart => exact ⟨0, rfl, Nat.zero_le _, zh (by simp)⟩
  case round =>
   obtain ⟨k, rfl, hk, HB⟩ := hrel
   by_cases hkn : k = n
   ·have e1 : decide ((k : Int) < (n : Int)) = false := dF (by omega); have e1' : decide (k < n) = false := dF (by omega)
    obtain rfl : r = true := by
     rw [← HR.out, List.all_eq_true]; have := HB.out
     rwa [List.take_of_length_le (by rw [HN.out]; omega)] at this
    clear hkn; go_wp2; go_ret; exact ⟨rfl, rfl⟩
   ·have hkl : k < n := by omega
    have hks : k < ss.length := by rw [HN.out]; exact hkl
    have e1 : decide ((k : Int) < (n : Int)) = true := dT (by omega); have e1' : decide (k < n) = true := dT hkl; obtain ⟨S, hS⟩ := eqx (ss[k])
    have hSm : S ∈ ss := by rw [← hS]; exact List.getElem_mem hks
    obtain ⟨ad, rfl, hc0⟩ := Sl.at1 HA.out (k := k) (by simpa using hks)
    have hc : w.cell? (ad.add k) = some (.string S) := by simpa [hS] using hc0
    have HT : Hid (ss.take (k + 1) = ss.take k ++ [S]) := zh (by rw [List.take_succ_eq_append_getElem hks, hS]); clear hkn hc0 hS
    by_cases h20 : S.size ≤ 20
    ·have e2 : decide ((20 : Int) < (S.size : Int)) = false := dF (by omega); have e2' : decide (20 < S.size) = false := dF (by omega); have HOK : Hid (short20 S = true) := zh (dT h20); go_wp2; go_round
     case rel =>
      refine ⟨k + 1, by go_num, by omega, zh ?_⟩; rw [HT.out]; intro s h
      rcases List.mem_append.1 h with h | h
      ·exact HB.out s h
      ·simp at h; subst h; exact HOK.out
     case measure => simp [intOf]; omega
    ·have e2 : decide ((20 : Int) < (S.size : Int)) = true := dT (by omega); have e2' : decide (20 < S.size) = true := dT (by omega)
     obtain rfl : r = false := by
      rw [← HR.out]; exact List.all_eq_false.2 ⟨S, hSm, by unfold short20; rw [dF h20]; simp⟩
     go_wp2; go_ret; exact ⟨rfl, rfl⟩
def totL (rows : List SRow) : Nat → Nat
  | 0 => 0
  | k + 1 => totL rows k + (rows.map fun r => r.ss.length).getD k 0
def c1E (rows : List SRow) (ws : List ByteArray) : Int := if okAll rows ws = false then 1 else if shpBad rows ws then 4 else 0
def c2E (rows : List SRow) (c : Int) (k : Nat) : Int := if c = 0 ∧ ∃ r ∈ rows.take k, r.ss.length ≠ lenZ rows then 4 else c
theorem wantE_aux (a b P q : Prop) [Decidable a] [Decidable b] [Decidable P] [Decidable q] : (if a then (1 : Int) else if b then 4 else if P then 4 else if q then 3 else 0) = if (if (if a then (1 : Int) else if b then 4 else 0) = 0 ∧ P then 4 else (if a then (1 : Int) else if b then 4 else 0)) = 0 ∧ q then 3 else (if (if a then (1 : Int) else if b then 4 else 0) = 0 ∧ P then 4 else (if a then (1 : Int) else if b then 4 else 0)) := by
 by_cases h1 : a <;> by_cases h2 : b <;> by_cases h3 : P <;> by_cases h4 : q <;> simp [h1, h2, h3, h4]
theorem wantE_eq (rows : List SRow) (ws : List ByteArray) (d : Int) : wantE rows ws d = if c2E rows (c1E rows ws) rows.length = 0 ∧ (d < 0 ∨ 24 < d) then 3 else c2E rows (c1E rows ws) rows.length := by
 unfold wantE c2E c1E
 rw [List.take_length]
 exact wantE_aux _ _ _ _
theorem c2E_cases {rows : List SRow} {c : Int} (h : c = 0 ∨ c = 1 ∨ c = 4) (k : Nat) : c2E rows c k = 0 ∨ c2E rows c k = 1 ∨ c2E rows c k = 4 := by
 unfold c2E
 split
 ·exact Or.inr (Or.inr rfl)
 ·exact h
theorem c1E_cases (rows : List SRow) (ws : List ByteArray) : c1E rows ws = 0 ∨ c1E rows ws = 1 ∨ c1E rows ws = 4 := by
 unfold c1E
 split
 ·exact Or.inr (Or.inl rfl)
 ·split
  ·exact Or.inr (Or.inr rfl)
  ·exact Or.inl rfl
theorem c2E_zero (rows : List SRow) (c : Int) : c2E rows c 0 = c := by
 unfold c2E
 rw [if_neg]
 rintro ⟨_, r, h, _⟩
 simp at h
theorem c2E_aux (c : Int) (E A T : Prop) [Decidable E] [Decidable A] [Decidable T] (h : E ↔ A ∨ T) : (if c = 0 ∧ E then 4 else c) = if (if c = 0 ∧ A then 4 else c) = 0 ∧ T then 4 else (if c = 0 ∧ A then 4 else c) := by
 by_cases h0 : c = 0 <;> by_cases h1 : A <;> by_cases h2 : T <;> simp [h, h0, h1, h2]
theorem c2E_succ {rows : List SRow} {c : Int} {k : Nat} {R : SRow} (h : rows.take (k + 1) = rows.take k ++ [R]) : c2E rows c (k + 1) = if c2E rows c k = 0 ∧ R.ss.length ≠ lenZ rows then 4 else c2E rows c k := by
 unfold c2E
 refine c2E_aux c _ _ _ ?_
 rw [h]
 constructor
 ·rintro ⟨r, hr, hl⟩
  rcases List.mem_append.1 hr with hr | hr
  ·exact Or.inl ⟨r, hr, hl⟩
  ·simp at hr; subst hr; exact Or.inr hl
 ·rintro (⟨r, hr, hl⟩ | hl)
  ·exact ⟨r, by simp [hr], hl⟩
  ·exact ⟨R, by simp, hl⟩
theorem law_refuses (X Y : Option Addr) (cx cy : Nat) (d : Int) (rows : List SRow) (ws : List ByteArray) (w : World) (hX : SRowsAt w X rows) (hY : Sl w Y ws.length 1 (ws.map Value.string)) (ht : PT w) (hT : Tab w) :
    Calls Tryz.prog 4 #[.slice X rows.length cx, .slice Y ws.length cy, .int .i64 d] w fun e w' => e = .returned (.bool true) ∧ Below w.heap.size w w' := by
  have HK : Hid (∀ V, Below w.heap.size w V → Calls Tryz.prog 6 #[] V fun e w' => e = .returned (.bool true) ∧ Below V.heap.size V w') := zh fun V hb => known_any V (ht.keep hb)
  have HSW : Hid (ws.length ≤ 20 → ∀ V, Below w.heap.size w V → Calls Tryz.prog 5 #[.int .i64 20, .slice Y ws.length cy] V fun e w' => e = .returned (.bool (ws.all short20)) ∧ V = w') := zh fun h V hb => small20_any Y cy ws V (hY.keep hb) (by omega)
  have HSR : Hid (∀ r ∈ rows, r.ss.length ≤ 8 → ∀ V, Below w.heap.size w V → Calls Tryz.prog 5 #[.int .i64 20, .slice r.A r.ss.length r.c] V fun e w' => e = .returned (.bool (r.ss.all short20)) ∧ V = w') := zh fun r hr h V hb => small20_any r.A r.c r.ss V ((hX.row r hr).keep hb) (by omega)
  obtain ⟨n, hn'⟩ := eqx (rows.length); obtain ⟨m, hm'⟩ := eqx (ws.length); obtain ⟨bw, hbw⟩ := eqx (ws.all short20); have HX := zh hX; have HY := zh hY; have HT := zh (And.intro ht hT); have HBW := zh hbw; rw [hn'] at ⊢; rw [hm', hbw] at HSW; rw [hm'] at ⊢; have HN := zh hn'; have HM := zh hm'; obtain ⟨b1, hb1⟩ := eqx ((decide (18 < n) || decide (20 < m) || !bw)); have HB1 := zh hb1; clear hX hY ht hT hn' hm' hbw hb1; go_enter Tryz.func4, Tryz.ntmps4; go_upto_region 1 with (fail)
  go_cut [33] from 21 (fun s33 wx => s33 = .bool b1 ∧ wx = w)
  case first =>
   by_cases h1 : 18 < n
   ·have f1 : decide ((18 : Int) < (n : Int)) = true := dT (by omega); have f1' : decide (18 < n) = true := dT h1
    obtain rfl : b1 = true := by rw [← HB1.out, f1']; rfl
    go_wp2; go_meet; exact ⟨rfl, rfl⟩
   ·have f1 : decide ((18 : Int) < (n : Int)) = false := dF (by omega); have f1' : decide (18 < n) = false := dF h1
    by_cases h2 : 20 < m
    ·have f2 : decide ((20 : Int) < (m : Int)) = true := dT (by omega); have f2' : decide (20 < m) = true := dT h2
     obtain rfl : b1 = true := by rw [← HB1.out, f1', f2']; rfl
     go_wp2; go_meet; exact ⟨rfl, rfl⟩
    ·have f2 : decide ((20 : Int) < (m : Int)) = false := dF (by omega); have f2' : decide (20 < m) = false := dF h2
     obtain rfl : b1 = !bw := by rw [← HB1.out, f1', f2']; rfl
     go_wp2_with (go_at_call 5; refine (HSW.out (by omega) _ brf).mono ?_; rintro e w2 ⟨rfl, rfl⟩)
     go_meet; exact ⟨rfl, rfl⟩
  obtain ⟨rfl, hwx⟩ := hcut; subst hwx; obtain ⟨wz, hwz⟩ : ∃ wz : World, wz = wc := ⟨_, rfl⟩; subst hwz
  cases b1 with
  | true =>
    go_wp2_with (go_at_call 6; refine (HK.out _ brf).mono ?_; rintro e w2 ⟨rfl, hb2⟩)
    first | (go_ret; exact ⟨rfl, hb2⟩) | exact ⟨rfl, hb2⟩
  | false =>
    have hb1 := HB1.out
    have hn18 : n ≤ 18 := by
     by_cases h : 18 < n
     ·rw [dT h] at hb1; cases hb1
     ·omega
    have hm20 : m ≤ 20 := by
     by_cases h : 20 < m
     ·rw [dT h, Bool.or_true] at hb1; cases hb1
     ·omega
    have hbw : bw = true := by
     cases bw
     ·rw [Bool.not_false, Bool.or_true] at hb1; cases hb1
     ·rfl
    have HBWT := zh hbw; clear hb1 hbw; go_upto_region 4 with (fail); go_wp2
    go_loopw [7, 37] (fun s7 s37 wr => ∃ k : Nat, s7 = .int .i64 (totL rows k : Nat) ∧ s37 = .int .i64 (k : Nat) ∧ k ≤ n ∧ wr = wz ∧ Hid (totL rows k ≤ 8 * k ∧ ∀ r ∈ rows.take k, r.ss.length ≤ 8 ∧ r.ss.all short20 = true)) (fun _ s37 _ => n - (intOf s37).toNat)
    case atStart => exact ⟨0, rfl, rfl, Nat.zero_le _, rfl, zh ⟨Nat.le_refl _, by simp⟩⟩
    case round =>
     obtain ⟨k, rfl, rfl, hk, hwr, HR⟩ := hrel; obtain rfl : wz = wr := hwr.symm; clear hwr
     by_cases hkn : k = n
     ·have e1 : decide ((k : Int) < (n : Int)) = false := dF (by omega); have e1' : decide (k < n) = false := dF (by omega)
      have hRW : ∀ r ∈ rows, (∀ s ∈ r.ss, s.size ≤ 20) ∧ r.ss.length ≤ 8 := fun r hr => by
       have h1 := HR.out.2 r (by rw [List.take_of_length_le (by rw [HN.out]; omega)]; exact hr); refine ⟨fun s hs => ?_, h1.1⟩; have := List.all_eq_true.1 h1.2 s hs; exact of_decide_eq_true (show decide (s.size ≤ 20) = true from this)
      have hWS : ∀ s ∈ ws, s.size ≤ 20 := fun s hs => by
       have h1 := HBW.out; rw [HBWT.out] at h1; have := List.all_eq_true.1 h1 s hs; exact of_decide_eq_true (show decide (s.size ≤ 20) = true from this)
      have HRW := zh hRW; have HWS := zh hWS; have hts := HR.out.1; obtain ⟨T, hT⟩ := eqx (totL rows k); rw [hT] at hts ⊢; have HKN := zh hkn; clear hRW hWS hT HSR HSW HR hkn; obtain ⟨b3, hb3⟩ := eqx ((decide (40 < T) || (decide (4 < d) && decide (d ≤ 24)))); have HB3 := zh hb3; clear hb3; go_upto_region 11 with (fail)
      go_cut [64] from 55 (fun s64 wx => s64 = .bool b3 ∧ wx = wz)
      case first =>
       by_cases h1 : 40 < T
       ·have f1 : decide ((40 : Int) < (T : Int)) = true := dT (by omega); have f1' : decide (40 < T) = true := dT h1
        obtain rfl : b3 = true := by rw [← HB3.out, f1']; rfl
        go_wp2; go_meet; exact ⟨rfl, rfl⟩
       ·have f1 : decide ((40 : Int) < (T : Int)) = false := dF (by omega); have f1' : decide (40 < T) = false := dF h1
        by_cases h2 : 4 < d
        ·have f2 : decide (4 < d) = true := dT h2
         by_cases h3 : d ≤ 24
         ·have f3 : decide (d ≤ 24) = true := dT h3
          obtain rfl : b3 = true := by rw [← HB3.out, f2, f3]; simp
          go_wp2; go_meet; exact ⟨rfl, rfl⟩
         ·have f3 : decide (d ≤ 24) = false := dF h3
          obtain rfl : b3 = false := by rw [← HB3.out, f1', f2, f3]; rfl
          go_wp2; go_meet; exact ⟨rfl, rfl⟩
        ·have f2 : decide (4 < d) = false := dF h2
         obtain rfl : b3 = false := by rw [← HB3.out, f1', f2]; rfl
         go_wp2; go_meet; exact ⟨rfl, rfl⟩
      obtain ⟨rfl, hwx⟩ := hcut; subst hwx; obtain ⟨wz, hwz⟩ : ∃ wz : World, wz = wc := ⟨_, rfl⟩; subst hwz
      cases b3 with
      | true =>
        go_wp2_with (go_at_call 6; refine (HK.out _ brf).mono ?_; rintro e w2 ⟨rfl, hb2⟩)
        first | (go_ret; exact ⟨rfl, hb2⟩) | exact ⟨rfl, hb2⟩
      | false =>
        have hb3 := HB3.out
        have hd : d ≤ 4 ∨ 24 < d := by
         by_cases h2 : 4 < d
         ·by_cases h3 : d ≤ 24
          ·rw [dT h2, dT h3, Bool.and_self, Bool.or_true] at hb3; cases hb3
          ·omega
         ·omega
        obtain ⟨wE, hwE⟩ := eqx (wantE rows ws d)
        have HOF : Hid (Calls Tryz.prog 9 #[.slice X n cx, .slice Y m cy, .int .i64 d] wz (RetOf wE wz)) := zh (by
         have h := of_w X Y cx cy d rows ws wz HX.out HY.out HWS.out (fun r hr => ⟨(HRW.out r hr).1, by have := (HRW.out r hr).2; omega⟩) (by rw [HN.out]; omega) (by rw [HM.out]; omega) hd HT.out.1 HT.out.2; rw [HN.out, HM.out, hwE] at h
         exact h)
        have HWE := zh hwE; clear hb3 hwE hd e1 e1' HB3; unfold RetOf at HOF; go_wp2_with (fail); refine HOF.out.mono ?_; rintro e w1 ⟨fv, fd, FA, fm, rfl, hz0, hb1⟩; have HZ0 := zh hz0; have HB1 : Hid (Below wz.heap.size wz w1) := zh hb1; obtain ⟨W, hW⟩ := eqx (w1.alloc (.cells #[.int .i64 fv, .int .i64 fd, .slice FA fm fm] 24)); obtain ⟨g, hg⟩ := eqx (w1.heap.size); have HBF : Hid (Blk W g 24 #[.int .i64 fv, .int .i64 fd, .slice FA fm fm]) := zh (by rw [← hW, ← hg]; exact Blk.new _ _ _); have HBW : Hid (Below wz.heap.size wz W) := zh (by rw [← hW]; exact hb1.alloc hb1.size _)
        have HNW : Hid (∀ V, Below wz.heap.size wz V → Calls Tryz.prog 10 #[.slice Y m cy] V fun e w' => ∃ R m' cm, e = .returned (.tuple #[.slice R m' cm, .bool (ws.all okT)]) ∧ Below V.heap.size V w') := zh (fun V hV => by
         have h := nums_w Y cy ws V (HY.out.keep hV) (fun s hs => by have := HWS.out s hs; omega) (by rw [HM.out]; omega); rw [HM.out] at h; refine h.mono ?_; rintro e w' ⟨R, m', cm, rfl, _, hb⟩
         exact ⟨R, m', cm, rfl, hb⟩)
        have HNR : Hid (∀ r ∈ rows, ∀ V, Below wz.heap.size wz V → Calls Tryz.prog 10 #[.slice r.A r.ss.length r.c] V fun e w' => ∃ R m' cm, e = .returned (.tuple #[.slice R m' cm, .bool r.ok]) ∧ Below V.heap.size V w') := zh (fun r hr V hV => by
         refine (nums_w r.A r.c r.ss V ((HX.out.row r hr).keep hV) (fun s hs => by have := (HRW.out r hr).1 s hs; omega) (by have := (HRW.out r hr).2; omega)).mono ?_; rintro e w' ⟨R, m', cm, rfl, _, hb⟩
         exact ⟨R, m', cm, rfl, hb⟩)
        have HWW := zh hW; have HG := zh hg; obtain ⟨bn, hbn⟩ := eqx (ws.all okT); rw [hbn] at HNW; have HBN := zh hbn; clear hz0 HOF hb1 hW hg hbn HKN hts; go_upto_region 15 with (fail); rw [HWW.out, HG.out]; go_upto_region 16 with (fail); refine (HNW.out _ HBW.out).mono ?_; rintro e w2 ⟨R1, m1, cm1, rfl, hb2⟩; have HB2 : Hid (Below W.heap.size W w2) := zh hb2; clear hb2; go_wp2
        go_loopw [14, 80] (fun s14 s80 wr => ∃ (k : Nat) (b : Bool), s14 = .bool b ∧ s80 = .int .i64 (k : Nat) ∧ k ≤ n ∧ Hid (Below W.heap.size W wr) ∧ Hid (b = (bn && (rows.take k).all SRow.ok))) (fun _ s80 _ => n - (intOf s80).toNat)
        case atStart => exact ⟨0, bn, rfl, rfl, Nat.zero_le _, HB2, zh (by simp)⟩
        case round =>
         clear HB2 hk; obtain ⟨wo, rfl⟩ : ∃ wo : World, wo = wr := ⟨_, rfl⟩; obtain ⟨k, b, rfl, rfl, hk, HB, HBV⟩ := hrel
         by_cases hkn : k = n
         ·have e1 : decide ((k : Int) < (n : Int)) = false := dF (by omega); have e1' : decide (k < n) = false := dF (by omega)
          have HOK : Hid (okAll rows ws = b) := zh (by
           rw [HBV.out, List.take_of_length_le (by rw [HN.out]; omega)]; unfold okAll
           rw [HBN.out])
          clear hkn HBV; obtain ⟨c1, hc1⟩ := eqx (c1E rows ws); have HC1 := zh hc1; have HCC : Hid (c1 = 0 ∨ c1 = 1 ∨ c1 = 4) := zh (by rw [← hc1]; exact c1E_cases rows ws); clear hc1; go_upto_if 95 with (fail)
          go_cut [12] from 96 (fun s12 wx => s12 = .int .i64 c1 ∧ wx = wo)
          case first =>
           cases b with
           | false =>
             obtain rfl : c1 = 1 := by rw [← HC1.out]; unfold c1E; rw [if_pos HOK.out]
             go_wp2; go_meet; exact ⟨rfl, rfl⟩
           | true =>
             have HC2 : Hid (c1 = if shpBad rows ws then 4 else 0) := zh (by rw [← HC1.out]; unfold c1E; rw [if_neg (by rw [HOK.out]; simp)]); have HB4 : Hid (shpBad rows ws → c1 = 4) := zh (fun h => by rw [HC2.out, if_pos h]); have HB0 : Hid (¬ shpBad rows ws → c1 = 0) := zh (fun h => by rw [HC2.out, if_neg h])
             by_cases h1 : n < 1
             ·have f1 : decide ((n : Int) < 1) = true := dT (by omega); have f1' : decide (n < 1) = true := dT h1; obtain rfl : c1 = 4 := HB4.out (by unfold shpBad; rw [HN.out]; omega); clear h1; go_wp2; go_meet; exact ⟨rfl, rfl⟩
             ·have f1 : decide ((n : Int) < 1) = false := dF (by omega); have f1' : decide (n < 1) = false := dF h1
              by_cases h2 : 16 < n
              ·have f2 : decide ((16 : Int) < (n : Int)) = true := dT (by omega); have f2' : decide (16 < n) = true := dT h2; obtain rfl : c1 = 4 := HB4.out (by unfold shpBad; rw [HN.out]; omega); clear h1 h2; go_wp2; go_meet; exact ⟨rfl, rfl⟩
              ·have f2 : decide ((16 : Int) < (n : Int)) = false := dF (by omega); have f2' : decide (16 < n) = false := dF h2
               by_cases h3 : m = n
               ·obtain rfl : n = m := h3.symm
                have hkx : 0 < rows.length := by rw [HN.out]; omega
                obtain ⟨ad, hXe, hc⟩ := (HX.out.keep (below_all HBW.out HB.out)).at hkx; obtain ⟨v, hv⟩ := eqx ((rows[0]'hkx).ss.length); rw [hv] at hc; subst hXe
                have hc' : wo.cell? ad = some (.slice (rows[0]'hkx).A v (rows[0]'hkx).c) := by simpa [Addr.add] using hc
                have HLZ : Hid (lenZ rows = v) := zh (by rw [← hv]; unfold lenZ; simp [hkx]); generalize (rows[0]'hkx).A = A0 at *; generalize (rows[0]'hkx).c = C0 at *
                have q2 : (0 : Int) < (n : Int) := by omega
                clear h1 h2 h3 hc hv
                by_cases hv1 : v < 1
                ·have g1 : decide ((v : Int) < 1) = true := dT (by omega); have g1' : decide (v < 1) = true := dT hv1; obtain rfl : c1 = 4 := HB4.out (by unfold shpBad; rw [HLZ.out]; omega); clear hv1; go_wp2; go_meet; exact ⟨rfl, rfl⟩
                ·have g1 : decide ((v : Int) < 1) = false := dF (by omega); have g1' : decide (v < 1) = false := dF hv1
                 by_cases hv6 : 6 < v
                 ·have g2 : decide ((6 : Int) < (v : Int)) = true := dT (by omega); have g2' : decide (6 < v) = true := dT hv6; obtain rfl : c1 = 4 := HB4.out (by unfold shpBad; rw [HLZ.out]; omega); clear hv1 hv6; go_wp2; go_meet; exact ⟨rfl, rfl⟩
                 ·have g2 : decide ((6 : Int) < (v : Int)) = false := dF (by omega); have g2' : decide (6 < v) = false := dF hv6
                  have hn1 : ¬ n < 1 := by have := of_decide_eq_false f1'; exact this
                  have hn2 : ¬ 16 < n := by have := of_decide_eq_false f2'; exact this
                  obtain rfl : c1 = 0 := HB0.out (by unfold shpBad; rw [HLZ.out, HN.out, HM.out]; omega); clear hv1 hv6 hn1 hn2; go_wp2; go_meet; exact ⟨rfl, rfl⟩
               ·have f3 : decide ((m : Int) = (n : Int)) = false := dF (by omega); have f3' : decide (m = n) = false := dF h3
                have h3' : ¬ ((m : Int) = (n : Int)) := by omega
                obtain rfl : c1 = 4 := HB4.out (by unfold shpBad; rw [HN.out, HM.out]; omega); clear h1 h2; go_wp2; go_meet; exact ⟨rfl, rfl⟩
          obtain ⟨rfl, hwx⟩ := hcut; obtain ⟨wy, hwy⟩ : ∃ wy : World, wy = wc := ⟨_, rfl⟩; rw [← hwy] at hwx ⊢; have HBY : Hid (Below wz.heap.size wz wy) := zh (by rw [hwx]; exact below_all HBW.out HB.out); have HBFY : Hid (Blk wy g 24 #[.int .i64 fv, .int .i64 fd, .slice FA fm fm]) := zh (by rw [hwx]; exact HBF.out.keep HB.out HBF.out.lt); clear hwx hwy HOK HB e1 e1' hk; go_wp2
          go_loopw [12, 127] (fun s12 s127 wr => ∃ (k : Nat) (c : Int), s12 = .int .i64 c ∧ s127 = .int .i64 (k : Nat) ∧ k ≤ n ∧ wr = wy ∧ Hid (c2E rows c1 k = c)) (fun _ s127 _ => n - (intOf s127).toNat)
          case atStart => exact ⟨0, c1, rfl, rfl, Nat.zero_le _, rfl, zh (c2E_zero rows c1)⟩
          case round =>
           obtain ⟨k, c, rfl, rfl, hk, hwr, HCV⟩ := hrel; obtain rfl : wy = wr := hwr.symm; clear hwr
           have hc3 : c = 0 ∨ c = 1 ∨ c = 4 := by rw [← HCV.out]; exact c2E_cases HCC.out k
           by_cases hkn : k = n
           ·have e1 : decide ((k : Int) < (n : Int)) = false := dF (by omega); have e1' : decide (k < n) = false := dF (by omega); have HWF : Hid (wE = if c = 0 ∧ (d < 0 ∨ 24 < d) then 3 else c) := zh (by rw [← HWE.out, wantE_eq, HC1.out, HN.out, ← hkn, HCV.out]); clear hkn HCV; have HSM : Hid (∀ V, Calls Tryz.prog 11 #[.agg #[.int .i64 0, .int .i64 0, .slice none 0 0], .agg #[.int .i64 0, .int .i64 0, .slice none 0 0]] V fun e w' => e = .returned (.bool true) ∧ Below V.heap.size V w') := zh (fun V => same_any 0 0 none none 0 0 [] V (Sl.nil _ _ _) (Sl.nil _ _ _) (by simp))
            have key : ((c = 0 ∧ ¬ (d < 0 ∨ 24 < d)) ∧ wE = 0) ∨ ((c = 0 ∧ (d < 0 ∨ 24 < d)) ∧ wE = 3) ∨ (c = 1 ∧ wE = 1) ∨ (c = 4 ∧ wE = 4) := by
             have h := HWF.out
             rcases hc3 with rfl | rfl | rfl
             ·by_cases hd : d < 0 ∨ 24 < d
              ·rw [if_pos ⟨rfl, hd⟩] at h; exact Or.inr (Or.inl ⟨⟨rfl, hd⟩, h⟩)
              ·rw [if_neg (fun h => hd h.2)] at h; exact Or.inl ⟨⟨rfl, hd⟩, h⟩
             ·rw [if_neg (fun h => absurd h.1 (by decide))] at h; exact Or.inr (Or.inr (Or.inl ⟨rfl, h⟩))
             ·rw [if_neg (fun h => absurd h.1 (by decide))] at h; exact Or.inr (Or.inr (Or.inr ⟨rfl, h⟩))
            clear hc3 HWF HWE; have HKK := zh (HK.out wy HBY.out)
            rcases key with ⟨⟨rfl, hd⟩, rfl⟩ | ⟨⟨rfl, hd⟩, rfl⟩ | ⟨rfl, rfl⟩ | ⟨rfl, rfl⟩
            ·have q1 : decide (d < 0) = false := dF (by omega); have q2 : decide (24 < d) = false := dF (by omega); clear hd
             go_wp2_with (go_at_call 6; refine HKK.out.mono ?_; rintro e w5 ⟨rfl, hb5⟩; have HB5 := zh (below_all HBY.out hb5); clear hb5)
             go_ret; exact ⟨rfl, HB5.out⟩
            ·obtain ⟨rfl, rfl, rfl, rfl⟩ := HZ0.out (by decide)
             by_cases hd0 : d < 0
             ·have q1 : decide (d < 0) = true := dT hd0; clear hd hd0
              go_wp2_with (first
                | (go_at_call 6; refine HKK.out.mono ?_; rintro e w5 ⟨rfl, hb5⟩; have HB5 := zh (below_all HBY.out hb5); have Y0 := HBFY.out.keep hb5 HBFY.out.lt; obtain ⟨x0, x1, x2, _, _, _⟩ := Y0.three; clear hb5 Y0)
                | (go_at_call 11; refine (HSM.out _).mono ?_; rintro e w6 ⟨rfl, hb6⟩; have HB6 := zh (below_all HB5.out hb6); clear hb6))
              go_ret; exact ⟨rfl, HB6.out⟩
             ·have q1 : decide (d < 0) = false := dF hd0; have q2 : decide (24 < d) = true := dT (by omega); clear hd hd0
              go_wp2_with (first
                | (go_at_call 6; refine HKK.out.mono ?_; rintro e w5 ⟨rfl, hb5⟩; have HB5 := zh (below_all HBY.out hb5); have Y0 := HBFY.out.keep hb5 HBFY.out.lt; obtain ⟨x0, x1, x2, _, _, _⟩ := Y0.three; clear hb5 Y0)
                | (go_at_call 11; refine (HSM.out _).mono ?_; rintro e w6 ⟨rfl, hb6⟩; have HB6 := zh (below_all HB5.out hb6); clear hb6))
              go_ret; exact ⟨rfl, HB6.out⟩
            ·obtain ⟨rfl, rfl, rfl, rfl⟩ := HZ0.out (by decide)
             go_wp2_with (first
               | (go_at_call 6; refine HKK.out.mono ?_; rintro e w5 ⟨rfl, hb5⟩; have HB5 := zh (below_all HBY.out hb5); have Y0 := HBFY.out.keep hb5 HBFY.out.lt; obtain ⟨x0, x1, x2, _, _, _⟩ := Y0.three; clear hb5 Y0)
               | (go_at_call 11; refine (HSM.out _).mono ?_; rintro e w6 ⟨rfl, hb6⟩; have HB6 := zh (below_all HB5.out hb6); clear hb6))
             go_ret; exact ⟨rfl, HB6.out⟩
            ·obtain ⟨rfl, rfl, rfl, rfl⟩ := HZ0.out (by decide)
             go_wp2_with (first
               | (go_at_call 6; refine HKK.out.mono ?_; rintro e w5 ⟨rfl, hb5⟩; have HB5 := zh (below_all HBY.out hb5); have Y0 := HBFY.out.keep hb5 HBFY.out.lt; obtain ⟨x0, x1, x2, _, _, _⟩ := Y0.three; clear hb5 Y0)
               | (go_at_call 11; refine (HSM.out _).mono ?_; rintro e w6 ⟨rfl, hb6⟩; have HB6 := zh (below_all HB5.out hb6); clear hb6))
             go_ret; exact ⟨rfl, HB6.out⟩
           ·have hkl : k < n := by omega
            have e1 : decide ((k : Int) < (n : Int)) = true := dT (by omega); have e1' : decide (k < n) = true := dT hkl
            have hkx : k < rows.length := by rw [HN.out]; exact hkl
            have hk0 : 0 < rows.length := by rw [HN.out]; omega
            have q0 : (0 : Int) ≤ (k : Int) := by omega
            have q1 : (k : Int) < (n : Int) := by omega
            have q2 : (0 : Int) < (n : Int) := by omega
            obtain ⟨R, hR⟩ := eqx (rows[k]); have hXY := HX.out.keep HBY.out; obtain ⟨ad, rfl, hc⟩ := hXY.at hkx; obtain ⟨ad', had', hc0⟩ := hXY.at hk0
            injection had' with had'
            subst had'; rw [hR] at hc; obtain ⟨v, hv⟩ := eqx ((rows[0]'hk0).ss.length); rw [hv] at hc0
            have hc0' : wy.cell? ad = some (.slice (rows[0]'hk0).A v (rows[0]'hk0).c) := by simpa [Addr.add] using hc0
            have HLZ : Hid (lenZ rows = v) := zh (by rw [← hv]; unfold lenZ; simp [hk0]); have HTK : Hid (rows.take (k + 1) = rows.take k ++ [R]) := zh (by rw [List.take_succ_eq_append_getElem hkx, hR]); obtain ⟨len, hlen⟩ := eqx (R.ss.length); rw [hlen] at hc; have HLEN := zh hlen; have HSUC : Hid (c2E rows c1 (k + 1) = if c = 0 ∧ len ≠ v then 4 else c) := zh (by rw [c2E_succ HTK.out, HCV.out, HLEN.out, HLZ.out]); generalize R.A = RA at *; generalize R.c = Rc at *; generalize (rows[0]'hk0).A = A0 at *; generalize (rows[0]'hk0).c = C0 at *; clear hkn hR hXY hv hlen hc0 HCV
            rcases hc3 with rfl | rfl | rfl
            ·by_cases hlv : len = v
             ·obtain rfl : v = len := hlv.symm; clear hlv; go_wp2; go_roundw
              case rel => exact ⟨k + 1, 0, rfl, by go_num, by omega, (by first | rfl | trivial), zh (by rw [HSUC.out, if_neg (fun h => h.2 rfl)])⟩
              case measure => simp [intOf]; omega
             ·have d1 : decide ((len : Int) = (v : Int)) = false := dF (by omega); have d1' : decide (len = v) = false := dF hlv
              have hlv' : ¬ ((len : Int) = (v : Int)) := by omega
              have HLV := zh hlv; go_wp2; go_roundw
              case rel => exact ⟨k + 1, 4, rfl, by go_num, by omega, (by first | rfl | trivial), zh (by rw [HSUC.out, if_pos ⟨rfl, HLV.out⟩])⟩
              case measure => simp [intOf]; omega
            ·go_wp2; go_roundw
             case rel => exact ⟨k + 1, 1, rfl, by go_num, by omega, (by first | rfl | trivial), zh (by rw [HSUC.out, if_neg (fun h => absurd h.1 (by decide))])⟩
             case measure => simp [intOf]; omega
            ·go_wp2; go_roundw
             case rel => exact ⟨k + 1, 4, rfl, by go_num, by omega, (by first | rfl | trivial), zh (by rw [HSUC.out, if_neg (fun h => absurd h.1 (by decide))])⟩
             case measure => simp [intOf]; omega
         ·have hkl : k < n := by omega
          have e1 : decide ((k : Int) < (n : Int)) = true := dT (by omega); have e1' : decide (k < n) = true := dT hkl
          have hkx : k < rows.length := by rw [HN.out]; exact hkl
          have q0 : (0 : Int) ≤ (k : Int) := by omega
          have q1 : (k : Int) < (n : Int) := by omega
          obtain ⟨R, hR⟩ := eqx (rows[k])
          have hRm : R ∈ rows := by rw [← hR]; exact List.getElem_mem hkx
          have hBA := below_all HBW.out HB.out; obtain ⟨ad, rfl, hc⟩ := (HX.out.keep hBA).at hkx; rw [hR] at hc; have HTK : Hid (rows.take (k + 1) = rows.take k ++ [R]) := zh (by rw [List.take_succ_eq_append_getElem hkx, hR]); have HC := zh (HNR.out R hRm wo hBA); obtain ⟨br, hbr⟩ := eqx (R.ok); rw [hbr] at HC; have HBE : Hid ((b && br) = (bn && (rows.take (k + 1)).all SRow.ok)) := zh (by rw [HTK.out, List.all_append, HBV.out, ← hbr]; simp [Bool.and_assoc]); generalize R.ss.length = len at *; generalize R.A = RA at *; generalize R.c = Rc at *; clear hkn hR hRm hBA hbr
          cases b with
          | false =>
            go_wp2_with (go_at_call 10; refine HC.out.mono ?_; rintro e w3 ⟨R3, m3, cm3, rfl, hb3⟩; have HB3 := zh (below_all HB.out hb3); clear hb3)
            go_roundw
            case rel => exact ⟨k + 1, false, rfl, by go_num, by omega, HB3, zh (by rw [← HBE.out]; rfl)⟩
            case measure => simp [intOf]; omega
          | true =>
            go_wp2_with (go_at_call 10; refine HC.out.mono ?_; rintro e w3 ⟨R3, m3, cm3, rfl, hb3⟩; have HB3 := zh (below_all HB.out hb3); clear hb3)
            go_roundw
            case rel => exact ⟨k + 1, br, rfl, by go_num, by omega, HB3, zh (by rw [← HBE.out]; rfl)⟩
            case measure => simp [intOf]; omega
     ·have hkl : k < n := by omega
      have e1 : decide ((k : Int) < (n : Int)) = true := dT (by omega); have e1' : decide (k < n) = true := dT hkl
      have hkx : k < rows.length := by rw [HN.out]; exact hkl
      have q0 : (0 : Int) ≤ (k : Int) := by omega
      have q1 : (k : Int) < (n : Int) := by omega
      obtain ⟨R, hR⟩ := eqx (rows[k])
      have hRm : R ∈ rows := by rw [← hR]; exact List.getElem_mem hkx
      obtain ⟨ad, rfl, hc⟩ := HX.out.at hkx; rw [hR] at hc; have HTK : Hid (rows.take (k + 1) = rows.take k ++ [R]) := zh (by rw [List.take_succ_eq_append_getElem hkx, hR])
      have HTS : Hid (totL rows (k + 1) = totL rows k + R.ss.length) := zh (by
       show totL rows k + _ = _
       congr 1
       simp [hkx, hR])
      have HC := zh (HSR.out R hRm); have hts := HR.out.1; clear hkn hR hRm; obtain ⟨len, hlen⟩ := eqx (R.ss.length); rw [hlen] at HC HTS hc; have HLEN := zh hlen; clear hlen; generalize R.A = RA at *; generalize R.c = Rc at *; obtain ⟨T, hT⟩ := eqx (totL rows k); rw [hT] at HTS hts ⊢; clear hT; obtain ⟨br, hbr⟩ := eqx (R.ss.all short20); rw [hbr] at HC; have HBR := zh hbr; clear hbr; obtain ⟨S, hS⟩ := eqx (wrap64 ((T : Int) + (len : Int))); go_upto_region 8 with (fail); rw [hS]; have HS := zh hS; clear hS
      by_cases h1 : 8 < len
      ·have f1 : decide ((8 : Int) < (len : Int)) = true := dT (by omega); have f1' : decide (8 < len) = true := dT h1
       go_wp2_with (go_at_call 6; refine (HK.out _ brf).mono ?_; rintro e w2 ⟨rfl, hb2⟩)
       first | (go_ret; exact ⟨rfl, hb2⟩) | exact ⟨rfl, hb2⟩
      ·have f1 : decide ((8 : Int) < (len : Int)) = false := dF (by omega); have f1' : decide (8 < len) = false := dF h1; have HCC := zh (HC.out (by omega) wz brf)
       cases br with
       | false =>
         go_wp2_with (first
           | (go_at_call 5; refine HCC.out.mono ?_; rintro e w2 ⟨rfl, rfl⟩)
           | (go_at_call 6; refine (HK.out _ brf).mono ?_; rintro e w2 ⟨rfl, hb2⟩))
         first | (go_ret; exact ⟨rfl, hb2⟩) | exact ⟨rfl, hb2⟩
       | true =>
         have HHW : Hid (S = ((T + len : Nat) : Int)) := zh (by rw [← HS.out]; unfold wrap64; omega); have HL8 : Hid (len ≤ 8) := zh (by omega)
         go_wp2_with (go_at_call 5; refine HCC.out.mono ?_; rintro e w2 ⟨rfl, rfl⟩)
         go_roundw
         case rel =>
          refine ⟨k + 1, by rw [HTS.out, HHW.out], by go_num, by omega, by first | rfl | trivial, zh ⟨?_, ?_⟩⟩
          ·rw [HTS.out]; have := HL8.out; omega
          ·rw [HTK.out]; intro r h
           rcases List.mem_append.1 h with h | h
           ·exact HR.out.2 r h
           ·simp at h; subst h; exact ⟨by rw [HLEN.out]; exact HL8.out, HBR.out⟩
         case measure => simp [intOf]; omega
end
end Go.Proofs.Tg.Fi
