/- Parts of the proof: NU11, NU13, NU14. -/
import Derived.Deep.CutBlock
import Derived.Test.YtpiedheafppnhaaGreatDoorMSF1
import Derived.Test.YtpiedheafppnhaaGreatDoorMSF14
import Derived.Test.YtpiedheafppnhaaGreatDoorMSF15
section
/- The harness's numbers: the decimal digits of a number below 10^9. -/
namespace Go.Proofs.Tg
open Go.RowKit Go.Gr Go.Qn
set_option maxHeartbeats 2000000
set_option maxRecDepth 100000
def dg (v : Nat) : List UInt8 := if v = 0 then [] else Lib.decDigits v
theorem dg_zero : dg 0 = [] := rfl
theorem dg_step (x r : Nat) (hr : r < 10) (h : ¬ (x = 0 ∧ r = 0)) : dg (10 * x + r) = dg x ++ [UInt8.ofNat (48 + r)] := by
  unfold dg
  rw [if_neg (by omega)]
  by_cases h0 : x = 0
  · subst h0
    rw [if_pos rfl, Lib.decDigits, dif_pos (by omega)]; simp
  · rw [if_neg h0, Lib.decDigits, dif_neg (by omega), show (10 * x + r) / 10 = x by omega, show (10 * x + r) % 10 = r by omega]
theorem pow_split (v j : Nat) : v / 10 ^ j = 10 * (v / 10 ^ (j + 1)) + v / 10 ^ j % 10 := by
  have : v / 10 ^ (j + 1) = v / 10 ^ j / 10 := by rw [Nat.pow_succ, Nat.div_div_eq_div_mul]
  rw [this]; omega
theorem digits_nil (b : Bool) (A : Option Addr) (c : Nat) (w : World) :
    Calls Tryz.prog 79 #[.agg #[.bool b, .slice A 0 c]] w fun e w' => e = .returned (.string ⟨#[48]⟩) ∧ Below w.heap.size w w' := by
  have hbA : Below w.heap.size w (w.alloc (.cells #[.bool b, .slice A 0 c] 46)) := (Below.refl _ _).alloc (Nat.le_refl _) _
  go_enter Tryz.func79, Tryz.ntmps79
  go_wp2
  go_ret
  exact ⟨rfl, hbA⟩
theorem digits_one (b : Bool) (A : Option Addr) (c v : Nat) (w : World) (hA : Digs w A [v]) (hv : v < 1000000000) (hv0 : v ≠ 0) :
    Calls Tryz.prog 79 #[.agg #[.bool b, .slice A 1 c]] w fun e w' => e = .returned (.string (bs (Lib.decDigits v))) ∧ Below w.heap.size w w' := by
  have hbA : Below w.heap.size w (w.alloc (.cells #[.bool b, .slice A 1 c] 46)) := (Below.refl _ _).alloc (Nat.le_refl _) _
  have HDV : Hid (dg v = Lib.decDigits v) := Lib.hid (by unfold dg; rw [if_neg hv0])
  have HS : Hid (∀ W, Below w.heap.size w W → Calls Tryz.prog 85 #[.slice A 1 c, .int .u32 1000000000] W fun e w' => e = .returned (.tuple #[.slice (some ⟨W.heap.size, 0, none⟩) 0 1, .int .u32 (v : Nat)]) ∧ Below W.heap.size W w') := Lib.hid (fun W hW => by
    have h1 := sdiv_one A c v 1000000000 W (hA.keep hW) (by omega) (by omega) (by omega)
    rw [Nat.div_eq_of_lt hv, Nat.mod_eq_of_lt hv] at h1
    exact h1.mono fun e w' ⟨h1, _, h3⟩ => ⟨h1, h3⟩)
  obtain ⟨i0, hi, hz0, hz1, hz2⟩ := info_parts dig_info
  obtain ⟨ib, hib, hbz0, hbz1, hbz2⟩ := info_parts byte_info
  clear hA hv0
  go_enter Tryz.func79, Tryz.ntmps79
  go_wp2
  refine wp_loop_rounds 2 ?_
  rw [rounds_succ]
  go_wp2_with (first
    | (go_at_call 85; refine (HS.out _ hbA).mono ?_; rintro e w1 ⟨rfl, hb1⟩; have hs1 : w.heap.size + 1 ≤ w1.heap.size := by (have := hb1.size; simpa using this))
    | (at_builtin; refine wpList_append_own _ rfl _ _ 44 rfl w.heap.size 117 i0 (.int .u32 0) 1 4 Tryz.underlying44 hi hz0 hz1 hz2 rfl (by decide) (.slice none 0 0) 0 [] rfl (World.ownsRow_nil _ _ _ _) ⟨w1.heap.size, 0, none⟩ 1 1 [.int .u32 v] rfl rfl ?c1 ?c2 ?c3 ?c4 ?c5 ?_
       case c1 => exact cell_one_new _ _ _
       case c2 => simp [Value.oneCell']
       case c3 => simp only [maxLen]; omega
       case c4 => omega
       case c5 => simp; omega
       intro v' w2 hown' hgrow _
       obtain ⟨R, cr, hvv, hcr, hS⟩ := Sl.of_own hown'
       subst hvv))
  have hb1' := hbA.trans (hb1.mono (by simp))
  have hb2 : Below w.heap.size w w2 := (hb1'.alloc hb1'.size _).grown hgrow (by simp; have := hb1'.size; omega) (fun k hk => by simp [Value.ownBlock] at hk)
  obtain ⟨pd, rfl, hp0⟩ := Sl.at1 hS (k := 0) (by simp)
  have hp : w2.cell? pd = some (.int .u32 (v : Nat)) := by simpa [Addr.add] using hp0
  clear hp0
  clear hgrow hS hb1 hb1' hbA
  rw [rounds_succ]
  go_wp2
  refine wp_loop_rounds 2 ?_
  rw [rounds_succ]
  go_wp2
  go_loopw [7, 9] (fun s7 s9 wr => ∃ (j dv : Nat) (O : Option Addr) (co : Nat) (L : List UInt8), s7 = .slice O L.length co ∧ s9 = .int .u32 dv ∧ j ≤ 9 ∧ dv ≤ 100000000 ∧ Hid (dv = 10 ^ j / 10) ∧ Hid (L = dg (v / 10 ^ j)) ∧ L.length + j ≤ 9 ∧ wr.ownsRow w2.heap.size 5 1 (.slice O L.length co) L.length (L.map vb) ∧ Below w2.heap.size w2 wr) (fun _ s9 _ => (intOf s9).toNat)
  case atStart => exact ⟨9, 100000000, none, 0, [], rfl, rfl, by omega, by omega, Lib.hid (by decide), Lib.hid (by rw [Nat.div_eq_of_lt (by simpa using hv)]; rfl), by simp, World.ownsRow_nil _ _ _ _, Below.refl _ _⟩
  case round =>
    obtain ⟨wo, rfl⟩ : ∃ wo : World, wo = wr := ⟨_, rfl⟩
    obtain ⟨j, dv, O, co, L, rfl, rfl, hj, hdv, HDD, HL, hLj, hown, hbr⟩ := hrel
    cases j with
    | zero =>
      obtain rfl : dv = 0 := HDD.out
      obtain ⟨O', co', hvv, hcc, hS⟩ := Sl.of_own hown
      injection hvv with e1 e2 e3
      subst e1 e3
      have hconv := conv_name wo O co L hS
      have HF : Hid (L = Lib.decDigits v) := Lib.hid (by rw [HL.out, Nat.pow_zero, Nat.div_one, HDV.out])
      clear hown hS hcc
      go_wp2
      rw [rounds_succ]
      go_wp2
      go_ret
      have hf := HF.out
      subst hf
      exact ⟨rfl, below_all hb2 hbr⟩
    | succ j =>
      have e10 : 10 ^ (j + 1) / 10 = 10 ^ j := by rw [Nat.pow_succ]; omega
      have hpos : 0 < 10 ^ j := Nat.pow_pos (by omega)
      have hdv' := HDD.out
      rw [e10] at hdv'
      have hdp : 0 < dv := by omega
      have HPS := Lib.hid (pow_split v j)
      have hrl : v / dv % 10 < 10 := Nat.mod_lt _ (by omega)
      have hql : v / dv ≤ v := Nat.div_le_self _ _
      rw [← hdv'] at HPS
      have HDV2 := Lib.hid hdv'
      clear hdv' hpos e10
      obtain ⟨q, hq⟩ : ∃ q, v / dv = q := ⟨_, rfl⟩
      obtain ⟨r, hr⟩ : ∃ r, q % 10 = r := ⟨_, rfl⟩
      have hq1 : (v : Int) / (dv : Int) = (q : Int) := by rw [← hq]; simp
      have hr1 : (q : Int) % 10 = (r : Int) := by rw [← hr]; simp
      rw [hq, hr] at HPS hrl
      rw [hq] at hql
      have HQ : Hid (v / 10 ^ j = q) := Lib.hid (by rw [← HDV2.out]; exact hq)
      obtain ⟨x, hx⟩ : ∃ x, v / 10 ^ (j + 1) = x := ⟨_, rfl⟩
      rw [hx] at HL HPS
      clear hx hq hr
      have hcp := keep_cell hbr hp
      have hwr : ((48 : Int) + (r : Int)) % 4294967296 = 48 + (r : Int) := by omega
      have hw8 : ((48 : Int) + (r : Int)) % 256 = 48 + (r : Int) := by omega
      obtain ⟨dn, hdn⟩ : ∃ dn, dv / 10 = dn := ⟨_, rfl⟩
      have HDN : Hid (dn = 10 ^ j / 10) := Lib.hid (by rw [← hdn, HDV2.out])
      have hdn1 : (dv : Int).tdiv 10 = (dn : Int) := by rw [← hdn]; exact (Int.ofNat_tdiv dv 10).symm
      have hdn2 : (dv : Int) / 10 = (dn : Int) := by rw [← hdn]; simp
      have hdnl : dn < dv := by omega
      clear hdn
      have HX0 : Hid (L = [] ↔ x = 0) := Lib.hid (by
        rw [HL.out]
        unfold dg
        by_cases h : x = 0
        · simp [h]
        · simp only [h, iff_false]
          exact Qn.dec_ne x)
      have hsz := hbr.size
      by_cases hz : x = 0 ∧ r = 0
      · have HL2 : Hid (L = dg (v / 10 ^ j)) := Lib.hid (by rw [HQ.out, HPS.out, HL.out, hz.1, hz.2])
        have hL0 := HX0.out.2 hz.1
        have hd0 : decide ((0 : Int) < (L.length : Int)) = false := by rw [hL0]; rfl
        have hd0' : decide (0 < L.length) = false := by rw [hL0]; rfl
        have hr0 : ((48 : Int) + (r : Int) != 48) = false := by rw [hz.2]; rfl
        clear HL HPS hL0 hz
        go_wp2
        go_roundw
        case rel => exact ⟨j, dn, O, co, L, rfl, rfl, by omega, by omega, HDN, HL2, by omega, hown, hbr⟩
        case measure => simp [intOf]; omega
      · have HL2 : Hid (L ++ [UInt8.ofNat (48 + r)] = dg (v / 10 ^ j)) := Lib.hid (by rw [HQ.out, HPS.out, dg_step x r hrl hz, HL.out])
        have hvb : Value.int .u8 (48 + (r : Int)) = vb (UInt8.ofNat (48 + r)) := by
          have : (UInt8.ofNat (48 + r)).toNat = 48 + r := Qn.toNat_ofNat _ (by omega)
          unfold vb; rw [this]; simp
        have HVB := Lib.hid hvb
        clear hvb
        by_cases hL0 : L = []
        · have hr0 : ((48 : Int) + (r : Int) != 48) = true := by
            have hx0 := HX0.out.1 hL0
            simp; omega
          have hd0 : decide ((0 : Int) < (L.length : Int)) = false := by rw [hL0]; rfl
          have hd0' : decide (0 < L.length) = false := by rw [hL0]; rfl
          clear HL HPS hz hL0
          go_wp2_with (at_builtin; refine wpList_append_own _ rfl _ _ 150 rfl w2.heap.size 5 ib (.int .u8 0) 1 1 Tryz.underlying150 hib hbz0 hbz1 hbz2 rfl (by decide) (.slice O L.length co) L.length (L.map vb) rfl (hown.alloc _) ⟨wo.heap.size, 0, none⟩ 1 1 [.int .u8 (48 + (r : Int))] rfl rfl ?c1 ?c2 ?c3 ?c4 ?c5 ?_
                       case c1 => exact cell_one_new _ _ _
                       case c2 => simp [Value.oneCell']
                       case c3 => simp only [maxLen]; omega
                       case c4 => omega
                       case c5 => simp; omega
                       intro v' w3 hown' hgrow _)
          obtain ⟨R, cr2, hvv, hcr2, hS⟩ := Sl.of_own hown'
          subst hvv
          go_roundw
          case rel =>
            refine ⟨j, dn, R, cr2, L ++ [UInt8.ofNat (48 + r)], by simp, rfl, by omega, by omega, HDN, HL2, by simp; omega, ?_, ?_⟩
            · rw [HVB.out] at hown'
              simpa using hown'
            · exact (hbr.alloc hbr.size _).grown hgrow (by simp; omega) (fun j hj => (hown.lt j hj).1)
          case measure => simp [intOf]; omega
        · have hLp : 0 < L.length := List.length_pos_iff.2 hL0
          have hd0 : decide ((0 : Int) < (L.length : Int)) = true := by simp; omega
          have hd0' : decide (0 < L.length) = true := by simp; omega
          clear HL HPS hz hL0
          go_wp2_with (at_builtin; refine wpList_append_own _ rfl _ _ 150 rfl w2.heap.size 5 ib (.int .u8 0) 1 1 Tryz.underlying150 hib hbz0 hbz1 hbz2 rfl (by decide) (.slice O L.length co) L.length (L.map vb) rfl (hown.alloc _) ⟨wo.heap.size, 0, none⟩ 1 1 [.int .u8 (48 + (r : Int))] rfl rfl ?c1 ?c2 ?c3 ?c4 ?c5 ?_
                       case c1 => exact cell_one_new _ _ _
                       case c2 => simp [Value.oneCell']
                       case c3 => simp only [maxLen]; omega
                       case c4 => omega
                       case c5 => simp; omega
                       intro v' w3 hown' hgrow _)
          obtain ⟨R, cr2, hvv, hcr2, hS⟩ := Sl.of_own hown'
          subst hvv
          go_roundw
          case rel =>
            refine ⟨j, dn, R, cr2, L ++ [UInt8.ofNat (48 + r)], by simp, rfl, by omega, by omega, HDN, HL2, by simp; omega, ?_, ?_⟩
            · rw [HVB.out] at hown'
              simpa using hown'
            · exact (hbr.alloc hbr.size _).grown hgrow (by simp; omega) (fun j hj => (hown.lt j hj).1)
          case measure => simp [intOf]; omega
end Go.Proofs.Tg
end
section
/- The harness's numbers: the text of a fraction. -/
namespace Go.Proofs.Tg
open Go.RowKit Go.Gr Go.Qn
set_option maxHeartbeats 2000000
set_option maxRecDepth 100000
theorem dig_any (b : Bool) (A : Option Addr) (c v : Nat) (w : World) (hA : Digs w A (mg v)) (hv : v < 1000000000) :
    Calls Tryz.prog 79 #[.agg #[.bool b, .slice A (mg v).length c]] w fun e w' => e = .returned (.string (bs (Lib.decDigits v))) ∧ Below w.heap.size w w' := by
  by_cases h0 : v = 0
  · subst h0
    rw [dec_zero]
    exact digits_nil b A c w
  · rw [mg_pos h0] at hA ⊢
    exact digits_one b A c v w hA hv h0
theorem dl_pos {m : Nat} (h1 : m ≠ 1) : dl m = mg m := by unfold dl; rw [if_neg h1]
theorem dl_one : dl 1 = [] := rfl
theorem dec_len (k : Nat) : ∀ n, n < 10 ^ (k + 1) → (Lib.decDigits n).length ≤ k + 1 := by
  induction k with
  | zero =>
    intro n hn
    rw [Lib.decDigits, dif_pos (by simpa using hn)]; simp
  | succ k ih =>
    intro n hn
    by_cases h : n < 10
    · rw [Lib.decDigits, dif_pos h]; simp
    · rw [Lib.decDigits, dif_neg h, List.length_append]
      have := ih (n / 10) (by rw [Nat.pow_succ] at hn; omega)
      simp; omega
theorem bs_app (a b : List UInt8) : bs (a ++ b) = bs a ++ bs b := by
  rw [← bs_self (bs a ++ bs b)]
  congr 1
theorem text_any (p q : Bool) (N D : Option Addr) (cn cd n m : Nat) (w : World) (hN : Digs w N (mg n)) (hD : Digs w D (dl m)) (hn : n < 1000000000) (hm : m < 1000000000) (hm0 : m ≠ 0) :
    Calls Tryz.prog 68 #[.agg #[.bool p, .slice N (mg n).length cn, .bool q, .slice D (dl m).length cd]] w fun e w' => e = .returned (.string (bs (text p n m))) ∧ Below w.heap.size w w' := by
  have H1 : Hid (∀ W, Below w.heap.size w W → Calls Tryz.prog 79 #[.agg #[.bool p, .slice N (mg n).length cn]] W fun e w' => e = .returned (.string (bs (Lib.decDigits n))) ∧ Below W.heap.size W w') := Lib.hid (fun W h => dig_any p N cn n W (hN.keep h) hn)
  obtain ⟨nn, hnn⟩ : ∃ nn, (mg n).length = nn := ⟨_, rfl⟩
  rw [hnn] at H1 ⊢
  have HT : Hid (bs (text p n m) = (if p = true then ⟨#[45]⟩ ++ bs (Lib.decDigits n) else bs (Lib.decDigits n)) ++ (if m = 1 then ByteArray.empty else ⟨#[47]⟩ ++ bs (Lib.decDigits m))) := Lib.hid (by
    unfold text
    rw [bs_app, bs_app]
    have e1 : bs (if p = true then [45] else []) ++ (bs (Lib.decDigits n) ++ bs (if m = 1 then [] else 47 :: Lib.decDigits m)) = (if p = true then ⟨#[45]⟩ ++ bs (Lib.decDigits n) else bs (Lib.decDigits n)) ++ bs (if m = 1 then [] else 47 :: Lib.decDigits m) := by
      rw [← bs_app, ← bs_app, ← List.append_assoc, bs_app]
      congr 1
      cases p with
      | true => rw [if_pos rfl, if_pos rfl, bs_app]; rfl
      | false => simp
    rw [e1]
    congr 1
    by_cases h : m = 1
    · rw [if_pos h, if_pos h]; rfl
    · rw [if_neg h, if_neg h, show (47 :: Lib.decDigits m) = [47] ++ Lib.decDigits m from rfl, bs_app]; rfl)
  have l1 : (bs (Lib.decDigits n)).size ≤ 9 := by rw [bs_size]; exact dec_len 8 n hn
  have l2 : (bs (Lib.decDigits m)).size ≤ 9 := by rw [bs_size]; exact dec_len 8 m hm
  obtain ⟨SN, hSN⟩ : ∃ SN, bs (Lib.decDigits n) = SN := ⟨_, rfl⟩
  obtain ⟨SM, hSM⟩ : ∃ SM, bs (Lib.decDigits m) = SM := ⟨_, rfl⟩
  obtain ⟨ST, hST⟩ : ∃ ST, bs (text p n m) = ST := ⟨_, rfl⟩
  rw [hST] at HT ⊢
  rw [hSN] at H1 HT l1
  rw [hSM] at HT l2
  have HSM := Lib.hid hSM
  clear hSN hSM hST
  have BA := Blk.new w 48 #[.bool p, .slice N nn cn, .bool q, .slice D (dl m).length cd]
  have hbA : Below w.heap.size w (w.alloc (.cells #[.bool p, .slice N nn cn, .bool q, .slice D (dl m).length cd] 48)) := (Below.refl _ _).alloc (Nat.le_refl _) _
  clear hnn
  by_cases h1 : m = 1
  · subst h1
    rw [dl_one] at BA hbA ⊢
    simp only [List.length_nil] at BA hbA ⊢
    rw [if_pos rfl] at HT
    cases p with
    | false =>
      go_enter Tryz.func68, Tryz.ntmps68
      go_wp2_with (go_at_call 79; refine (H1.out _ hbA).mono ?_; rintro e w2 ⟨rfl, hb2⟩
                   have B2 := BA.keep hb2 BA.lt
                   obtain ⟨a0, a1, a2, a3, _, _, _, _⟩ := B2.four)
      go_ret
      refine ⟨?_, below_all hbA hb2⟩
      rw [HT.out, if_neg (by simp)]
      simp
    | true =>
      go_enter Tryz.func68, Tryz.ntmps68
      go_wp2_with (go_at_call 79; refine (H1.out _ hbA).mono ?_; rintro e w2 ⟨rfl, hb2⟩
                   have B2 := BA.keep hb2 BA.lt
                   obtain ⟨a0, a1, a2, a3, _, _, _, _⟩ := B2.four)
      go_ret
      refine ⟨?_, below_all hbA hb2⟩
      rw [HT.out, if_pos trivial]
      simp
  · have H2 : Hid (∀ W, Below w.heap.size w W → Calls Tryz.prog 79 #[.agg #[.bool q, .slice D 1 cd]] W fun e w' => e = .returned (.string SM) ∧ Below W.heap.size W w') := Lib.hid (fun W h => by
      rw [dl_pos h1] at hD
      have := dig_any q D cd m W (hD.keep h) hm
      rw [mg_pos hm0, HSM.out] at this
      exact this)
    have hdl : (dl m).length = 1 := by rw [dl_pos h1, mg_pos hm0]; rfl
    rw [hdl] at BA hbA ⊢
    rw [if_neg h1] at HT
    clear hdl hD
    cases p with
    | false =>
      go_enter Tryz.func68, Tryz.ntmps68
      go_wp2_with (fail)
      refine (H1.out _ hbA).mono ?_
      rintro e w2 ⟨rfl, hb2⟩
      have B2 := BA.keep hb2 BA.lt
      obtain ⟨a0, a1, a2, a3, _, _, _, _⟩ := B2.four
      have hbz := below_all hbA hb2
      go_wp2_with (fail)
      refine (H2.out _ hbz).mono ?_
      rintro e w3 ⟨rfl, hb3⟩
      go_wp2_with (fail)
      go_ret
      refine ⟨?_, below_all hbz hb3⟩
      rw [HT.out, if_neg (by simp)]
      rfl
    | true =>
      go_enter Tryz.func68, Tryz.ntmps68
      go_wp2_with (fail)
      refine (H1.out _ hbA).mono ?_
      rintro e w2 ⟨rfl, hb2⟩
      have B2 := BA.keep hb2 BA.lt
      obtain ⟨a0, a1, a2, a3, _, _, _, _⟩ := B2.four
      have hbz := below_all hbA hb2
      go_wp2_with (fail)
      refine (H2.out _ hbz).mono ?_
      rintro e w3 ⟨rfl, hb3⟩
      go_wp2_with (fail)
      go_ret
      refine ⟨?_, below_all hbz hb3⟩
      rw [HT.out, if_pos trivial]
      rfl
end Go.Proofs.Tg
end
section
/- The harness's numbers: a number read. -/
namespace Go.Proofs.Tg
open Go.RowKit Go.Gr Go.Qn
set_option maxHeartbeats 2000000
set_option maxRecDepth 100000
def RetRRead (l : List UInt8) (w : World) (e : Ending) (w' : World) : Prop :=
  Below w.heap.size w w' ∧ ((rd l = none ∧ ∃ x A n c y B m d, e = .returned (.tuple #[.agg #[.bool x, .slice A n c, .bool y, .slice B m d], .bool false])) ∨
    (∃ b n m, rd l = some (b, n, m) ∧ n < 1000000000 ∧ m < 1000000000 ∧ m ≠ 0 ∧ ∃ N cn D cd, e = .returned (.tuple #[.agg #[.bool b, .slice N (mg n).length cn, .bool false, .slice D (dl m).length cd], .bool true]) ∧ Digs w' N (mg n) ∧ Digs w' D (dl m)))
theorem tw47 (r : List UInt8) (k : Nat) (h : ∀ c ∈ r.take k, ne47 c = true) (hx : r.length ≤ k ∨ ∃ h : k < r.length, ne47 r[k] = false) : (r.takeWhile ne47).length = min k r.length := by
  rw [(tw_at r k h hx).1, List.length_take]
theorem drop47 {r : List UInt8} (h : (r.takeWhile ne47).length < r.length) : ∃ t, r.dropWhile ne47 = 47 :: t ∧ t = r.drop ((r.takeWhile ne47).length + 1) := by
  have e := List.takeWhile_append_dropWhile (p := ne47) (l := r)
  cases hd : r.dropWhile ne47 with
  | nil =>
    rw [hd, List.append_nil] at e
    rw [e] at h; omega
  | cons c t =>
    have hc : ne47 c = false := by
      have := List.head?_dropWhile_not ne47 r
      rw [hd] at this
      simpa using this
    have hc' : c = 47 := by unfold ne47 at hc; simpa using hc
    subst hc'
    refine ⟨t, rfl, ?_⟩
    rw [hd] at e
    have : r.drop ((r.takeWhile ne47).length + 1) = (r.takeWhile ne47 ++ 47 :: t).drop ((r.takeWhile ne47).length + 1) := by rw [e]
    rw [this, List.drop_append]
    simp
structure RSt (w : World) (g : Nat) (l : List UInt8) (sb : Bool) (n m : Nat) (N : Option Addr) (cn : Nat) (D : Option Addr) (cd : Nat) (wx : World) : Prop where
  below : Below w.heap.size w wx
  b2 : Blk wx w.heap.size 48 #[.bool false, .slice none 0 0, .bool false, .slice none 0 0]
  b10 : Blk wx g 48 #[.bool sb, .slice N (mg n).length cn, .bool false, .slice D (dl m).length cd]
  dn : Digs wx N (mg n)
  dd : Digs wx D (dl m)
  ref : refN l = some (sb, n, m)
  bn : n < 1000000000
  bm : m < 1000000000
  m0 : m ≠ 0
theorem rread_any (s : ByteArray) (w : World) (hs : s.size ≤ 8) :
    Calls Tryz.prog 49 #[.string s] w (RetRRead s.data.toList w) := by
  obtain ⟨l, hl⟩ : ∃ l, s.data.toList = l := ⟨_, rfl⟩
  rw [hl]
  obtain ⟨b, r, hc⟩ : ∃ b r, cut l = (b, r) := ⟨_, _, rfl⟩
  have hll : l.length = s.size := by rw [← hl]; exact len_size s
  have hrl : r.length ≤ 8 := by
    have := (spl_len hc).2
    omega
  obtain ⟨k0, hk0⟩ : ∃ k0, (r.takeWhile ne47).length = k0 := ⟨_, rfl⟩
  have hk0l : k0 ≤ r.length := by rw [← hk0]; exact tw_len _ _
  have HK0 := Lib.hid hk0
  have HC := Lib.hid hc
  have HLL := Lib.hid hl
  have HB : Hid (b = decide (s.data.toList.head? = some 45) ∧ bs r = if b = true then s.extract 1 s.size else s) := Lib.hid (by
    have h1 := hc
    unfold cut at h1
    rw [hl]
    by_cases h : l.head? = some 45
    · rw [if_pos h] at h1
      injection h1 with e1 e2
      subst e1 e2
      rw [decide_eq_true h]
      exact ⟨rfl, by rw [if_pos rfl, ext_end, hl]; simp⟩
    · rw [if_neg h] at h1
      injection h1 with e1 e2
      subst e1 e2
      rw [decide_eq_false h]
      exact ⟨rfl, by rw [if_neg (by simp), ← hl, bs_self]⟩)
  clear hk0 hc hl
  obtain ⟨R, hR⟩ : ∃ R, bs r = R := ⟨_, rfl⟩
  rw [hR] at HB
  have hRs : R.size ≤ 8 := by rw [← hR, bs_size]; exact hrl
  have hkR : k0 ≤ R.size := by rw [← hR, bs_size]; exact hk0l
  have HRR := Lib.hid hR
  have HRL : Hid (R.size = r.length) := Lib.hid (by rw [← hR, bs_size])
  clear hR hrl hk0l
  obtain ⟨W, hW⟩ : ∃ W, w.alloc (.cells #[.bool false, .slice none 0 0, .bool false, .slice none 0 0] 48) = W := ⟨_, rfl⟩
  have B2 : Blk W w.heap.size 48 #[.bool false, .slice none 0 0, .bool false, .slice none 0 0] := by rw [← hW]; exact Blk.new _ _ _
  have hbW : Below w.heap.size w W := by rw [← hW]; exact (Below.refl _ _).alloc (Nat.le_refl _) _
  go_enter Tryz.func49, Tryz.ntmps49
  go_upto_region 2 with (fail)
  try rw [hW]
  clear hW
  go_cut [5] from 13 (fun s5 wx => s5 = .bool b ∧ W = wx)
  case first =>
    by_cases h0 : 0 < s.size
    · have hh : s.data.toList.head? = some s[0] := by
        have hlen := len_size s
        cases h : s.data.toList with
        | nil => rw [h] at hlen; simp at hlen; omega
        | cons x t =>
          simp only [List.head?_cons, Option.some.injEq]
          have : s[0] = s.data.toList[0]'(by rw [hlen]; exact h0) := rfl
          rw [this]; simp [h]
      have hd0 : decide ((0 : Int) < (s.size : Int)) = true := by simp; omega
      have hd0' : decide (0 < s.size) = true := by simp; omega
      by_cases h45 : s[0] = 45
      · have hq : ((s[0].toNat : Int) == 45) = true := by rw [h45]; rfl
        have hb : b = true := by rw [HB.out.1, hh, h45]; rfl
        subst hb
        clear hh h45
        go_wp2
        go_meet
        exact ⟨rfl, rfl⟩
      · have hq : ((s[0].toNat : Int) == 45) = false := by
          apply beq_eq_false_iff_ne.2
          intro e
          have e2 : s[0].toNat = 45 := by omega
          exact h45 (UInt8.toNat_inj.1 (by rw [e2]; rfl))
        have hb : b = false := by rw [HB.out.1, hh]; simp [h45]
        subst hb
        clear hh h45
        go_wp2
        go_meet
        exact ⟨rfl, rfl⟩
    · have hb : b = false := by
        rw [HB.out.1]
        have hlen := len_size s
        have : s.data.toList = [] := List.eq_nil_of_length_eq_zero (by omega)
        rw [this]; rfl
      subst hb
      have hd0 : decide ((0 : Int) < (s.size : Int)) = false := decide_eq_false (by omega)
      have hd0' : decide (0 < s.size) = false := decide_eq_false h0
      go_wp2
      go_meet
      exact ⟨rfl, rfl⟩
  case rest =>
    obtain ⟨rfl, rfl⟩ := hcut
    go_upto_if 22 with (fail)
    go_cut [4] from 13 (fun s4 wx => s4 = .string R ∧ W = wx)
    case first =>
      have HBR := Lib.hid HB.out.2
      have hs1 : b = true → 1 ≤ (s.size : Int) := by
        intro h
        have h1 := HB.out.1
        rw [h] at h1
        have hlen := len_size s
        cases h2 : s.data.toList with
        | nil => rw [h2] at h1; simp at h1
        | cons x t => rw [h2] at hlen; simp at hlen; omega
      cases b with
      | true =>
        have hs1 := hs1 rfl
        go_wp2
        go_meet
        exact ⟨by rw [HBR.out, if_pos trivial], rfl⟩
      | false =>
        go_wp2
        go_meet
        exact ⟨by rw [HBR.out, if_neg (by simp)], rfl⟩
    case rest =>
      obtain ⟨rfl, rfl⟩ := hcut
      go_upto_block 0 with (fail)
      go_cut [6, 7] from 13 (fun s6 s7 wx => s6 = .int .i64 k0 ∧ W = wx)
      case first =>
        go_wp2
        go_loop [6, 7] (fun s6 s7 => ∃ k : Nat, s6 = .int .i64 R.size ∧ s7 = .int .i64 k ∧ k ≤ R.size ∧ Hid (∀ c ∈ r.take k, ne47 c = true)) (fun _ s7 => R.size - (intOf s7).toNat)
        case atStart => exact ⟨0, rfl, rfl, Nat.zero_le _, Lib.hid (by simp)⟩
        case round =>
          obtain ⟨k, rfl, rfl, hk, HN⟩ := hrel
          by_cases hlt : k < R.size
          · have hlr : k < r.length := by rw [← HRL.out]; exact hlt
            have HX : Hid (R[k] = r[k]) := Lib.hid (by
              have h := HRR.out
              subst h
              rfl)
            have HT0 : Hid (r.take (k + 1) = r.take k ++ [r[k]]) := Lib.hid (List.take_succ_eq_append_getElem hlr)
            by_cases h47 : R[k] = 47
            · have hq : ((R[k].toNat : Int) == 47) = true := by rw [h47]; rfl
              obtain rfl : k = k0 := by
                have h1 := tw47 r k HN.out (.inr ⟨hlr, by rw [← HX.out, h47]; rfl⟩)
                rw [HK0.out] at h1
                omega
              clear h47
              go_wp2
              go_meet
              exact ⟨rfl, rfl⟩
            · have hq : ((R[k].toNat : Int) == 47) = false := by
                apply beq_eq_false_iff_ne.2
                intro e
                have e2 : R[k].toNat = 47 := by omega
                exact h47 (UInt8.toNat_inj.1 (by rw [e2]; rfl))
              have HN2 : Hid (∀ c ∈ r.take (k + 1), ne47 c = true) := Lib.hid (by
                rw [HT0.out]
                intro c hc
                rcases List.mem_append.1 hc with h | h
                · exact HN.out c h
                · simp only [List.mem_cons, List.not_mem_nil, or_false] at h
                  rw [h, ← HX.out]
                  unfold ne47
                  simp [h47])
              clear h47
              go_wp2
              go_round
              case rel => exact ⟨k + 1, rfl, by go_num, by omega, HN2⟩
              case measure => simp [intOf]; omega
          · have hkk : k0 = R.size := by
              have h1 := tw47 r k HN.out (.inl (by rw [← HRL.out]; omega))
              rw [HK0.out, ← HRL.out] at h1
              omega
            obtain rfl : k = R.size := by omega
            have dd : decide (R.size < R.size) = false := by simp
            have HKK := Lib.hid hkk
            clear hkk
            go_wp2
            go_meet
            exact ⟨by rw [HKK.out], rfl⟩
      case rest =>
        obtain ⟨rfl, rfl⟩ := hcut
        obtain ⟨ta, hta⟩ : ∃ ta, r.takeWhile ne47 = ta := ⟨_, rfl⟩
        have hex : R.extract 0 k0 = bs ta := by
          rw [← HRR.out, ext_bs, bs_data, ← hta]
          have := List.takeWhile_append_dropWhile (p := ne47) (l := r)
          have h2 : r.take k0 = r.takeWhile ne47 := by
            rw [← HK0.out]
            have h3 := List.take_left (l₁ := r.takeWhile ne47) (l₂ := r.dropWhile ne47)
            rw [this] at h3
            exact h3
          simpa using congrArg bs h2
        have htl : ta.length ≤ 8 := by rw [← hta, HK0.out]; omega
        have HFD1 : Hid (∀ V, Calls Tryz.prog 66 #[.string (R.extract 0 k0)] V (RetFD ta V)) := Lib.hid (fun V => by
          rw [hex]
          exact fdigs_any (bs ta) V (by rw [bs_size]; exact htl))
        have q1 : (k0 : Int) ≤ (R.size : Int) := by omega
        have q2 : (0 : Int) ≤ (k0 : Int) := by omega
        have q3 : ((k0 : Int)).toNat = k0 := by omega
        have HTA := Lib.hid hta
        clear hta hex
        go_wp2_with (fail)
        refine (HFD1.out _).mono ?_
        rintro e w1 ⟨hb1, ⟨hno, n, A, c, rfl⟩ | ⟨hok, ad, c, rfl, hD⟩⟩
        · have C2 := B2.keep hb1 B2.lt
          obtain ⟨a0, a1, a2, a3, f0, f1, f2, f3⟩ := C2.four
          have hlt2 := C2.lt
          have HRN : Hid (rd l = none) := Lib.hid (rd_none_of (by
            unfold refN
            rw [HC.out, HTA.out]
            simp [hno]))
          clear hno
          go_wp2
          refine bodyPost_ret (v := .tuple #[.agg #[.bool false, .slice none 0 0, .bool false, .slice none 0 0], .bool false]) (by simp [results, Tryz.results49, go_sem, a0, a1, a2, a3, hlt2]) rfl ⟨?_, .inl ⟨HRN.out, false, none, 0, 0, false, none, 0, 0, rfl⟩⟩
          have hsz := (below_all hbW hb1).size
          exact (below_far (below_far (below_far (below_far (below_all hbW hb1) (Nat.le_refl _) _ _) (Nat.le_refl _) _ _) (Nat.le_refl _) _ _) (Nat.le_refl _) _ _).alloc (by simp; omega) _
        · have hxl : val ta < 100000000 := by
            have h1 := val_lt ta (numOk_iff.1 hok).1
            have h2 : 10 ^ ta.length ≤ 10 ^ 8 := Nat.pow_le_pow_right (by omega) htl
            omega
          obtain ⟨x, hx⟩ : ∃ x, val ta = x := ⟨_, rfl⟩
          rw [hx] at hxl hD
          have hml := mg_le x
          obtain ⟨nx, hnx⟩ : ∃ nx, (mg x).length = nx := ⟨_, rfl⟩
          obtain ⟨sb, hsb⟩ : ∃ sb, (b && decide (x ≠ 0)) = sb := ⟨_, rfl⟩
          have HM : Hid (∀ V, Calls Tryz.prog 58 #[.bool b, .slice (some ad) nx c] V fun e w' => e = .returned (.agg #[.bool sb, .slice (some ad) nx c]) ∧ Below V.heap.size V w') := Lib.hid (fun V => by
            have := make1_any b (some ad) (mg x).length c V sb (by rw [mg_sgn, hsb]) (by omega)
            rwa [hnx] at this)
          rw [hx, hnx]
          have HNX := Lib.hid hnx
          have HSB := Lib.hid hsb
          have HXV := Lib.hid hx
          have HOK := Lib.hid hok
          clear hnx hsb hx hok hml
          go_upto_region 14 with (fail)
          obtain ⟨V1, hV1⟩ : ∃ V1, w1.alloc (.cells #[.bool false, .slice (some ad) nx c] 46) = V1 := ⟨_, rfl⟩
          have B8 : Blk V1 w1.heap.size 46 #[.bool false, .slice (some ad) nx c] := by rw [← hV1]; exact Blk.new _ _ _
          have hbV1 : Below w1.heap.size w1 V1 := by rw [← hV1]; exact (Below.refl _ _).alloc (Nat.le_refl _) _
          obtain ⟨p0, p1, _, _⟩ := B8.two
          try rw [hV1]
          clear hV1
          go_upto_region 15 with (go_at_call 58; refine (HM.out _).mono ?_; rintro e w3 ⟨rfl, hb3⟩)
          obtain ⟨V3, hV3⟩ : ∃ V3, w3.alloc (.cells #[.bool sb, .slice (some ad) nx c, .bool false, .slice none 0 0] 48) = V3 := ⟨_, rfl⟩
          have B10 : Blk V3 w3.heap.size 48 #[.bool sb, .slice (some ad) nx c, .bool false, .slice none 0 0] := by rw [← hV3]; exact Blk.new _ _ _
          have hbV3 : Below w3.heap.size w3 V3 := by rw [← hV3]; exact (Below.refl _ _).alloc (Nat.le_refl _) _
          try rw [hV3]
          clear hV3
          have hb13 := below_all (below_all hbV1 hb3) hbV3
          have C2 := (B2.keep hb1 B2.lt).keep hb13 (B2.keep hb1 B2.lt).lt
          have hD3 := hD.keep hb13
          have hbw3 := below_all (below_all hbW hb1) hb13
          have hglt : w.heap.size < w3.heap.size := by
            have h1 := B2.lt
            have h2 := hb1.size
            have h3 := hbV1.size
            have h4 := hb3.size
            omega
          clear hb13 hb1 hb3 hbV1 hbV3 hD B2 p0 p1 B8
          go_upto_if 56 with (fail)
          go_cut [11, 12] from 13 (fun s11 s12 wx => ∃ n m N cn D cd, RSt w w3.heap.size l sb n m N cn D cd wx)
          case first =>
            by_cases hke : k0 < R.size
            · obtain ⟨t, hdw, ht⟩ := drop47 (r := r) (by rw [HK0.out, ← HRL.out]; exact hke)
              have hex2 : R.extract (k0 + 1) R.size = bs t := by rw [ext_end, ← HRR.out, bs_data, ht, HK0.out]
              have htl2 : t.length ≤ 8 := by rw [ht, List.length_drop, HK0.out, ← HRL.out]; omega
              have HFD2 : Hid (∀ V, Calls Tryz.prog 66 #[.string (R.extract (k0 + 1) R.size)] V (RetFD t V)) := Lib.hid (fun V => by
                rw [hex2]
                exact fdigs_any (bs t) V (by rw [bs_size]; exact htl2))
              have HDW := Lib.hid hdw
              clear hdw ht hex2
              have q4 : (k0 : Int) + 1 ≤ (R.size : Int) := by omega
              have q5 : ((k0 : Int) + 1).toNat = k0 + 1 := by omega
              have q6 : (0 : Int) ≤ (k0 : Int) + 1 := by omega
              have q7 : (k0 : Int) < (R.size : Int) := by omega
              have q8 : decide ((k0 : Int) < (R.size : Int)) = true := decide_eq_true q7
              have q9 : decide (k0 < R.size) = true := decide_eq_true hke
              go_wp2_with (fail)
              refine (HFD2.out _).mono ?_
              rintro e w4 ⟨hb4, ⟨hno, n2, A2, c2, rfl⟩ | ⟨hok2, ad2, c2, rfl, hD2⟩⟩
              · have E2 := C2.keep hb4 C2.lt
                obtain ⟨a0, a1, a2, a3, f0, f1, f2, f3⟩ := E2.four
                have hlt2 := E2.lt
                have HRN : Hid (rd l = none) := Lib.hid (rd_none_of (by
                  unfold refN
                  rw [HC.out, HTA.out, HDW.out]
                  simp [hno, HOK.out]))
                clear hno
                go_wp2
                refine bodyPost_ret (v := .tuple #[.agg #[.bool false, .slice none 0 0, .bool false, .slice none 0 0], .bool false]) (by simp [results, Tryz.results49, go_sem, a0, a1, a2, a3, hlt2]) rfl ⟨?_, .inl ⟨HRN.out, false, none, 0, 0, false, none, 0, 0, rfl⟩⟩
                have hsz := (below_all hbw3 hb4).size
                exact (below_far (below_far (below_far (below_far (below_all hbw3 hb4) (Nat.le_refl _) _ _) (Nat.le_refl _) _ _) (Nat.le_refl _) _ _) (Nat.le_refl _) _ _).alloc (by simp; omega) _
              · have hyl : val t < 100000000 := by
                  have h1 := val_lt t (numOk_iff.1 hok2).1
                  have h2 : 10 ^ t.length ≤ 10 ^ 8 := Nat.pow_le_pow_right (by omega) htl2
                  omega
                obtain ⟨y, hy⟩ : ∃ y, val t = y := ⟨_, rfl⟩
                rw [hy] at hyl hD2 ⊢
                have HYV := Lib.hid hy
                have HOK2 := Lib.hid hok2
                clear hy hok2
                obtain ⟨ny, hny⟩ : ∃ ny, (mg y).length = ny := ⟨_, rfl⟩
                rw [hny]
                have HNY := Lib.hid hny
                clear hny
                have hny1 : ny ≤ 1 := by rw [← HNY.out]; exact mg_le y
                go_upto_region 17 with (fail)
                obtain ⟨V4, hV4⟩ : ∃ V4, w4.alloc (.cells #[.bool false, .slice (some ad2) ny c2] 46) = V4 := ⟨_, rfl⟩
                have B11 : Blk V4 w4.heap.size 46 #[.bool false, .slice (some ad2) ny c2] := by rw [← hV4]; exact Blk.new _ _ _
                have hbV4 : Below w4.heap.size w4 V4 := by rw [← hV4]; exact (Below.refl _ _).alloc (Nat.le_refl _) _
                try rw [hV4]
                clear hV4
                have hb34 := below_all hb4 hbV4
                have E2 := C2.keep hb34 C2.lt
                have E10 := B10.keep hb34 B10.lt
                have hDx := hD3.keep hb34
                have hDy := hD2.keep hbV4
                have hbw4 := below_all hbw3 hb34
                clear hb4 hbV4 hb34 hD2
                obtain ⟨p0, p1, _, _⟩ := B11.two
                by_cases hy0 : y = 0
                · obtain rfl : ny = 0 := by rw [← HNY.out, hy0]; rfl
                  have HS := Lib.hid (sign_any false (some ad2) 0 c2 V4 (by omega) 0 (by simp))
                  have HRN : Hid (rd l = none) := Lib.hid (rd_none_of (by
                    unfold refN
                    rw [HC.out, HTA.out, HDW.out]
                    simp [HOK.out, HYV.out, hy0]))
                  clear hy0
                  go_wp2_with (go_at_call 67; refine HS.out.mono ?_; rintro e w5 ⟨rfl, hb5⟩
                               have F2 := E2.keep hb5 E2.lt
                               have hlt2 := F2.lt
                               obtain ⟨a0, a1, a2, a3, f0, f1, f2, f3⟩ := F2.four)
                  refine bodyPost_ret (v := .tuple #[.agg #[.bool false, .slice none 0 0, .bool false, .slice none 0 0], .bool false]) (by simp [results, Tryz.results49, go_sem, a0, a1, a2, a3]) rfl ⟨?_, .inl ⟨HRN.out, false, none, 0, 0, false, none, 0, 0, rfl⟩⟩
                  exact below_far (below_far (below_far (below_far (below_all hbw4 hb5) (Nat.le_refl _) _ _) (Nat.le_refl _) _ _) (Nat.le_refl _) _ _) (Nat.le_refl _) _ _
                · obtain rfl : ny = 1 := by rw [← HNY.out, mg_pos hy0]; rfl
                  have HS := Lib.hid (sign_any false (some ad2) 1 c2 V4 (by omega) 1 (by simp))
                  obtain ⟨gg, hgg⟩ : ∃ gg, Nat.gcd x y = gg := ⟨_, rfl⟩
                  have HFR : Hid (∀ V, Below V4.heap.size V4 V → Calls Tryz.prog 54 #[.agg #[.bool sb, .slice (some ad) nx c], .agg #[.bool false, .slice (some ad2) 1 c2]] V (RetFrac sb (x / gg) (y / gg) V)) := Lib.hid (fun V h => by
                    have := frac_any sb (some ad) (some ad2) c c2 x y V (hDx.keep h) (hDy.keep h) (by omega) (by omega) hy0 ⟨ad, rfl⟩ (fun h2 => by
                      have h3 := HSB.out
                      rw [h2] at h3
                      simp at h3
                      exact h3.2)
                    rw [HNX.out, mg_pos hy0, hgg] at this
                    exact this)
                  have hg0 : 0 < gg := by rw [← hgg]; exact Nat.gcd_pos_of_pos_right _ (by omega)
                  have hgy : gg ≤ y := by rw [← hgg]; exact Nat.gcd_le_right _ (by omega)
                  have HRF : Hid (refN l = some (sb, x / gg, y / gg)) := Lib.hid (by
                    unfold refN
                    rw [HC.out, HTA.out, HDW.out]
                    simp only [HOK.out, if_true, HOK2.out, HXV.out, HYV.out, hgg]
                    rw [if_pos ⟨trivial, hy0⟩, HSB.out])
                  have hm0 : y / gg ≠ 0 := Nat.pos_iff_ne_zero.1 (Nat.div_pos hgy hg0)
                  have hml : y / gg ≤ y := Nat.div_le_self _ _
                  have hnl : x / gg ≤ x := Nat.div_le_self _ _
                  unfold RetFrac at HFR
                  generalize x / gg = qn at *
                  generalize y / gg = qm at *
                  clear hy0 hgg
                  obtain ⟨r0, r1, r2, r3, s0, s1, s2, s3⟩ := E10.four
                  go_wp2_with (first
                    | (go_at_call 67; refine HS.out.mono ?_; rintro e w5 ⟨rfl, hb5⟩
                       have F10 := E10.keep hb5 E10.lt
                       have F11 := B11.keep hb5 B11.lt
                       obtain ⟨r0, r1, r2, r3, s0, s1, s2, s3⟩ := F10.four
                       obtain ⟨p0, p1, _, _⟩ := F11.two)
                    | (go_at_call 54; refine (HFR.out _ hb5).mono ?_; rintro e w6 ⟨N, cn, D, cd, rfl, hN, hDD, hb6⟩
                       have G10 := F10.keep hb6 F10.lt
                       obtain ⟨r0, r1, r2, r3, s0, s1, s2, s3⟩ := G10.four))
                  go_meet
                  have o1 := Digs.off hN (by omega) G10 (by simp [vd])
                  have o2 := Digs.off hDD (by omega) G10 (by simp [vd])
                  have hb56 := below_all hb5 hb6
                  refine ⟨qn, qm, N, cn, D, cd, ?_, ?_, ?_, ?_, ?_, HRF.out, by omega, by omega, hm0⟩
                  · exact below_far (below_far (below_far (below_far (below_all hbw4 hb56) (by omega) _ _) (by omega) _ _) (by omega) _ _) (by omega) _ _
                  · exact ((((E2.keep hb56 E2.lt).far (by simp; omega) _).far (by simp; omega) _).far (by simp; omega) _).far (by simp; omega) _
                  · exact (((G10.set 0 _).set 1 _).set 2 _).set 3 _
                  · exact (((Digs.far hN o1 _ _).far o1 _ _).far o1 _ _).far o1 _ _
                  · exact (((Digs.far hDD o2 _ _).far o2 _ _).far o2 _ _).far o2 _ _
            · have q7 : ¬ (k0 : Int) < (R.size : Int) := by omega
              have q8 : decide ((k0 : Int) < (R.size : Int)) = false := decide_eq_false q7
              have q9 : decide (k0 < R.size) = false := decide_eq_false hke
              have HRF : Hid (refN l = some (sb, x, 1)) := Lib.hid (by
                have hdn : r.dropWhile ne47 = [] := by
                  have e := congrArg List.length (List.takeWhile_append_dropWhile (p := ne47) (l := r))
                  rw [List.length_append, HK0.out, ← HRL.out] at e
                  exact List.eq_nil_of_length_eq_zero (by omega)
                unfold refN
                rw [HC.out, HTA.out, hdn]
                simp only [HOK.out, if_true, HXV.out]
                rw [HSB.out])
              go_wp2
              go_meet
              exact ⟨x, 1, some ad, c, none, 0, hbw3, C2, by rw [HNX.out]; exact B10, hD3, Digs.nil _ _, HRF.out, by omega, by omega, by omega⟩
          case rest =>
            obtain ⟨n, m, N, cn, D, cd, hst⟩ := hcut
            obtain ⟨hbx, X2, X10, dn, dd, href, bn, bm, m0⟩ := hst
            have HT : Hid (∀ V, Below wc.heap.size wc V → Calls Tryz.prog 68 #[.agg #[.bool sb, .slice N (mg n).length cn, .bool false, .slice D (dl m).length cd]] V fun e w' => e = .returned (.string (bs (text sb n m))) ∧ Below wc.heap.size wc w') := Lib.hid (fun V h => (text_any sb false N D cn cd n m V (dn.keep h) (dd.keep h) bn bm m0).mono fun e w' ⟨h1, h2⟩ => ⟨h1, below_all h h2⟩)
            have HDN := Lib.hid dn
            have HDD := Lib.hid dd
            have HX2 := Lib.hid X2
            have HX10 := Lib.hid X10
            have HREF := Lib.hid href
            have hbe : Below wc.heap.size wc wc.drew := (Below.refl _ _).drew
            have HTS : Hid (bs (text sb n m) = s ↔ text sb n m = l) := Lib.hid (by
              rw [← HLL.out]
              constructor
              · intro h; rw [← h, bs_data]
              · intro h; rw [h, bs_self])
            obtain ⟨ST, hST⟩ : ∃ ST, bs (text sb n m) = ST := ⟨_, rfl⟩
            rw [hST] at HT HTS
            obtain ⟨nn, hnn⟩ : ∃ nn, (mg n).length = nn := ⟨_, rfl⟩
            obtain ⟨nm, hnm⟩ : ∃ nm, (dl m).length = nm := ⟨_, rfl⟩
            rw [hnn, hnm] at HT X10 HX10
            have HNN := Lib.hid hnn
            have HNM := Lib.hid hnm
            obtain ⟨a0, a1, a2, a3, f0, f1, f2, f3⟩ := X2.four
            obtain ⟨r0, r1, r2, r3, _, _, _, _⟩ := X10.four
            clear hST hnn hnm dn dd href X2 X10 C2 B10 hD3
            by_cases hts : ST = s
            · have HEQ := Lib.hid (HTS.out.1 hts)
              subst hts
              go_wp2
              go_region_with (go_at_call 68; refine (HT.out _ (by assumption)).mono ?_; rintro e w' ⟨rfl, hbe⟩; have Y2 := HX2.out.keep hbe HX2.out.lt; have Y10 := HX10.out.keep hbe HX10.out.lt; obtain ⟨a0, a1, a2, a3, f0, f1, f2, f3⟩ := Y2.four; obtain ⟨r0, r1, r2, r3, _, _, _, _⟩ := Y10.four)
              all_goals
                go_wp2
                have dn' := HDN.out.keep hbe
                have dd' := HDD.out.keep hbe
                have o1 := Digs.off dn' (by omega) Y2 (by simp [vd])
                have o2 := Digs.off dd' (by omega) Y2 (by simp [vd])
                refine bodyPost_ret (v := .tuple #[.agg #[.bool sb, .slice N nn cn, .bool false, .slice D nm cd], .bool true]) (by simp [results, Tryz.results49, go_sem, a0, a1, a2, a3]) rfl ⟨?_, .inr ⟨sb, n, m, ref_rd.2 ⟨HREF.out, HEQ.out⟩, bn, bm, m0, N, cn, D, cd, by rw [HNN.out, HNM.out], ?_, ?_⟩⟩
                · exact below_far (below_far (below_far (below_far (below_all hbx hbe) (Nat.le_refl _) _ _) (Nat.le_refl _) _ _) (Nat.le_refl _) _ _) (Nat.le_refl _) _ _
                · exact (((Digs.far dn' o1 _ _).far o1 _ _).far o1 _ _).far o1 _ _
                · exact (((Digs.far dd' o2 _ _).far o2 _ _).far o2 _ _).far o2 _ _
            · have HNE : Hid (rd l = none) := Lib.hid (rd_none_text HREF.out (fun h => hts (HTS.out.2 h)))
              have hn1 : ¬ ST.toList = s.toList := by
                rw [Lib.toList_data, Lib.toList_data]
                intro h
                exact hts (by rw [← bs_self ST, ← bs_self s, h])
              have hn2 : (ST.toList == s.toList) = false := beq_eq_false_iff_ne.2 hn1
              go_wp2
              go_region_with (go_at_call 68; refine (HT.out _ (by assumption)).mono ?_; rintro e w' ⟨rfl, hbe⟩; have Y2 := HX2.out.keep hbe HX2.out.lt; have Y10 := HX10.out.keep hbe HX10.out.lt; obtain ⟨a0, a1, a2, a3, f0, f1, f2, f3⟩ := Y2.four; obtain ⟨r0, r1, r2, r3, _, _, _, _⟩ := Y10.four)
              all_goals
                go_wp2
                refine bodyPost_ret (v := .tuple #[.agg #[.bool sb, .slice N nn cn, .bool false, .slice D nm cd], .bool false]) (by simp [results, Tryz.results49, go_sem, a0, a1, a2, a3]) rfl ⟨?_, .inl ⟨HNE.out, sb, N, nn, cn, false, D, nm, cd, rfl⟩⟩
                exact below_far (below_far (below_far (below_far (below_all hbx hbe) (Nat.le_refl _) _ _) (Nat.le_refl _) _ _) (Nat.le_refl _) _ _) (Nat.le_refl _) _ _
end Go.Proofs.Tg
end
