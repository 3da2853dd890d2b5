/- Parts of the proof: NU11, NU13. -/
import Derived.Test.YticpnfjdooileaaGreatDoorMCPP2
import Derived.Test.YticpnfjdooileaaGreatDoorMCPP6
import Derived.Test.YticpnfjdooileaaGreatDoorMCPP15
import Derived.Test.YticpnfjdooileaaGreatDoorMCPP16
section
/- The harness's numbers: the decimal digits of a number below 10^9. -/
namespace Go.Proofs.Tg
open Go.RowKit Go.Gr Go.Qn
set_option maxHeartbeats 2000000
set_option maxRecDepth 100000
def dg (v : Nat) : List UInt8 := if v = 0 then [] else Lib.decDigits v
theorem dg_zero : dg 0 = [] := rfl
theorem dg_step (x r : Nat) (hr : r < 10) (h : ¬ (x = 0 ∧ r = 0)) : dg (10 * x + r) = dg x ++ [UInt8.ofNat (48 + r)] := by
  unfold dg
  rw [if_neg (by omega)]
  by_cases h0 : x = 0
  · subst h0
    rw [if_pos rfl, Lib.decDigits, dif_pos (by omega)]; simp
  · rw [if_neg h0, Lib.decDigits, dif_neg (by omega), show (10 * x + r) / 10 = x by omega, show (10 * x + r) % 10 = r by omega]
theorem pow_split (v j : Nat) : v / 10 ^ j = 10 * (v / 10 ^ (j + 1)) + v / 10 ^ j % 10 := by
  have : v / 10 ^ (j + 1) = v / 10 ^ j / 10 := by rw [Nat.pow_succ, Nat.div_div_eq_div_mul]
  rw [this]; omega
theorem digits_nil (b : Bool) (A : Option Addr) (c : Nat) (w : World) :
    Calls Tryz.prog 70 #[.agg #[.bool b, .slice A 0 c]] w fun e w' => e = .returned (.string ⟨#[48]⟩) ∧ Below w.heap.size w w' := by
  have hbA : Below w.heap.size w (w.alloc (.cells #[.bool b, .slice A 0 c] 80)) := (Below.refl _ _).alloc (Nat.le_refl _) _
  go_enter Tryz.func70, Tryz.ntmps70
  go_wp2
  go_ret
  exact ⟨rfl, hbA⟩
theorem digits_one (b : Bool) (A : Option Addr) (c v : Nat) (w : World) (hA : Digs w A [v]) (hv : v < 1000000000) (hv0 : v ≠ 0) :
    Calls Tryz.prog 70 #[.agg #[.bool b, .slice A 1 c]] w fun e w' => e = .returned (.string (bs (Lib.decDigits v))) ∧ Below w.heap.size w w' := by
  have hbA : Below w.heap.size w (w.alloc (.cells #[.bool b, .slice A 1 c] 80)) := (Below.refl _ _).alloc (Nat.le_refl _) _
  have HDV : Hid (dg v = Lib.decDigits v) := Lib.hid (by unfold dg; rw [if_neg hv0])
  have HS : Hid (∀ W, Below w.heap.size w W → Calls Tryz.prog 82 #[.slice A 1 c, .int .u32 1000000000] W fun e w' => e = .returned (.tuple #[.slice (some ⟨W.heap.size, 0, none⟩) 0 1, .int .u32 (v : Nat)]) ∧ Below W.heap.size W w') := Lib.hid (fun W hW => by
    have h1 := sdiv_one A c v 1000000000 W (hA.keep hW) (by omega) (by omega) (by omega)
    rw [Nat.div_eq_of_lt hv, Nat.mod_eq_of_lt hv] at h1
    exact h1.mono fun e w' ⟨h1, _, h3⟩ => ⟨h1, h3⟩)
  obtain ⟨i0, hi, hz0, hz1, hz2⟩ := info_parts dig_info
  obtain ⟨ib, hib, hbz0, hbz1, hbz2⟩ := info_parts byte_info
  clear hA hv0
  go_enter Tryz.func70, Tryz.ntmps70
  go_wp2
  refine wp_loop_rounds 2 ?_
  rw [rounds_succ]
  go_wp2_with (first
    | (go_at_call 82; refine (HS.out _ hbA).mono ?_; rintro e w1 ⟨rfl, hb1⟩; have hs1 : w.heap.size + 1 ≤ w1.heap.size := by (have := hb1.size; simpa using this))
    | (at_builtin; refine wpList_append_own _ rfl _ _ 78 rfl w.heap.size 99 i0 (.int .u32 0) 1 4 Tryz.underlying78 hi hz0 hz1 hz2 rfl (by decide) (.slice none 0 0) 0 [] rfl (World.ownsRow_nil _ _ _ _) ⟨w1.heap.size, 0, none⟩ 1 1 [.int .u32 v] rfl rfl ?c1 ?c2 ?c3 ?c4 ?c5 ?_
       case c1 => exact cell_one_new _ _ _
       case c2 => simp [Value.oneCell']
       case c3 => simp only [maxLen]; omega
       case c4 => omega
       case c5 => simp; omega
       intro v' w2 hown' hgrow _
       obtain ⟨R, cr, hvv, hcr, hS⟩ := Sl.of_own hown'
       subst hvv))
  have hb1' := hbA.trans (hb1.mono (by simp))
  have hb2 : Below w.heap.size w w2 := (hb1'.alloc hb1'.size _).grown hgrow (by simp; have := hb1'.size; omega) (fun k hk => by simp [Value.ownBlock] at hk)
  obtain ⟨pd, rfl, hp0⟩ := Sl.at1 hS (k := 0) (by simp)
  have hp : w2.cell? pd = some (.int .u32 (v : Nat)) := by simpa [Addr.add] using hp0
  clear hp0
  clear hgrow hS hb1 hb1' hbA
  rw [rounds_succ]
  go_wp2
  refine wp_loop_rounds 2 ?_
  rw [rounds_succ]
  go_wp2
  go_loopw [7, 9] (fun s7 s9 wr => ∃ (j dv : Nat) (O : Option Addr) (co : Nat) (L : List UInt8), s7 = .slice O L.length co ∧ s9 = .int .u32 dv ∧ j ≤ 9 ∧ dv ≤ 100000000 ∧ Hid (dv = 10 ^ j / 10) ∧ Hid (L = dg (v / 10 ^ j)) ∧ L.length + j ≤ 9 ∧ wr.ownsRow w2.heap.size 5 1 (.slice O L.length co) L.length (L.map vb) ∧ Below w2.heap.size w2 wr) (fun _ s9 _ => (intOf s9).toNat)
  case atStart => exact ⟨9, 100000000, none, 0, [], rfl, rfl, by omega, by omega, Lib.hid (by decide), Lib.hid (by rw [Nat.div_eq_of_lt (by simpa using hv)]; rfl), by simp, World.ownsRow_nil _ _ _ _, Below.refl _ _⟩
  case round =>
    obtain ⟨wo, rfl⟩ : ∃ wo : World, wo = wr := ⟨_, rfl⟩
    obtain ⟨j, dv, O, co, L, rfl, rfl, hj, hdv, HDD, HL, hLj, hown, hbr⟩ := hrel
    cases j with
    | zero =>
      obtain rfl : dv = 0 := HDD.out
      obtain ⟨O', co', hvv, hcc, hS⟩ := Sl.of_own hown
      injection hvv with e1 e2 e3
      subst e1 e3
      have hconv := conv_name wo O co L hS
      have HF : Hid (L = Lib.decDigits v) := Lib.hid (by rw [HL.out, Nat.pow_zero, Nat.div_one, HDV.out])
      clear hown hS hcc
      go_wp2
      rw [rounds_succ]
      go_wp2
      go_ret
      have hf := HF.out
      subst hf
      exact ⟨rfl, below_all hb2 hbr⟩
    | succ j =>
      have e10 : 10 ^ (j + 1) / 10 = 10 ^ j := by rw [Nat.pow_succ]; omega
      have hpos : 0 < 10 ^ j := Nat.pow_pos (by omega)
      have hdv' := HDD.out
      rw [e10] at hdv'
      have hdp : 0 < dv := by omega
      have HPS := Lib.hid (pow_split v j)
      have hrl : v / dv % 10 < 10 := Nat.mod_lt _ (by omega)
      have hql : v / dv ≤ v := Nat.div_le_self _ _
      rw [← hdv'] at HPS
      have HDV2 := Lib.hid hdv'
      clear hdv' hpos e10
      obtain ⟨q, hq⟩ : ∃ q, v / dv = q := ⟨_, rfl⟩
      obtain ⟨r, hr⟩ : ∃ r, q % 10 = r := ⟨_, rfl⟩
      have hq1 : (v : Int) / (dv : Int) = (q : Int) := by rw [← hq]; simp
      have hr1 : (q : Int) % 10 = (r : Int) := by rw [← hr]; simp
      rw [hq, hr] at HPS hrl
      rw [hq] at hql
      have HQ : Hid (v / 10 ^ j = q) := Lib.hid (by rw [← HDV2.out]; exact hq)
      obtain ⟨x, hx⟩ : ∃ x, v / 10 ^ (j + 1) = x := ⟨_, rfl⟩
      rw [hx] at HL HPS
      clear hx hq hr
      have hcp := keep_cell hbr hp
      have hwr : ((48 : Int) + (r : Int)) % 4294967296 = 48 + (r : Int) := by omega
      have hw8 : ((48 : Int) + (r : Int)) % 256 = 48 + (r : Int) := by omega
      obtain ⟨dn, hdn⟩ : ∃ dn, dv / 10 = dn := ⟨_, rfl⟩
      have HDN : Hid (dn = 10 ^ j / 10) := Lib.hid (by rw [← hdn, HDV2.out])
      have hdn1 : (dv : Int).tdiv 10 = (dn : Int) := by rw [← hdn]; exact (Int.ofNat_tdiv dv 10).symm
      have hdn2 : (dv : Int) / 10 = (dn : Int) := by rw [← hdn]; simp
      have hdnl : dn < dv := by omega
      clear hdn
      have HX0 : Hid (L = [] ↔ x = 0) := Lib.hid (by
        rw [HL.out]
        unfold dg
        by_cases h : x = 0
        · simp [h]
        · simp only [h, iff_false]
          exact Qn.dec_ne x)
      have hsz := hbr.size
      by_cases hz : x = 0 ∧ r = 0
      · have HL2 : Hid (L = dg (v / 10 ^ j)) := Lib.hid (by rw [HQ.out, HPS.out, HL.out, hz.1, hz.2])
        have hL0 := HX0.out.2 hz.1
        have hd0 : decide ((0 : Int) < (L.length : Int)) = false := by rw [hL0]; rfl
        have hd0' : decide (0 < L.length) = false := by rw [hL0]; rfl
        have hr0 : ((48 : Int) + (r : Int) != 48) = false := by rw [hz.2]; rfl
        clear HL HPS hL0 hz
        go_wp2
        go_roundw
        case rel => exact ⟨j, dn, O, co, L, rfl, rfl, by omega, by omega, HDN, HL2, by omega, hown, hbr⟩
        case measure => simp [intOf]; omega
      · have HL2 : Hid (L ++ [UInt8.ofNat (48 + r)] = dg (v / 10 ^ j)) := Lib.hid (by rw [HQ.out, HPS.out, dg_step x r hrl hz, HL.out])
        have hvb : Value.int .u8 (48 + (r : Int)) = vb (UInt8.ofNat (48 + r)) := by
          have : (UInt8.ofNat (48 + r)).toNat = 48 + r := Qn.toNat_ofNat _ (by omega)
          unfold vb; rw [this]; simp
        have HVB := Lib.hid hvb
        clear hvb
        by_cases hL0 : L = []
        · have hr0 : ((48 : Int) + (r : Int) != 48) = true := by
            have hx0 := HX0.out.1 hL0
            simp; omega
          have hd0 : decide ((0 : Int) < (L.length : Int)) = false := by rw [hL0]; rfl
          have hd0' : decide (0 < L.length) = false := by rw [hL0]; rfl
          clear HL HPS hz hL0
          go_wp2_with (at_builtin; refine wpList_append_own _ rfl _ _ 71 rfl w2.heap.size 5 ib (.int .u8 0) 1 1 Tryz.underlying71 hib hbz0 hbz1 hbz2 rfl (by decide) (.slice O L.length co) L.length (L.map vb) rfl (hown.alloc _) ⟨wo.heap.size, 0, none⟩ 1 1 [.int .u8 (48 + (r : Int))] rfl rfl ?c1 ?c2 ?c3 ?c4 ?c5 ?_
                       case c1 => exact cell_one_new _ _ _
                       case c2 => simp [Value.oneCell']
                       case c3 => simp only [maxLen]; omega
                       case c4 => omega
                       case c5 => simp; omega
                       intro v' w3 hown' hgrow _)
          obtain ⟨R, cr2, hvv, hcr2, hS⟩ := Sl.of_own hown'
          subst hvv
          go_roundw
          case rel =>
            refine ⟨j, dn, R, cr2, L ++ [UInt8.ofNat (48 + r)], by simp, rfl, by omega, by omega, HDN, HL2, by simp; omega, ?_, ?_⟩
            · rw [HVB.out] at hown'
              simpa using hown'
            · exact (hbr.alloc hbr.size _).grown hgrow (by simp; omega) (fun j hj => (hown.lt j hj).1)
          case measure => simp [intOf]; omega
        · have hLp : 0 < L.length := List.length_pos_iff.2 hL0
          have hd0 : decide ((0 : Int) < (L.length : Int)) = true := by simp; omega
          have hd0' : decide (0 < L.length) = true := by simp; omega
          clear HL HPS hz hL0
          go_wp2_with (at_builtin; refine wpList_append_own _ rfl _ _ 71 rfl w2.heap.size 5 ib (.int .u8 0) 1 1 Tryz.underlying71 hib hbz0 hbz1 hbz2 rfl (by decide) (.slice O L.length co) L.length (L.map vb) rfl (hown.alloc _) ⟨wo.heap.size, 0, none⟩ 1 1 [.int .u8 (48 + (r : Int))] rfl rfl ?c1 ?c2 ?c3 ?c4 ?c5 ?_
                       case c1 => exact cell_one_new _ _ _
                       case c2 => simp [Value.oneCell']
                       case c3 => simp only [maxLen]; omega
                       case c4 => omega
                       case c5 => simp; omega
                       intro v' w3 hown' hgrow _)
          obtain ⟨R, cr2, hvv, hcr2, hS⟩ := Sl.of_own hown'
          subst hvv
          go_roundw
          case rel =>
            refine ⟨j, dn, R, cr2, L ++ [UInt8.ofNat (48 + r)], by simp, rfl, by omega, by omega, HDN, HL2, by simp; omega, ?_, ?_⟩
            · rw [HVB.out] at hown'
              simpa using hown'
            · exact (hbr.alloc hbr.size _).grown hgrow (by simp; omega) (fun j hj => (hown.lt j hj).1)
          case measure => simp [intOf]; omega
end Go.Proofs.Tg
end
section
/- The harness's numbers: the text of a fraction. -/
namespace Go.Proofs.Tg
open Go.RowKit Go.Gr Go.Qn
set_option maxHeartbeats 2000000
set_option maxRecDepth 100000
theorem dig_any (b : Bool) (A : Option Addr) (c v : Nat) (w : World) (hA : Digs w A (mg v)) (hv : v < 1000000000) :
    Calls Tryz.prog 70 #[.agg #[.bool b, .slice A (mg v).length c]] w fun e w' => e = .returned (.string (bs (Lib.decDigits v))) ∧ Below w.heap.size w w' := by
  by_cases h0 : v = 0
  · subst h0
    rw [dec_zero]
    exact digits_nil b A c w
  · rw [mg_pos h0] at hA ⊢
    exact digits_one b A c v w hA hv h0
theorem dl_pos {m : Nat} (h1 : m ≠ 1) : dl m = mg m := by unfold dl; rw [if_neg h1]
theorem dl_one : dl 1 = [] := rfl
theorem dec_len (k : Nat) : ∀ n, n < 10 ^ (k + 1) → (Lib.decDigits n).length ≤ k + 1 := by
  induction k with
  | zero =>
    intro n hn
    rw [Lib.decDigits, dif_pos (by simpa using hn)]; simp
  | succ k ih =>
    intro n hn
    by_cases h : n < 10
    · rw [Lib.decDigits, dif_pos h]; simp
    · rw [Lib.decDigits, dif_neg h, List.length_append]
      have := ih (n / 10) (by rw [Nat.pow_succ] at hn; omega)
      simp; omega
theorem bs_app (a b : List UInt8) : bs (a ++ b) = bs a ++ bs b := by
  rw [← bs_self (bs a ++ bs b)]
  congr 1
theorem text_any (p q : Bool) (N D : Option Addr) (cn cd n m : Nat) (w : World) (hN : Digs w N (mg n)) (hD : Digs w D (dl m)) (hn : n < 1000000000) (hm : m < 1000000000) (hm0 : m ≠ 0) :
    Calls Tryz.prog 55 #[.agg #[.bool p, .slice N (mg n).length cn, .bool q, .slice D (dl m).length cd]] w fun e w' => e = .returned (.string (bs (text p n m))) ∧ Below w.heap.size w w' := by
  have H1 : Hid (∀ W, Below w.heap.size w W → Calls Tryz.prog 70 #[.agg #[.bool p, .slice N (mg n).length cn]] W fun e w' => e = .returned (.string (bs (Lib.decDigits n))) ∧ Below W.heap.size W w') := Lib.hid (fun W h => dig_any p N cn n W (hN.keep h) hn)
  obtain ⟨nn, hnn⟩ : ∃ nn, (mg n).length = nn := ⟨_, rfl⟩
  rw [hnn] at H1 ⊢
  have HT : Hid (bs (text p n m) = (if p = true then ⟨#[45]⟩ ++ bs (Lib.decDigits n) else bs (Lib.decDigits n)) ++ (if m = 1 then ByteArray.empty else ⟨#[47]⟩ ++ bs (Lib.decDigits m))) := Lib.hid (by
    unfold text
    rw [bs_app, bs_app]
    have e1 : bs (if p = true then [45] else []) ++ (bs (Lib.decDigits n) ++ bs (if m = 1 then [] else 47 :: Lib.decDigits m)) = (if p = true then ⟨#[45]⟩ ++ bs (Lib.decDigits n) else bs (Lib.decDigits n)) ++ bs (if m = 1 then [] else 47 :: Lib.decDigits m) := by
      rw [← bs_app, ← bs_app, ← List.append_assoc, bs_app]
      congr 1
      cases p with
      | true => rw [if_pos rfl, if_pos rfl, bs_app]; rfl
      | false => simp
    rw [e1]
    congr 1
    by_cases h : m = 1
    · rw [if_pos h, if_pos h]; rfl
    · rw [if_neg h, if_neg h, show (47 :: Lib.decDigits m) = [47] ++ Lib.decDigits m from rfl, bs_app]; rfl)
  have l1 : (bs (Lib.decDigits n)).size ≤ 9 := by rw [bs_size]; exact dec_len 8 n hn
  have l2 : (bs (Lib.decDigits m)).size ≤ 9 := by rw [bs_size]; exact dec_len 8 m hm
  obtain ⟨SN, hSN⟩ : ∃ SN, bs (Lib.decDigits n) = SN := ⟨_, rfl⟩
  obtain ⟨SM, hSM⟩ : ∃ SM, bs (Lib.decDigits m) = SM := ⟨_, rfl⟩
  obtain ⟨ST, hST⟩ : ∃ ST, bs (text p n m) = ST := ⟨_, rfl⟩
  rw [hST] at HT ⊢
  rw [hSN] at H1 HT l1
  rw [hSM] at HT l2
  have HSM := Lib.hid hSM
  clear hSN hSM hST
  have BA := Blk.new w 82 #[.bool p, .slice N nn cn, .bool q, .slice D (dl m).length cd]
  have hbA : Below w.heap.size w (w.alloc (.cells #[.bool p, .slice N nn cn, .bool q, .slice D (dl m).length cd] 82)) := (Below.refl _ _).alloc (Nat.le_refl _) _
  clear hnn
  by_cases h1 : m = 1
  · subst h1
    rw [dl_one] at BA hbA ⊢
    simp only [List.length_nil] at BA hbA ⊢
    rw [if_pos rfl] at HT
    cases p with
    | false =>
      go_enter Tryz.func55, Tryz.ntmps55
      go_wp2_with (go_at_call 70; refine (H1.out _ hbA).mono ?_; rintro e w2 ⟨rfl, hb2⟩
                   have B2 := BA.keep hb2 BA.lt
                   obtain ⟨a0, a1, a2, a3, _, _, _, _⟩ := B2.four)
      go_ret
      refine ⟨?_, below_all hbA hb2⟩
      rw [HT.out, if_neg (by simp)]
      simp
    | true =>
      go_enter Tryz.func55, Tryz.ntmps55
      go_wp2_with (go_at_call 70; refine (H1.out _ hbA).mono ?_; rintro e w2 ⟨rfl, hb2⟩
                   have B2 := BA.keep hb2 BA.lt
                   obtain ⟨a0, a1, a2, a3, _, _, _, _⟩ := B2.four)
      go_ret
      refine ⟨?_, below_all hbA hb2⟩
      rw [HT.out, if_pos trivial]
      simp
  · have H2 : Hid (∀ W, Below w.heap.size w W → Calls Tryz.prog 70 #[.agg #[.bool q, .slice D 1 cd]] W fun e w' => e = .returned (.string SM) ∧ Below W.heap.size W w') := Lib.hid (fun W h => by
      rw [dl_pos h1] at hD
      have := dig_any q D cd m W (hD.keep h) hm
      rw [mg_pos hm0, HSM.out] at this
      exact this)
    have hdl : (dl m).length = 1 := by rw [dl_pos h1, mg_pos hm0]; rfl
    rw [hdl] at BA hbA ⊢
    rw [if_neg h1] at HT
    clear hdl hD
    cases p with
    | false =>
      go_enter Tryz.func55, Tryz.ntmps55
      go_wp2_with (fail)
      refine (H1.out _ hbA).mono ?_
      rintro e w2 ⟨rfl, hb2⟩
      have B2 := BA.keep hb2 BA.lt
      obtain ⟨a0, a1, a2, a3, _, _, _, _⟩ := B2.four
      have hbz := below_all hbA hb2
      go_wp2_with (fail)
      refine (H2.out _ hbz).mono ?_
      rintro e w3 ⟨rfl, hb3⟩
      go_wp2_with (fail)
      go_ret
      refine ⟨?_, below_all hbz hb3⟩
      rw [HT.out, if_neg (by simp)]
      rfl
    | true =>
      go_enter Tryz.func55, Tryz.ntmps55
      go_wp2_with (fail)
      refine (H1.out _ hbA).mono ?_
      rintro e w2 ⟨rfl, hb2⟩
      have B2 := BA.keep hb2 BA.lt
      obtain ⟨a0, a1, a2, a3, _, _, _, _⟩ := B2.four
      have hbz := below_all hbA hb2
      go_wp2_with (fail)
      refine (H2.out _ hbz).mono ?_
      rintro e w3 ⟨rfl, hb3⟩
      go_wp2_with (fail)
      go_ret
      refine ⟨?_, below_all hbz hb3⟩
      rw [HT.out, if_pos trivial]
      rfl
end Go.Proofs.Tg
end
