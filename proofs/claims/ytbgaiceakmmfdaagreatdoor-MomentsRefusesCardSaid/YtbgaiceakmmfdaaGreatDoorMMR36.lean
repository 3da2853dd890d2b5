/- Parts of the proof: BN35, BN36, BN37. -/
import Derived.Deep.DeepCutAuto
import Derived.Deep.CutBlock
import Derived.Test.YtbgaiceakmmfdaaGreatDoorMMR0
import Derived.Test.YtbgaiceakmmfdaaGreatDoorMMR1
import Derived.Test.YtbgaiceakmmfdaaGreatDoorMMR6
import Derived.Test.YtbgaiceakmmfdaaGreatDoorMMR8
import Derived.Test.YtbgaiceakmmfdaaGreatDoorMMR35
set_option maxHeartbeats 64000000
set_option maxRecDepth 100000
namespace Go.Proofs.Tg
section
open Go.RowKit Go.Gr Go.Bn Go.Qn
theorem len_250 {n : Nat} (h : n < 10 ^ 250) : (dg n).length ≤ 250 :=
  dg_len_lt (Nat.lt_of_lt_of_le h (Nat.pow_le_pow_left (by decide) _))
theorem dig_w (b : Bool) (A : Option Addr) (c v : Nat) (w : World) (hA : ND w A c v) (hv : v < 10 ^ 250) :
    Calls Tryz.prog 63 #[.agg #[.bool b, .slice A (dg v).length c]] w fun e w' => e = .returned (.string (bs (Lib.decDigits v))) ∧ Below w.heap.size w w' := by
  by_cases h0 : v = 0
  ·subst h0; rw [dec_zero, dg_zero]; exact digits_nil b A c w
  ·exact digits_w b A c v w hA h0 (by have := len_250 hv; omega)
theorem text_w (p q : Bool) (N D : Option Addr) (cn cd n m : Nat) (w : World) (hN : ND w N cn n) (hD : ND w D cd (dnz m)) (hn : n < 10 ^ 250) (hm : m < 10 ^ 250) (hm0 : m ≠ 0) :
    Calls Tryz.prog 35 #[.agg #[.bool p, .slice N (dg n).length cn, .bool q, .slice D (dg (dnz m)).length cd]] w fun e w' => e = .returned (.string (bs (text p n m))) ∧ Below w.heap.size w w' := by
  have H1 : Hid (∀ W, Below w.heap.size w W → Calls Tryz.prog 63 #[.agg #[.bool p, .slice N (dg n).length cn]] W fun e w' => e = .returned (.string (bs (Lib.decDigits n))) ∧ Below W.heap.size W w') := zh (fun W h => dig_w p N cn n W (hN.keep h) hn); obtain ⟨nn, hnn⟩ := eqx ((dg n).length); rw [hnn] at H1 ⊢
  have HT : Hid (bs (text p n m) = (if p = true then ⟨#[45]⟩ ++ bs (Lib.decDigits n) else bs (Lib.decDigits n)) ++ (if m = 1 then ByteArray.empty else ⟨#[47]⟩ ++ bs (Lib.decDigits m))) := zh (by
   unfold text; rw [bs_app, bs_app]
   have e1 : bs (if p = true then [45] else []) ++ (bs (Lib.decDigits n) ++ bs (if m = 1 then [] else 47 :: Lib.decDigits m)) = (if p = true then ⟨#[45]⟩ ++ bs (Lib.decDigits n) else bs (Lib.decDigits n)) ++ bs (if m = 1 then [] else 47 :: Lib.decDigits m) := by
    rw [← bs_app, ← bs_app, ← List.append_assoc, bs_app]
    congr 1
    cases p with
    | true => rw [if_pos rfl, if_pos rfl, bs_app]; rfl
    | false => simp
   rw [e1]
   congr 1
   by_cases h : m = 1
   ·rw [if_pos h, if_pos h]; rfl
   ·rw [if_neg h, if_neg h, show (47 :: Lib.decDigits m) = [47] ++ Lib.decDigits m from rfl, bs_app]; rfl)
  have l1 : (bs (Lib.decDigits n)).size ≤ 250 := by rw [bs_size]; exact dec_len 249 n hn
  have l2 : (bs (Lib.decDigits m)).size ≤ 250 := by rw [bs_size]; exact dec_len 249 m hm
  obtain ⟨SN, hSN⟩ := eqx (bs (Lib.decDigits n)); obtain ⟨SM, hSM⟩ := eqx (bs (Lib.decDigits m)); obtain ⟨ST, hST⟩ := eqx (bs (text p n m)); rw [hST] at HT ⊢; rw [hSN] at H1 HT l1; rw [hSM] at HT l2; have HSM := zh hSM; clear hSN hSM hST; have BA := Blk.new w 54 #[.bool p, .slice N nn cn, .bool q, .slice D (dg (dnz m)).length cd]; have hbA : Below w.heap.size w (w.alloc (.cells #[.bool p, .slice N nn cn, .bool q, .slice D (dg (dnz m)).length cd] 54)) := bal; clear hnn
  by_cases h1 : m = 1
  ·subst h1; rw [dnz_one, dg_zero] at BA hbA ⊢; simp only [List.length_nil] at BA hbA ⊢; rw [if_pos rfl] at HT
   cases p with
   | false =>
     go_enter Tryz.func35, Tryz.ntmps35
     go_wp2_with (go_at_call 63; refine (H1.out _ hbA).mono ?_; rintro e w2 ⟨rfl, hb2⟩
                  have B2 := BA.keep hb2 BA.lt
                  obtain ⟨a0, a1, a2, a3, _, _, _, _⟩ := B2.four)
     go_ret; refine ⟨?_, below_all hbA hb2⟩; rw [HT.out, if_neg (by simp)]; simp
   | true =>
     go_enter Tryz.func35, Tryz.ntmps35
     go_wp2_with (go_at_call 63; refine (H1.out _ hbA).mono ?_; rintro e w2 ⟨rfl, hb2⟩
                  have B2 := BA.keep hb2 BA.lt
                  obtain ⟨a0, a1, a2, a3, _, _, _, _⟩ := B2.four)
     go_ret; refine ⟨?_, below_all hbA hb2⟩; rw [HT.out, if_pos trivial]; simp
  ·rw [dnz_pos h1] at hD BA hbA ⊢; obtain ⟨nm, hnm⟩ := eqx ((dg m).length)
   have hnm0 : 0 < nm := by rw [← hnm]; exact dg_len_pos.2 hm0
   have H2 : Hid (∀ W, Below w.heap.size w W → Calls Tryz.prog 63 #[.agg #[.bool q, .slice D nm cd]] W fun e w' => e = .returned (.string SM) ∧ Below W.heap.size W w') := zh (fun W h => by
    have := dig_w q D cd m W (hD.keep h) hm; rw [hnm, HSM.out] at this
    exact this)
   rw [hnm] at BA hbA ⊢; have dn1 : decide ((0 : Int) < (nm : Int)) = true := dT (by omega); have dn2 : decide (0 < nm) = true := dT hnm0; clear hnm; rw [if_neg h1] at HT; clear hD
   cases p with
   | false =>
     go_enter Tryz.func35, Tryz.ntmps35; go_wp2_with (fail); refine (H1.out _ hbA).mono ?_; rintro e w2 ⟨rfl, hb2⟩; have B2 := BA.keep hb2 BA.lt; obtain ⟨a0, a1, a2, a3, _, _, _, _⟩ := B2.four; have hbz := below_all hbA hb2; go_wp2_with (fail); refine (H2.out _ hbz).mono ?_; rintro e w3 ⟨rfl, hb3⟩; go_wp2_with (fail); go_ret; refine ⟨?_, below_all hbz hb3⟩; rw [HT.out, if_neg (by simp)]
     rfl
   | true =>
     go_enter Tryz.func35, Tryz.ntmps35; go_wp2_with (fail); refine (H1.out _ hbA).mono ?_; rintro e w2 ⟨rfl, hb2⟩; have B2 := BA.keep hb2 BA.lt; obtain ⟨a0, a1, a2, a3, _, _, _, _⟩ := B2.four; have hbz := below_all hbA hb2; go_wp2_with (fail); refine (H2.out _ hbz).mono ?_; rintro e w3 ⟨rfl, hb3⟩; go_wp2_with (fail); go_ret; refine ⟨?_, below_all hbz hb3⟩; rw [HT.out, if_pos trivial]
     rfl
def RetFDw (l : List UInt8) (w : World) (e : Ending) (w' : World) : Prop :=
  Below w.heap.size w w' ∧ ((numOk l = false ∧ ∃ n A c, e = .returned (.tuple #[.agg #[.bool false, .slice A n c], .bool false])) ∨
    (numOk l = true ∧ ∃ A c, e = .returned (.tuple #[.agg #[.bool false, .slice A (dg (Qn.val l)).length c], .bool true]) ∧ ND w' A c (Qn.val l)))
theorem qval_app (q r : List UInt8) : Qn.val (q ++ r) = Qn.val q * 10 ^ r.length + Qn.val r := by
 refine Qn.snoc_ind (P := fun r => Qn.val (q ++ r) = Qn.val q * 10 ^ r.length + Qn.val r) ?_ ?_ r
 ·simp [Qn.val]
 ·intro r c ih
  rw [← List.append_assoc, Qn.val_snoc, ih, Qn.val_snoc, List.length_append, List.length_singleton, Nat.pow_succ, Nat.mul_add]
  have e : 10 * (Qn.val q * 10 ^ r.length) = Qn.val q * (10 ^ r.length * 10) := by rw [Nat.mul_comm, Nat.mul_assoc]
  omega
theorem qval_len {q : List UInt8} (h : ∀ c ∈ q, isD c = true) : (dg (Qn.val q)).length ≤ q.length :=
  dg_len_lt (Nat.lt_of_lt_of_le (Qn.val_lt q h) (Nat.pow_le_pow_left (by decide) _))
structure FdM (w wr : World) (l : List UInt8) (M : Option Addr) (cm lm n i : Nat) : Prop where
  len : (dg n).length = lm
  eq : n = Qn.val (l.take i)
  nd : ND wr M cm n
  dig : ∀ c ∈ l.take i, isD c = true
  b2 : Blk wr w.heap.size 52 #[.bool false, .slice none 0 0]
  below : Below w.heap.size w wr
theorem fdig_w (s : ByteArray) (w : World) (h0 : 0 < s.size) (hs : s.size ≤ 64) :
    Calls Tryz.prog 31 #[.string s] w (RetFDw s.data.toList w) := by
  have HL := zh (len_size s); have hbA : Below w.heap.size w (w.alloc (.cells #[.bool false, .slice none 0 0] 52)) := bal; have K2 := Blk.new w 52 #[.bool false, .slice none 0 0]; have H0 : Hid (FdM w (w.alloc (.cells #[.bool false, .slice none 0 0] 52)) s.data.toList none 0 0 0 0) := zh ⟨by rw [dg_zero]; rfl, rfl, ND.zero _, by simp, K2, hbA⟩
  have hne : s.toList.isEmpty = false := by
   rw [Lib.toList_data]
   cases h : s.data.toList with
   | nil => have h2 := HL.out; rw [h] at h2; simp at h2; omega
   | cons _ _ => rfl
  have hne' : ¬ s.toList = [] := by
   rw [Lib.toList_data]; intro h; have h2 := HL.out; rw [h] at h2; simp at h2; omega
  clear K2 hbA; go_enter Tryz.func31, Tryz.ntmps31; go_upto_block 0 with (fail); generalize w.alloc (.cells #[.bool false, .slice none 0 0] 52) = w1 at *; go_wp2
  go_loopw [4, 5] (fun s4 s5 wr => ∃ (n lm cm i : Nat) (M : Option Addr), s4 = .slice M lm cm ∧ s5 = .int .i64 (i : Nat) ∧ i ≤ s.size ∧ Hid (FdM w wr s.data.toList M cm lm n i)) (fun _ s5 _ => s.size - (intOf s5).toNat)
  case atStart => exact ⟨0, 0, 0, 0, none, rfl, rfl, Nat.zero_le _, H0⟩
  case round =>
   clear H0; obtain ⟨wo, rfl⟩ : ∃ wo : World, wo = wr := ⟨_, rfl⟩; obtain ⟨n, lm, cm, i, M, rfl, rfl, hi, HM⟩ := hrel
   have hlm : lm ≤ 64 := by
    rw [← HM.out.len, HM.out.eq]; refine Nat.le_trans (qval_len HM.out.dig) ?_; rw [List.length_take]; omega
   have HBW := zh HM.out.below; have HB2 := zh HM.out.b2; have hglt := HM.out.b2.lt; obtain ⟨a0, a1, a2, a3⟩ := HM.out.b2.two
   by_cases his : i = s.size
   ·have d1 : decide ((i : Int) < (s.size : Int)) = false := dF (by omega); have d2 : decide (i < s.size) = false := dF (by omega)
    have hok : Hid (numOk s.data.toList = true) := zh (by
     rw [numOk_iff]; have h := HM.out.dig; rw [List.take_of_length_le (by rw [HL.out]; omega)] at h
     exact ⟨h, fun e => by have := HL.out; rw [e] at this; simp at this; omega⟩)
    have HN : Hid ((dg (Qn.val s.data.toList)).length = lm ∧ ND wo M cm (Qn.val s.data.toList)) := zh (by
     have e : n = Qn.val s.data.toList := by rw [HM.out.eq, List.take_of_length_le (by rw [HL.out]; omega)]
     rw [← e]
     exact ⟨HM.out.len, HM.out.nd⟩)
    have HMK := zh (fun W => make1_any false M lm cm W false rfl (by omega)); clear his HM a0 a1 a2 a3
    go_wp2_with (go_at_call 32; refine (HMK.out _).mono ?_; rintro e w3 ⟨rfl, hb3⟩; have K3 := HB2.out.keep hb3 HB2.out.lt; obtain ⟨j0, j1, j2, j3⟩ := K3.two)
    have hN3 := HN.out.2.keep hb3; refine bodyPost_ret (v := .tuple #[.agg #[.bool false, .slice M lm cm], .bool true]) (by simp [results, Tryz.results31, go_sem, j0, j1]) rfl ⟨?_, .inr ⟨hok.out, M, cm, by rw [HN.out.1], ?_⟩⟩
    ·exact below_far (below_far (below_all HBW.out hb3) (Nat.le_refl _) _ _) (Nat.le_refl _) _ _
    ·exact (hN3.far K3 (by decide) _ _).far (K3.set _ _) (by decide) _ _
   ·have hil : i < s.size := by omega
    have d1 : decide ((i : Int) < (s.size : Int)) = true := dT (by omega); have d2 : decide (i < s.size) = true := dT hil; clear his; go_upto_block 2 with (fail)
    go_cut [5, 6, 7] (fun s5 s6 s7 wx => wx = wo ∧ ∃ m k x y : Nat, s5 = .int .i64 (m : Nat) ∧ s6 = .int .u32 (x : Nat) ∧ s7 = .int .u32 (y : Nat) ∧ i < m ∧ m ≤ s.size ∧ x < 1000000000 ∧ 0 < y ∧ y ≤ 1000000000 ∧ Hid (m = i + k ∧ x = Qn.val ((s.data.toList.drop i).take k) ∧ y = 10 ^ k ∧ ∀ c ∈ (s.data.toList.drop i).take k, isD c = true))
    case first =>
     go_wp2
     go_loop [5, 6, 7, 8] (fun s5 s6 s7 s8 => ∃ m k x y : Nat, s5 = .int .i64 (m : Nat) ∧ s6 = .int .u32 (x : Nat) ∧ s7 = .int .u32 (y : Nat) ∧ s8 = .int .i64 (k : Nat) ∧ m ≤ s.size ∧ k ≤ 9 ∧ x < 1000000000 ∧ 0 < y ∧ y ≤ 1000000000 ∧ Hid (m = i + k ∧ x = Qn.val ((s.data.toList.drop i).take k) ∧ y = 10 ^ k ∧ x < 10 ^ k ∧ ∀ c ∈ (s.data.toList.drop i).take k, isD c = true)) (fun _ _ _ s8 => 9 - (intOf s8).toNat)
     case atStart => exact ⟨i, 0, 0, 1, rfl, rfl, rfl, rfl, hi, by omega, by omega, by omega, by omega, zh ⟨rfl, rfl, rfl, by decide, by simp⟩⟩
     case round =>
      obtain ⟨m, k, x, y, rfl, rfl, rfl, rfl, hm, hk, hx, hy0, hy, HV⟩ := hrel
      by_cases hk9 : k < 9
      rotate_left
      ·have h9 : decide ((k : Int) < 9) = false := dF (by omega)
       have him : i < m := by have := HV.out.1; omega
       have HV2 : Hid (m = i + k ∧ x = Qn.val ((s.data.toList.drop i).take k) ∧ y = 10 ^ k ∧ ∀ c ∈ (s.data.toList.drop i).take k, isD c = true) := zh ⟨HV.out.1, HV.out.2.1, HV.out.2.2.1, HV.out.2.2.2.2⟩; clear HV hk9; go_wp2; go_meet; exact ⟨rfl, m, k, x, y, rfl, rfl, rfl, him, hm, hx, hy0, hy, HV2⟩
      have h9 : decide ((k : Int) < 9) = true := dT (by omega)
      by_cases hms : m < s.size
      rotate_left
      ·have g0 : decide ((m : Int) < (s.size : Int)) = false := dF (by omega); have g0' : decide (m < s.size) = false := dF hms
       have him : i < m := by omega
       have HV2 : Hid (m = i + k ∧ x = Qn.val ((s.data.toList.drop i).take k) ∧ y = 10 ^ k ∧ ∀ c ∈ (s.data.toList.drop i).take k, isD c = true) := zh ⟨HV.out.1, HV.out.2.1, HV.out.2.2.1, HV.out.2.2.2.2⟩; clear HV hms; go_wp2; go_meet; exact ⟨rfl, m, k, x, y, rfl, rfl, rfl, him, hm, hx, hy0, hy, HV2⟩
      have g0 : decide ((m : Int) < (s.size : Int)) = true := dT (by omega); have g0' : decide (m < s.size) = true := dT hms
      have hlt' : m < s.data.toList.length := by rw [HL.out]; exact hms
      have hltd : k < (s.data.toList.drop i).length := by rw [List.length_drop]; have := HV.out.1; omega
      have hel : (s.data.toList.drop i)[k] = s[m] := by
       rw [List.getElem_drop]; have e := HV.out.1; subst e
       rfl
      have HX : Hid (Qn.val ((s.data.toList.drop i).take (k + 1)) = 10 * Qn.val ((s.data.toList.drop i).take k) + (s[m].toNat - 48)) := zh (by rw [val_take _ _ hltd, hel]); have HT : Hid ((s.data.toList.drop i).take (k + 1) = (s.data.toList.drop i).take k ++ [s[m]]) := zh (by rw [List.take_succ_eq_append_getElem hltd, hel]); have HMEM : Hid (s[m] ∈ s.data.toList) := zh (List.getElem_mem hlt')
      have hb8 : 10 ^ k ≤ 100000000 := by
       have : 10 ^ k ≤ 10 ^ 8 := Nat.pow_le_pow_right (by omega) (by omega); exact Nat.le_trans this (by decide)
      have hx8 : x < 100000000 := Nat.lt_of_lt_of_le HV.out.2.2.2.1 hb8
      have hy8 : y ≤ 100000000 := by rw [HV.out.2.2.1]; exact hb8
      clear hb8 hel
      by_cases hD : isD s[m] = true
      ·obtain ⟨e1, e2⟩ := isD_int hD; have e1' : (48 : Int) ≤ (s[m].toNat : Int) := e1; have e2' : (s[m].toNat : Int) ≤ 57 := e2; have HDD := zh hD
       have g1 : decide ((s[m].toNat : Int) < 48) = false := by simp; omega
       have g2 : decide ((57 : Int) < (s[m].toNat : Int)) = false := by simp; omega
       clear e1 e2 hD; go_wp2; go_round
       case rel =>
        have h1 := HX.out; have h2 := HV.out; rw [← h2.2.1] at h1; refine ⟨m + 1, k + 1, 10 * x + (s[m].toNat - 48), y * 10, by go_num, by go_num, by go_num, by go_num, by omega, by omega, by omega, by omega, by omega, zh ⟨by omega, h1.symm, by rw [h2.2.2.1, Nat.pow_succ], ?_, ?_⟩⟩
        ·rw [Nat.pow_succ]; omega
        ·rw [HT.out]; intro c hc
         rcases List.mem_append.1 hc with h | h
         ·exact h2.2.2.2.2 c h
         ·simp at h; subst h; exact HDD.out
       case measure => simp [intOf]; omega
      ·have hno : Hid (numOk s.data.toList = false) := zh (by
        apply eq_false_of_ne_true; rw [numOk_iff]
        exact fun h => hD (h.1 _ HMEM.out))
       by_cases hl : s[m].toNat < 48
       ·have g1 : decide ((s[m].toNat : Int) < 48) = true := by simp; omega
        clear hD; go_wp2; refine bodyPost_ret (v := .tuple #[.agg #[.bool false, .slice none 0 0], .bool false]) (by simp [results, Tryz.results31, go_sem, a0, a1]) rfl ⟨?_, .inl ⟨hno.out, 0, none, 0, rfl⟩⟩; exact below_far (below_far HBW.out (Nat.le_refl _) _ _) (Nat.le_refl _) _ _
       ·have g1 : decide ((s[m].toNat : Int) < 48) = false := by simp; omega
        have g2 : decide ((57 : Int) < (s[m].toNat : Int)) = true := by
         simp; rw [isD_iff] at hD; omega
        clear hD hl; go_wp2; refine bodyPost_ret (v := .tuple #[.agg #[.bool false, .slice none 0 0], .bool false]) (by simp [results, Tryz.results31, go_sem, a0, a1]) rfl ⟨?_, .inl ⟨hno.out, 0, none, 0, rfl⟩⟩; exact below_far (below_far HBW.out (Nat.le_refl _) _ _) (Nat.le_refl _) _ _
    case rest =>
     obtain ⟨rfl, m, k, x, y, rfl, rfl, rfl, him, hm, hx, hy0, hy, HV⟩ := hcut
     have HDM : Hid (∀ c ∈ s.data.toList.take m, isD c = true) := zh (by
      rw [HV.out.1, List.take_add]; intro c hc
      rcases List.mem_append.1 hc with h | h
      ·exact HM.out.dig c h
      ·exact HV.out.2.2.2 c h)
     have HEQ : Hid (n * y + x = Qn.val (s.data.toList.take m)) := zh (by
      have hl : ((s.data.toList.drop i).take k).length = k := by
       rw [List.length_take, List.length_drop, HL.out]; have := HV.out.1; omega
      have e := HV.out.1
      rw [e, List.take_add, qval_app, hl, ← HM.out.eq, ← HV.out.2.1, ← HV.out.2.2.1])
     have hml : (dg (n * y + x)).length ≤ 64 := by
      rw [HEQ.out]; refine Nat.le_trans (qval_len HDM.out) ?_; rw [List.length_take]; omega
     have hml1 : (dg (n * y)).length ≤ 64 := Nat.le_trans (dg_len_mono (Nat.le_add_right _ _)) hml; obtain ⟨l1, hl1⟩ := eqx ((dg (n * y)).length); obtain ⟨l2, hl2⟩ := eqx ((dg (n * y + x)).length); obtain ⟨lx, hlx⟩ := eqx ((dg x).length)
     have hlx1 : lx ≤ 1 := by rw [← hlx]; exact dg_len_lt (by rw [Nat.pow_one]; simp only [B]; omega)
     have hyB : y < 4294967296 := by omega
     have hxB : x < 4294967296 := by omega
     have hdy : dg y = [y] := dg_small (by omega) hyB; have hbW : Below wc.heap.size wc (wc.alloc (.cells #[.int .u32 (y : Nat)] 103)) := bal
     have HMU : Hid (Calls Tryz.prog 57 #[.slice M lm cm, .slice (some ⟨wc.heap.size, 0, none⟩) 1 1] (wc.alloc (.cells #[.int .u32 (y : Nat)] 103)) fun e w' => ∃ R cr, e = .returned (.slice R l1 cr) ∧ Hid (ND w' R cr (n * y)) ∧ Hid (Below wc.heap.size wc w')) := zh (by
      have := nmul_any M (some ⟨wc.heap.size, 0, none⟩) cm 1 n y (wc.alloc (.cells #[.int .u32 (y : Nat)] 103)) (HM.out.nd.keep hbW).digs (by rw [hdy]; exact digs_blk (Blk.new wc 103 #[.int .u32 (y : Nat)])) (by rw [HM.out.len]; omega) (by rw [hdy]; simp); rw [hdy, HM.out.len] at this; unfold RetDg at this; rw [hl1] at this
      exact this.mono fun e w' ⟨R, cr, h1, h2, h3⟩ => ⟨R, cr, h1, zh h2, zh (below_all hbW h3)⟩)
     have HTR : Hid (∀ V : World, Calls Tryz.prog 58 #[.slice (some ⟨V.heap.size, 0, none⟩) 1 1] (V.alloc (.cells #[.int .u32 (x : Nat)] 103)) fun e w' => e = .returned (.slice (some ⟨V.heap.size, 0, none⟩) lx 1) ∧ (V.alloc (.cells #[.int .u32 (x : Nat)] 103)) = w') := zh (fun V => by
      have := trim_dg (some ⟨V.heap.size, 0, none⟩) 1 [x] (V.alloc (.cells #[.int .u32 (x : Nat)] 103)) (digs_blk (Blk.new V 103 #[.int .u32 (x : Nat)])) (by intro z hz; simp at hz; subst hz; exact hxB) (by simp) (by simp)
      have e : Go.Bn.val [x] = x := by simp [Go.Bn.val]
      rw [e, hlx] at this
      exact this.mono fun e w' h => ⟨h.1, h.2.1⟩)
     have HAD : Hid (∀ (V : World) (R : Option Addr) (cr : Nat), ND V R cr (n * y) → Calls Tryz.prog 56 #[.slice R l1 cr, .slice (some ⟨V.heap.size, 0, none⟩) lx 1] (V.alloc (.cells #[.int .u32 (x : Nat)] 103)) fun e w' => ∃ R2 cr2, e = .returned (.slice R2 l2 cr2) ∧ Hid (ND w' R2 cr2 (n * y + x)) ∧ Hid (Below V.heap.size V w')) := zh (fun V R cr hR => by
      have hbV : Below V.heap.size V (V.alloc (.cells #[.int .u32 (x : Nat)] 103)) := bal
      have hdx : Digs (V.alloc (.cells #[.int .u32 (x : Nat)] 103)) (some ⟨V.heap.size, 0, none⟩) (dg x) := by
       have h1 := digs_blk (v := x) (Blk.new V 103 #[.int .u32 (x : Nat)])
       by_cases h0 : x = 0
       ·rw [h0, dg_zero]; exact Digs.nil _ _
       ·rw [dg_small h0 hxB]; exact h1
      have := nadd_any R (some ⟨V.heap.size, 0, none⟩) cr 1 (n * y) x (V.alloc (.cells #[.int .u32 (x : Nat)] 103)) (hR.keep hbV).digs hdx (by omega) (by omega); unfold RetDg at this; rw [hl1, hlx, hl2] at this
      exact this.mono fun e w' ⟨R2, cr2, h1, h2, h3⟩ => ⟨R2, cr2, h1, zh h2, zh (below_all hbV h3)⟩)
     have HL2 := zh hl2; have HV1 : Hid (i < m) := zh him; clear hl1 hl2 hlx hdy hbW hml hml1 hyB hxB HV a0 a1 a2 a3
     go_wp2_with (first
       | (go_at_call 57; refine HMU.out.mono ?_; rintro e w2 ⟨R, cr, rfl, HR, HB3⟩; have HAD2 := zh (HAD.out w2 R cr HR.out); have HTR2 := zh (HTR.out w2))
       | (go_at_call 58; refine HTR2.out.mono ?_; rintro e w3 ⟨rfl, rfl⟩)
       | (go_at_call 56; refine HAD2.out.mono ?_; rintro e w4 ⟨R2, cr2, rfl, HR2, HB4⟩))
     have HBZ := below_all HB3.out HB4.out; go_roundw
     case rel => exact ⟨n * y + x, l2, cr2, m, R2, rfl, rfl, hm, zh ⟨HL2.out, HEQ.out, HR2.out, HDM.out, HB2.out.keep HBZ HB2.out.lt, below_all HBW.out HBZ⟩⟩
     case measure => simp [intOf]; omega
theorem fdigs_w (s : ByteArray) (w : World) (hs : s.size ≤ 64) :
    Calls Tryz.prog 31 #[.string s] w (RetFDw s.data.toList w) := by
  by_cases h0 : s.size = 0
  ·have e : s = ByteArray.empty := by
    rw [← bs_self s, List.eq_nil_of_length_eq_zero (l := s.data.toList) (by rw [len_size]; exact h0)]; rfl
   subst e; refine (fdig_nil w).mono ?_; rintro e w' ⟨hb, ⟨h1, h2⟩ | ⟨h1, _⟩⟩
   ·exact ⟨hb, .inl ⟨h1, h2⟩⟩
   ·exact absurd h1 (by decide)
  ·exact fdig_w s w (by omega) hs
def RetRRw (l : List UInt8) (w : World) (e : Ending) (w' : World) : Prop :=
  Below w.heap.size w w' ∧ ((rd l = none ∧ ∃ x A n c y B m d, e = .returned (.tuple #[.agg #[.bool x, .slice A n c, .bool y, .slice B m d], .bool false])) ∨
    (∃ b n m, rd l = some (b, n, m) ∧ n < 10 ^ 64 ∧ m < 10 ^ 64 ∧ m ≠ 0 ∧ ∃ N cn D cd, e = .returned (.tuple #[.agg #[.bool b, .slice N (dg n).length cn, .bool false, .slice D (dg (dnz m)).length cd], .bool true]) ∧ ND w' N cn n ∧ ND w' D cd (dnz m)))
structure RSw (w : World) (g : Nat) (l : List UInt8) (sb : Bool) (n m : Nat) (N : Option Addr) (cn : Nat) (D : Option Addr) (cd : Nat) (wx : World) : Prop where
  below : Below w.heap.size w wx
  b2 : Blk wx w.heap.size 54 #[.bool false, .slice none 0 0, .bool false, .slice none 0 0]
  b10 : Blk wx g 54 #[.bool sb, .slice N (dg n).length cn, .bool false, .slice D (dg (dnz m)).length cd]
  dn : ND wx N cn n
  dd : ND wx D cd (dnz m)
  ref : refN l = some (sb, n, m)
  bn : n < 10 ^ 64
  bm : m < 10 ^ 64
  m0 : m ≠ 0
theorem rread_w (s : ByteArray) (w : World) (hs : s.size ≤ 64) :
    Calls Tryz.prog 19 #[.string s] w (RetRRw s.data.toList w) := by
  obtain ⟨l, hl⟩ := eqx (s.data.toList); rw [hl]; obtain ⟨b, r, hc⟩ : ∃ b r, cut l = (b, r) := ⟨_, _, rfl⟩
  have hll : l.length = s.size := by rw [← hl]; exact len_size s
  have hrl : r.length ≤ 64 := by
   have := (spl_len hc).2; omega
  obtain ⟨k0, hk0⟩ := eqx ((r.takeWhile ne47).length)
  have hk0l : k0 ≤ r.length := by rw [← hk0]; exact tw_len _ _
  have HK0 := zh hk0; have HC := zh hc; have HLL := zh hl
  have HB : Hid (b = decide (s.data.toList.head? = some 45) ∧ bs r = if b = true then s.extract 1 s.size else s) := zh (by
   have h1 := hc; unfold cut at h1; rw [hl]
   by_cases h : l.head? = some 45
   ·rw [if_pos h] at h1
    injection h1 with e1 e2
    subst e1 e2; rw [dT h]; exact ⟨rfl, by rw [if_pos rfl, ext_end, hl]; simp⟩
   ·rw [if_neg h] at h1
    injection h1 with e1 e2
    subst e1 e2; rw [dF h]
    exact ⟨rfl, by rw [if_neg (by simp), ← hl, bs_self]⟩)
  clear hk0 hc hl; obtain ⟨R, hR⟩ := eqx (bs r); rw [hR] at HB
  have hRs : R.size ≤ 64 := by rw [← hR, bs_size]; exact hrl
  have hkR : k0 ≤ R.size := by rw [← hR, bs_size]; exact hk0l
  have HRR := zh hR; have HRL : Hid (R.size = r.length) := zh (by rw [← hR, bs_size]); clear hR hrl hk0l; obtain ⟨W, hW⟩ := eqx (w.alloc (.cells #[.bool false, .slice none 0 0, .bool false, .slice none 0 0] 54))
  have B2 : Blk W w.heap.size 54 #[.bool false, .slice none 0 0, .bool false, .slice none 0 0] := by rw [← hW]; exact Blk.new _ _ _
  have hbW : Below w.heap.size w W := by rw [← hW]; exact bal
  go_enter Tryz.func19, Tryz.ntmps19; go_upto_region 2 with (fail)
  try rw [hW]
  clear hW
  go_cut [5] from 13 (fun s5 wx => s5 = .bool b ∧ W = wx)
  case first =>
   by_cases h0 : 0 < s.size
   ·have hh : s.data.toList.head? = some s[0] := by
     have hlen := len_size s
     cases h : s.data.toList with
     | nil => rw [h] at hlen; simp at hlen; omega
     | cons x t =>
       simp only [List.head?_cons, Option.some.injEq]; have : s[0] = s.data.toList[0]'(by rw [hlen]; exact h0) := rfl; rw [this]; simp [h]
    have hd0 : decide ((0 : Int) < (s.size : Int)) = true := by simp; omega
    have hd0' : decide (0 < s.size) = true := by simp; omega
    by_cases h45 : s[0] = 45
    ·have hq : ((s[0].toNat : Int) == 45) = true := by rw [h45]; rfl
     have hb : b = true := by rw [HB.out.1, hh, h45]; rfl
     subst hb; clear hh h45; go_wp2; go_meet; exact ⟨rfl, rfl⟩
    ·have hq : ((s[0].toNat : Int) == 45) = false := by
      apply beq_eq_false_iff_ne.2; intro e
      have e2 : s[0].toNat = 45 := by omega
      exact h45 (UInt8.toNat_inj.1 (by rw [e2]; rfl))
     have hb : b = false := by rw [HB.out.1, hh]; simp [h45]
     subst hb; clear hh h45; go_wp2; go_meet; exact ⟨rfl, rfl⟩
   ·have hb : b = false := by
     rw [HB.out.1]; have hlen := len_size s; have : s.data.toList = [] := List.eq_nil_of_length_eq_zero (by omega); rw [this]; rfl
    subst hb; have hd0 : decide ((0 : Int) < (s.size : Int)) = false := dF (by omega); have hd0' : decide (0 < s.size) = false := dF h0; go_wp2; go_meet; exact ⟨rfl, rfl⟩
  case rest =>
   obtain ⟨rfl, rfl⟩ := hcut; go_upto_if 22 with (fail)
   go_cut [4] from 13 (fun s4 wx => s4 = .string R ∧ W = wx)
   case first =>
    have HBR := zh HB.out.2
    have hs1 : b = true → 1 ≤ (s.size : Int) := by
     intro h; have h1 := HB.out.1; rw [h] at h1; have hlen := len_size s
     cases h2 : s.data.toList with
     | nil => rw [h2] at h1; simp at h1
     | cons x t => rw [h2] at hlen; simp at hlen; omega
    cases b with
    | true =>
      have hs1 := hs1 rfl; go_wp2; go_meet; exact ⟨by rw [HBR.out, if_pos trivial], rfl⟩
    | false =>
      go_wp2; go_meet; exact ⟨by rw [HBR.out, if_neg (by simp)], rfl⟩
   case rest =>
    obtain ⟨rfl, rfl⟩ := hcut; go_upto_block 0 with (fail)
    go_cut [6, 7] from 13 (fun s6 s7 wx => s6 = .int .i64 k0 ∧ W = wx)
    case first =>
     go_wp2
     go_loop [6, 7] (fun s6 s7 => ∃ k : Nat, s6 = .int .i64 R.size ∧ s7 = .int .i64 k ∧ k ≤ R.size ∧ Hid (∀ c ∈ r.take k, ne47 c = true)) (fun _ s7 => R.size - (intOf s7).toNat)
     case atStart => exact ⟨0, rfl, rfl, Nat.zero_le _, zh (by simp)⟩
     case round =>
      obtain ⟨k, rfl, rfl, hk, HN⟩ := hrel
      by_cases hlt : k < R.size
      ·have hlr : k < r.length := by rw [← HRL.out]; exact hlt
       have HX : Hid (R[k] = r[k]) := zh (by
        have h := HRR.out; subst h
        rfl)
       have HT0 : Hid (r.take (k + 1) = r.take k ++ [r[k]]) := zh (List.take_succ_eq_append_getElem hlr)
       by_cases h47 : R[k] = 47
       ·have hq : ((R[k].toNat : Int) == 47) = true := by rw [h47]; rfl
        obtain rfl : k = k0 := by
         have h1 := tw47 r k HN.out (.inr ⟨hlr, by rw [← HX.out, h47]; rfl⟩); rw [HK0.out] at h1; omega
        clear h47; go_wp2; go_meet; exact ⟨rfl, rfl⟩
       ·have hq : ((R[k].toNat : Int) == 47) = false := by
         apply beq_eq_false_iff_ne.2; intro e
         have e2 : R[k].toNat = 47 := by omega
         exact h47 (UInt8.toNat_inj.1 (by rw [e2]; rfl))
        have HN2 : Hid (∀ c ∈ r.take (k + 1), ne47 c = true) := zh (by
         rw [HT0.out]; intro c hc
         rcases List.mem_append.1 hc with h | h
         ·exact HN.out c h
         ·simp only [List.mem_cons, List.not_mem_nil, or_false] at h; rw [h, ← HX.out]; unfold ne47
          simp [h47])
        clear h47; go_wp2; go_round
        case rel => exact ⟨k + 1, rfl, by go_num, by omega, HN2⟩
        case measure => simp [intOf]; omega
      ·have hkk : k0 = R.size := by
        have h1 := tw47 r k HN.out (.inl (by rw [← HRL.out]; omega)); rw [HK0.out, ← HRL.out] at h1; omega
       obtain rfl : k = R.size := by omega
       have dd : decide (R.size < R.size) = false := by simp
       have HKK := zh hkk; clear hkk; go_wp2; go_meet; exact ⟨by rw [HKK.out], rfl⟩
    case rest =>
     obtain ⟨rfl, rfl⟩ := hcut; obtain ⟨ta, hta⟩ := eqx (r.takeWhile ne47)
     have hex : R.extract 0 k0 = bs ta := by
      rw [← HRR.out, ext_bs, bs_data, ← hta]; have := List.takeWhile_append_dropWhile (p := ne47) (l := r)
      have h2 : r.take k0 = r.takeWhile ne47 := by
       rw [← HK0.out]; have h3 := List.take_left (l₁ := r.takeWhile ne47) (l₂ := r.dropWhile ne47); rw [this] at h3; exact h3
      simpa using congrArg bs h2
     have htl : ta.length ≤ 64 := by rw [← hta, HK0.out]; omega
     have HFD1 : Hid (∀ V, Calls Tryz.prog 31 #[.string (R.extract 0 k0)] V (RetFDw ta V)) := zh (fun V => by
      rw [hex]
      exact fdigs_w (bs ta) V (by rw [bs_size]; exact htl))
     have q1 : (k0 : Int) ≤ (R.size : Int) := by omega
     have q2 : (0 : Int) ≤ (k0 : Int) := by omega
     have q3 : ((k0 : Int)).toNat = k0 := by omega
     have HTA := zh hta; clear hta hex; go_wp2_with (fail); refine (HFD1.out _).mono ?_; rintro e w1 ⟨hb1, ⟨hno, n, A, c, rfl⟩ | ⟨hok, ad, c, rfl, hD⟩⟩
     ·have C2 := B2.keep hb1 B2.lt; obtain ⟨a0, a1, a2, a3, f0, f1, f2, f3⟩ := C2.four; have hlt2 := C2.lt
      have HRN : Hid (rd l = none) := zh (rd_none_of (by
       unfold refN; rw [HC.out, HTA.out]
       simp [hno]))
      clear hno; go_wp2; refine bodyPost_ret (v := .tuple #[.agg #[.bool false, .slice none 0 0, .bool false, .slice none 0 0], .bool false]) (by simp [results, Tryz.results19, go_sem, a0, a1, a2, a3, hlt2]) rfl ⟨?_, .inl ⟨HRN.out, false, none, 0, 0, false, none, 0, 0, rfl⟩⟩; have hsz := (below_all hbW hb1).size; exact (below_far (below_far (below_far (below_far (below_all hbW hb1) (Nat.le_refl _) _ _) (Nat.le_refl _) _ _) (Nat.le_refl _) _ _) (Nat.le_refl _) _ _).alloc (by simp; omega) _
     ·have hxl : val ta < 10 ^ 64 := Nat.lt_of_lt_of_le (val_lt ta (numOk_iff.1 hok).1) (Nat.pow_le_pow_right (by decide) htl); obtain ⟨x, hx⟩ := eqx (val ta); rw [hx] at hxl hD; have hml : (dg x).length ≤ 250 := len_250 (Nat.lt_of_lt_of_le hxl (Nat.pow_le_pow_right (by decide) (by decide))); obtain ⟨nx, hnx⟩ := eqx ((dg x).length); obtain ⟨sb, hsb⟩ := eqx ((b && decide (x ≠ 0)))
      have HM : Hid (∀ V, Calls Tryz.prog 32 #[.bool b, .slice ad nx c] V fun e w' => e = .returned (.agg #[.bool sb, .slice ad nx c]) ∧ Below V.heap.size V w') := zh (fun V => by
       have := make1_any b ad (dg x).length c V sb (by rw [dg_sgn, hsb]) (by omega)
       rwa [hnx] at this)
      rw [hx, hnx]; have HNX := zh hnx; have HSB := zh hsb; have HXV := zh hx; have HOK := zh hok; clear hnx hsb hx hok hml; go_upto_region 14 with (fail); obtain ⟨V1, hV1⟩ := eqx (w1.alloc (.cells #[.bool false, .slice ad nx c] 52))
      have B8 : Blk V1 w1.heap.size 52 #[.bool false, .slice ad nx c] := by rw [← hV1]; exact Blk.new _ _ _
      have hbV1 : Below w1.heap.size w1 V1 := by rw [← hV1]; exact bal
      obtain ⟨p0, p1, _, _⟩ := B8.two
      try rw [hV1]
      clear hV1
      go_upto_region 15 with (go_at_call 32; refine (HM.out _).mono ?_; rintro e w3 ⟨rfl, hb3⟩)
      obtain ⟨V3, hV3⟩ := eqx (w3.alloc (.cells #[.bool sb, .slice ad nx c, .bool false, .slice none 0 0] 54))
      have B10 : Blk V3 w3.heap.size 54 #[.bool sb, .slice ad nx c, .bool false, .slice none 0 0] := by rw [← hV3]; exact Blk.new _ _ _
      have hbV3 : Below w3.heap.size w3 V3 := by rw [← hV3]; exact bal
      try rw [hV3]
      clear hV3; have hb13 := below_all (below_all hbV1 hb3) hbV3; have C2 := (B2.keep hb1 B2.lt).keep hb13 (B2.keep hb1 B2.lt).lt; have hD3 := hD.keep hb13; have hbw3 := below_all (below_all hbW hb1) hb13
      have hglt : w.heap.size < w3.heap.size := by
       have h1 := B2.lt; have h2 := hb1.size; have h3 := hbV1.size; have h4 := hb3.size; omega
      clear hb13 hb1 hb3 hbV1 hbV3 hD B2 p0 p1 B8; go_upto_if 56 with (fail)
      go_cut [11, 12] from 13 (fun s11 s12 wx => ∃ n m N cn D cd, RSw w w3.heap.size l sb n m N cn D cd wx)
      case first =>
       by_cases hke : k0 < R.size
       ·obtain ⟨t, hdw, ht⟩ := drop47 (r := r) (by rw [HK0.out, ← HRL.out]; exact hke)
        have hex2 : R.extract (k0 + 1) R.size = bs t := by rw [ext_end, ← HRR.out, bs_data, ht, HK0.out]
        have htl2 : t.length ≤ 64 := by rw [ht, List.length_drop, HK0.out, ← HRL.out]; omega
        have HFD2 : Hid (∀ V, Calls Tryz.prog 31 #[.string (R.extract (k0 + 1) R.size)] V (RetFDw t V)) := zh (fun V => by
         rw [hex2]
         exact fdigs_w (bs t) V (by rw [bs_size]; exact htl2))
        have HDW := zh hdw; clear hdw ht hex2
        have q4 : (k0 : Int) + 1 ≤ (R.size : Int) := by omega
        have q5 : ((k0 : Int) + 1).toNat = k0 + 1 := by omega
        have q6 : (0 : Int) ≤ (k0 : Int) + 1 := by omega
        have q7 : (k0 : Int) < (R.size : Int) := by omega
        have q8 : decide ((k0 : Int) < (R.size : Int)) = true := dT q7; have q9 : decide (k0 < R.size) = true := dT hke; go_wp2_with (fail); refine (HFD2.out _).mono ?_; rintro e w4 ⟨hb4, ⟨hno, n2, A2, c2, rfl⟩ | ⟨hok2, ad2, c2, rfl, hD2⟩⟩
        ·have E2 := C2.keep hb4 C2.lt; obtain ⟨a0, a1, a2, a3, f0, f1, f2, f3⟩ := E2.four; have hlt2 := E2.lt
         have HRN : Hid (rd l = none) := zh (rd_none_of (by
          unfold refN; rw [HC.out, HTA.out, HDW.out]
          simp [hno, HOK.out]))
         clear hno; go_wp2; refine bodyPost_ret (v := .tuple #[.agg #[.bool false, .slice none 0 0, .bool false, .slice none 0 0], .bool false]) (by simp [results, Tryz.results19, go_sem, a0, a1, a2, a3, hlt2]) rfl ⟨?_, .inl ⟨HRN.out, false, none, 0, 0, false, none, 0, 0, rfl⟩⟩; have hsz := (below_all hbw3 hb4).size; exact (below_far (below_far (below_far (below_far (below_all hbw3 hb4) (Nat.le_refl _) _ _) (Nat.le_refl _) _ _) (Nat.le_refl _) _ _) (Nat.le_refl _) _ _).alloc (by simp; omega) _
        ·have hyl : val t < 10 ^ 64 := Nat.lt_of_lt_of_le (val_lt t (numOk_iff.1 hok2).1) (Nat.pow_le_pow_right (by decide) htl2); obtain ⟨y, hy⟩ := eqx (val t); rw [hy] at hyl hD2 ⊢; have HYV := zh hy; have HOK2 := zh hok2; clear hy hok2; obtain ⟨ny, hny⟩ := eqx ((dg y).length); rw [hny]; have HNY := zh hny; clear hny
         have hny1 : ny ≤ 250 := by rw [← HNY.out]; exact len_250 (Nat.lt_of_lt_of_le hyl (Nat.pow_le_pow_right (by decide) (by decide)))
         have hnx1 : nx ≤ 250 := by rw [← HNX.out]; exact len_250 (Nat.lt_of_lt_of_le hxl (Nat.pow_le_pow_right (by decide) (by decide)))
         go_upto_region 17 with (fail); obtain ⟨V4, hV4⟩ := eqx (w4.alloc (.cells #[.bool false, .slice ad2 ny c2] 52))
         have B11 : Blk V4 w4.heap.size 52 #[.bool false, .slice ad2 ny c2] := by rw [← hV4]; exact Blk.new _ _ _
         have hbV4 : Below w4.heap.size w4 V4 := by rw [← hV4]; exact bal
         try rw [hV4]
         clear hV4; have hb34 := below_all hb4 hbV4; have E2 := C2.keep hb34 C2.lt; have E10 := B10.keep hb34 B10.lt; have hDx := hD3.keep hb34; have hDy := hD2.keep hbV4; have hbw4 := below_all hbw3 hb34; clear hb4 hbV4 hb34 hD2; obtain ⟨p0, p1, _, _⟩ := B11.two
         by_cases hy0 : y = 0
         ·obtain rfl : ny = 0 := by rw [← HNY.out, hy0, dg_zero]; rfl
          have HS := zh (sign_any false ad2 0 c2 V4 (by omega) 0 (by simp))
          have HRN : Hid (rd l = none) := zh (rd_none_of (by
           unfold refN; rw [HC.out, HTA.out, HDW.out]
           simp [HOK.out, HYV.out, hy0]))
          clear hy0
          go_wp2_with (go_at_call 33; refine HS.out.mono ?_; rintro e w5 ⟨rfl, hb5⟩
                       have F2 := E2.keep hb5 E2.lt; have hlt2 := F2.lt
                       obtain ⟨a0, a1, a2, a3, f0, f1, f2, f3⟩ := F2.four)
          refine bodyPost_ret (v := .tuple #[.agg #[.bool false, .slice none 0 0, .bool false, .slice none 0 0], .bool false]) (by simp [results, Tryz.results19, go_sem, a0, a1, a2, a3]) rfl ⟨?_, .inl ⟨HRN.out, false, none, 0, 0, false, none, 0, 0, rfl⟩⟩; exact below_far (below_far (below_far (below_far (below_all hbw4 hb5) (Nat.le_refl _) _ _) (Nat.le_refl _) _ _) (Nat.le_refl _) _ _) (Nat.le_refl _) _ _
         ·have hnyp : 0 < ny := by rw [← HNY.out]; exact dg_len_pos.2 hy0
          have HS := zh (sign_any false ad2 ny c2 V4 (by omega) 1 (by rw [if_neg (by simp), if_neg (by omega)])); obtain ⟨gg, hgg⟩ := eqx (Nat.gcd x y)
          have HFR : Hid (∀ V, Below V4.heap.size V4 V → Calls Tryz.prog 34 #[.agg #[.bool sb, .slice ad nx c], .agg #[.bool false, .slice ad2 ny c2]] V (RetFr sb (x / gg) (y / gg) V)) := zh (fun V h => by
           have := frac_w sb ad ad2 c c2 x y V (hDx.keep h) (hDy.keep h) (by rw [HNX.out]; omega) (show (dg y).length ≤ 200000 by rw [HNY.out]; omega) hy0 (fun h2 => by
            have h3 := HSB.out; rw [h2] at h3; simp at h3
            exact h3.2)
           rw [HNX.out, HNY.out, hgg] at this
           exact this)
          have hg0 : 0 < gg := by rw [← hgg]; exact Nat.gcd_pos_of_pos_right _ (by omega)
          have hgy : gg ≤ y := by rw [← hgg]; exact Nat.gcd_le_right _ (by omega)
          have HRF : Hid (refN l = some (sb, x / gg, y / gg)) := zh (by
           unfold refN; rw [HC.out, HTA.out, HDW.out]; simp only [HOK.out, if_true, HOK2.out, HXV.out, HYV.out, hgg]
           rw [if_pos ⟨trivial, hy0⟩, HSB.out])
          have hm0 : y / gg ≠ 0 := Nat.pos_iff_ne_zero.1 (Nat.div_pos hgy hg0); have hml : y / gg ≤ y := Nat.div_le_self _ _; have hnl : x / gg ≤ x := Nat.div_le_self _ _; unfold RetFr at HFR; generalize x / gg = qn at *; generalize y / gg = qm at *; clear hy0 hgg; obtain ⟨r0, r1, r2, r3, s0, s1, s2, s3⟩ := E10.four
          go_wp2_with (first
            | (go_at_call 33; refine HS.out.mono ?_; rintro e w5 ⟨rfl, hb5⟩
               have F10 := E10.keep hb5 E10.lt; have F11 := B11.keep hb5 B11.lt; obtain ⟨r0, r1, r2, r3, s0, s1, s2, s3⟩ := F10.four
               obtain ⟨p0, p1, _, _⟩ := F11.two)
            | (go_at_call 34; refine (HFR.out _ hb5).mono ?_; rintro e w6 ⟨N, cn, D, cd, rfl, hN, hDD, hb6⟩
               have G10 := F10.keep hb6 F10.lt
               obtain ⟨r0, r1, r2, r3, s0, s1, s2, s3⟩ := G10.four))
          go_meet; have hb56 := below_all hb5 hb6; refine ⟨qn, qm, N, cn, D, cd, ?_, ?_, ?_, ?_, ?_, HRF.out, Nat.lt_of_le_of_lt hnl hxl, Nat.lt_of_le_of_lt hml hyl, hm0⟩
          ·exact below_far (below_far (below_far (below_far (below_all hbw4 hb56) (by omega) _ _) (by omega) _ _) (by omega) _ _) (by omega) _ _
          ·exact ((((E2.keep hb56 E2.lt).far (by simp; omega) _).far (by simp; omega) _).far (by simp; omega) _).far (by simp; omega) _
          ·exact (((G10.set 0 _).set 1 _).set 2 _).set 3 _
          ·exact ((((hN.far G10 (by decide) _ _).far (G10.set _ _) (by decide) _ _).far ((G10.set _ _).set _ _) (by decide) _ _).far (((G10.set _ _).set _ _).set _ _) (by decide) _ _)
          ·exact ((((hDD.far G10 (by decide) _ _).far (G10.set _ _) (by decide) _ _).far ((G10.set _ _).set _ _) (by decide) _ _).far (((G10.set _ _).set _ _).set _ _) (by decide) _ _)
       ·have q7 : ¬ (k0 : Int) < (R.size : Int) := by omega
        have q8 : decide ((k0 : Int) < (R.size : Int)) = false := dF q7; have q9 : decide (k0 < R.size) = false := dF hke
        have HRF : Hid (refN l = some (sb, x, 1)) := zh (by
         have hdn : r.dropWhile ne47 = [] := by
          have e := congrArg List.length (List.takeWhile_append_dropWhile (p := ne47) (l := r)); rw [List.length_append, HK0.out, ← HRL.out] at e; exact List.eq_nil_of_length_eq_zero (by omega)
         unfold refN; rw [HC.out, HTA.out, hdn]; simp only [HOK.out, if_true, HXV.out]
         rw [HSB.out])
        go_wp2; go_meet; exact ⟨x, 1, ad, c, none, 0, hbw3, C2, by rw [HNX.out, dnz_one, dg_zero]; exact B10, hD3, ND.zero _, HRF.out, hxl, Nat.one_lt_pow (by decide) (by decide), by omega⟩
      case rest =>
       obtain ⟨n, m, N, cn, D, cd, hst⟩ := hcut; obtain ⟨hbx, X2, X10, dn, dd, href, bn, bm, m0⟩ := hst; have HT : Hid (∀ V, Below wc.heap.size wc V → Calls Tryz.prog 35 #[.agg #[.bool sb, .slice N (dg n).length cn, .bool false, .slice D (dg (dnz m)).length cd]] V fun e w' => e = .returned (.string (bs (text sb n m))) ∧ Below wc.heap.size wc w') := zh (fun V h => (text_w sb false N D cn cd n m V (dn.keep h) (dd.keep h) (Nat.lt_of_lt_of_le bn (Nat.pow_le_pow_right (by decide) (by decide))) (Nat.lt_of_lt_of_le bm (Nat.pow_le_pow_right (by decide) (by decide))) m0).mono fun e w' ⟨h1, h2⟩ => ⟨h1, below_all h h2⟩); have HDN := zh dn; have HDD := zh dd; have HX2 := zh X2; have HX10 := zh X10; have HREF := zh href; have hbe : Below wc.heap.size wc wc.drew := brf.drew
       have HTS : Hid (bs (text sb n m) = s ↔ text sb n m = l) := zh (by
        rw [← HLL.out]
        constructor
        ·intro h; rw [← h, bs_data]
        ·intro h; rw [h, bs_self])
       obtain ⟨ST, hST⟩ := eqx (bs (text sb n m)); rw [hST] at HT HTS; obtain ⟨nn, hnn⟩ := eqx ((dg n).length); obtain ⟨nm, hnm⟩ := eqx ((dg (dnz m)).length); rw [hnn, hnm] at HT X10 HX10; have HNN := zh hnn; have HNM := zh hnm; obtain ⟨a0, a1, a2, a3, f0, f1, f2, f3⟩ := X2.four; obtain ⟨r0, r1, r2, r3, _, _, _, _⟩ := X10.four; clear hST hnn hnm dn dd href X2 X10 C2 B10 hD3
       by_cases hts : ST = s
       ·have HEQ := zh (HTS.out.1 hts); subst hts; go_wp2
        go_region_with (go_at_call 35; refine (HT.out _ (by assumption)).mono ?_; rintro e w' ⟨rfl, hbe⟩; have Y2 := HX2.out.keep hbe HX2.out.lt; have Y10 := HX10.out.keep hbe HX10.out.lt; obtain ⟨a0, a1, a2, a3, f0, f1, f2, f3⟩ := Y2.four; obtain ⟨r0, r1, r2, r3, _, _, _, _⟩ := Y10.four)
        all_goals
          go_wp2; have dn' := HDN.out.keep hbe; have dd' := HDD.out.keep hbe; refine bodyPost_ret (v := .tuple #[.agg #[.bool sb, .slice N nn cn, .bool false, .slice D nm cd], .bool true]) (by simp [results, Tryz.results19, go_sem, a0, a1, a2, a3]) rfl ⟨?_, .inr ⟨sb, n, m, ref_rd.2 ⟨HREF.out, HEQ.out⟩, bn, bm, m0, N, cn, D, cd, by rw [HNN.out, HNM.out], ?_, ?_⟩⟩
          ·exact below_far (below_far (below_far (below_far (below_all hbx hbe) (Nat.le_refl _) _ _) (Nat.le_refl _) _ _) (Nat.le_refl _) _ _) (Nat.le_refl _) _ _
          ·exact ((((dn'.far Y2 (by decide) _ _).far (Y2.set _ _) (by decide) _ _).far ((Y2.set _ _).set _ _) (by decide) _ _).far (((Y2.set _ _).set _ _).set _ _) (by decide) _ _)
          ·exact ((((dd'.far Y2 (by decide) _ _).far (Y2.set _ _) (by decide) _ _).far ((Y2.set _ _).set _ _) (by decide) _ _).far (((Y2.set _ _).set _ _).set _ _) (by decide) _ _)
       ·have HNE : Hid (rd l = none) := zh (rd_none_text HREF.out (fun h => hts (HTS.out.2 h)))
        have hn1 : ¬ ST.toList = s.toList := by
         rw [Lib.toList_data, Lib.toList_data]; intro h; exact hts (by rw [← bs_self ST, ← bs_self s, h])
        have hn2 : (ST.toList == s.toList) = false := beq_eq_false_iff_ne.2 hn1; go_wp2
        go_region_with (go_at_call 35; refine (HT.out _ (by assumption)).mono ?_; rintro e w' ⟨rfl, hbe⟩; have Y2 := HX2.out.keep hbe HX2.out.lt; have Y10 := HX10.out.keep hbe HX10.out.lt; obtain ⟨a0, a1, a2, a3, f0, f1, f2, f3⟩ := Y2.four; obtain ⟨r0, r1, r2, r3, _, _, _, _⟩ := Y10.four)
        all_goals
          go_wp2; refine bodyPost_ret (v := .tuple #[.agg #[.bool sb, .slice N nn cn, .bool false, .slice D nm cd], .bool false]) (by simp [results, Tryz.results19, go_sem, a0, a1, a2, a3]) rfl ⟨?_, .inl ⟨HNE.out, sb, N, nn, cn, false, D, nm, cd, rfl⟩⟩; exact below_far (below_far (below_far (below_far (below_all hbx hbe) (Nat.le_refl _) _ _) (Nat.le_refl _) _ _) (Nat.le_refl _) _ _) (Nat.le_refl _) _ _
end
end Go.Proofs.Tg
