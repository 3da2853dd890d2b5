/- Parts of the proof: RB5. -/
import Derived.Test.YtodjofbneeejpaaGreatDoorMBD34
section
/- The reference 19: Bases. -/
namespace Go.Proofs.Tg.Rf
open Go.RowKit Go.Gr Go.Sp Go.Ev Go.Pm Go.Mo Go.Bn Go.Rq Go.Proofs.Tg
open Go.Proofs.Tg.Bk (actE szE szE_ok)
open Go.Proofs.Tg.Gp (indep_any products_any)
set_option maxHeartbeats 4000000
set_option maxRecDepth 100000
theorem bases_any (L Bb : Option Addr) (cL cB n : Nat) (l b : List (List Int)) (w : World) (hL : Lists w L l) (hp : ∀ a ∈ l, Perm n a ∧ cmp a a = unit n) (hn : n ≤ 6) (hl : l.length ≤ 6) (hB : Lists w Bb b) (hb : b.length ≤ 1000) (hbb : ∀ x ∈ b, x.length ≤ 1000) :
    Calls Tryz.prog 39 #[.slice L l.length cL, .int .i64 n, .slice Bb b.length cB] w (RetBases n l b w) := by
  have hpp : ∀ a ∈ l, Perm n a := fun a ha => (hp a ha).1
  have HLL := Lib.hid hL
  have HBB := Lib.hid hB
  by_cases hi : Indep n l
  ·have HIN := Lib.hid (indep_any L cL n l true w hL hpp hn (by omega) ⟨fun _ => hi, fun _ => rfl⟩)
   have hsub := indep_sub hp hi
   have hmm := prods_len n l
   obtain ⟨m, hm⟩ : ∃ m, (prods n l).length = m := ⟨_, rfl⟩
   have hm64 : m ≤ 64 := by
    have : 2 ^ l.length ≤ 2 ^ 6 := Nat.pow_le_pow_right (by omega) hl
    omega
   have hm2 : m = 2 ^ l.length := by omega
   have hil : (imgs n l b).length = m := by unfold imgs; rw [List.length_map, hm]
   have HPR : Hid (∀ V, Below w.heap.size w V → Calls Tryz.prog 58 #[.slice L l.length cL, .int .i64 n] V fun e w' => ∃ A c, e = .returned (.slice A m c) ∧ Lists w' A (prods n l) ∧ Below V.heap.size V w') := Lib.hid (fun V h => by
    have := products_any L cL n l V (hL.keep h) hpp hn hl
    rwa [hm] at this)
   have HAC : Hid (∀ V A c, Lists V A (prods n l) → Lists V Bb b → Calls Tryz.prog 48 #[.slice A m c, .int .i64 n, .slice Bb b.length cB] V (RetActs n (prods n l) b V)) := Lib.hid (fun V A c h h2 => by
    have := racts_any A Bb c cB n (prods n l) b V h (prods_perm hpp) (by omega) h2 hbb hn hb
    rwa [hm] at this)
   by_cases hz : actE n (prods n l) b = 0
   ·obtain ⟨hsz, hnd, hact⟩ := actE_ok hz
    obtain ⟨hbl, hb0, hb64⟩ := szE_ok hsz
    have him := imgs_ok hsub hact hbl hnd
    have HACY : Hid (∀ V A c, Lists V A (prods n l) → Lists V Bb b → Calls Tryz.prog 48 #[.slice A m c, .int .i64 n, .slice Bb b.length cB] V fun e w' => ∃ A2 c2, e = .returned (.tuple #[.slice A2 m c2, .int .i64 0]) ∧ Lists w' A2 (imgs n l b) ∧ Below V.heap.size V w') := Lib.hid (fun V A c h h2 => (HAC.out V A c h h2).mono (fun e w' hor => by
     obtain ⟨_, A2, c2, h3, h4⟩ := hor.2.resolve_left (fun h => h.1 hz)
     rw [hm] at h3
     exact ⟨A2, c2, h3, h4, hor.1⟩))
    have HPL : Hid (∀ p ∈ imgs n l b, p.length = b.length) := Lib.hid (fun p hp => by
     unfold imgs at hp
     obtain ⟨q, _, rfl⟩ := List.mem_map.1 hp
     simp [img])
    have HIM := Lib.hid him
    have HRET : Hid (∀ e w', Below w.heap.size w w' → (∃ A c bs, e = .returned (.tuple #[.slice A bs.length c, .int .i64 0]) ∧ OwnB w.heap.size w' A c bs ∧ bs.map QMat.qs = (chgTo (imgs n l b) b.length m).map (List.map toQ)) → RetBases n l b w e w') := Lib.hid (fun e w' h1 h2 => ⟨h1, .inr (.inr ⟨hi, hz, by rw [hil]; exact h2⟩)⟩)
    have HM2 := Lib.hid hm2
    have HIL := Lib.hid hil
    clear hi hz hsz hnd hact hbl him hsub HAC hm hil hL hB hp hpp hbb hmm hm2
    obtain ⟨Ln, hLn⟩ : ∃ Ln, b.length = Ln := ⟨_, rfl⟩
    rw [hLn] at HACY HPL HIM HRET hb0 hb64 ⊢
    have HPLC : Hid (∀ p ∈ imgs n l b, ∀ i, i < Ln → ∀ s, (h : s < (imgs n l b).length) → (imgs n l b)[s] = p → p.getD i 0 = ((plc (imgs n l b) i s : Nat) : Int) ∧ plc (imgs n l b) i s < Ln) := Lib.hid (fun p hp i hi s hs he => by
     have hg : (imgs n l b).getD s [] = p := by rw [← he]; simp [hs]
     have hnn : 0 ≤ p.getD i 0 := by
      unfold imgs at hp
      obtain ⟨q, _, rfl⟩ := List.mem_map.1 hp
      unfold img
      have hib : i < b.length := by omega
      simp [hib]
     refine ⟨?_, HIM.out.lt s i (by rw [← HIM.out.len]; exact hs) hi⟩
     unfold plc
     rw [hg]
     omega)
    have HLN := Lib.hid hLn
    clear hLn
    generalize imgs n l b = im at *
    obtain ⟨j0, hj0, hjz0, hjz1, hjz2⟩ := info_parts qrow_info
    obtain ⟨k0, hk0, hkz0, hkz1, hkz2⟩ := info_parts qmrow_info
    have hsh : wrap64 ((2 : Int) ^ l.length) = (m : Int) := by
     have e : (2 : Int) ^ l.length = ((m : Nat) : Int) := by rw [HM2.out]; simp
     rw [e]
     unfold wrap64
     omega
    have HSH := Lib.hid hsh
    clear hsh
    go_enter Tryz.func39, Tryz.ntmps39
    go_upto_region 8 with (first
      | (go_at_call 29; refine HIN.out.mono ?_; rintro e w1 ⟨rfl, hb1⟩)
      | (go_at_call 58; refine (HPR.out _ hb1).mono ?_; rintro e w2 ⟨P, cP, rfl, hP, hb2⟩)
      | (go_at_call 48; refine (HACY.out _ _ _ hP (HBB.out.keep (below_all hb1 hb2))).mono ?_; rintro e w3 ⟨I, cI, rfl, hI, hb3⟩))
    have hb03 := below_all (below_all hb1 hb2) hb3
    have HII := Lib.hid hI
    clear hP hI hb1 hb2 hb3 HIN HPR HACY
    go_wp2
    go_loopw [11, 12] (fun s11 s12 wr => ∃ (c : Nat) (A : Option Addr) (cA : Nat) (bs : List QMat), s12 = .int .i64 c ∧ c ≤ m ∧ s11 = .slice A bs.length cA ∧ Hid (CSt w3 Ln im wr c A cA bs)) (fun _ s12 _ => m - (intOf s12).toNat)
    case atStart => exact ⟨0, none, 0, [], rfl, Nat.zero_le _, rfl, Lib.hid ⟨OwnB.nil _ _, Below.refl _ _, by simp [chgTo]⟩⟩
    case round =>
     obtain ⟨wc, rfl⟩ : ∃ wc : World, wc = wr := ⟨_, rfl⟩
     obtain ⟨c, A, cA, bs, rfl, hc, rfl, HCS⟩ := hrel
     by_cases hcm : c < m
     ·have ec1 : decide ((c : Int) < (m : Int)) = true := decide_eq_true (by omega)
      have ec2 : decide (c < m) = true := decide_eq_true hcm
      have hsh := HSH.out
      go_wp2
      try rw [hsh]
      clear hsh
      go_loopw [13, 14] (fun s13 s14 wr => ∃ (i : Nat) (A2 : Option Addr) (cA2 : Nat) (ms : List QRow), s14 = .int .i64 i ∧ i ≤ Ln ∧ s13 = .slice A2 ms.length cA2 ∧ Hid (RSt wc c Ln im wr i A2 cA2 ms)) (fun _ s14 _ => Ln - (intOf s14).toNat)
      case atStart => exact ⟨0, none, 0, [], rfl, Nat.zero_le _, rfl, Lib.hid ⟨OwnM.nil _ _, Below.refl _ _, by simp [adTo]⟩⟩
      case round =>
       obtain ⟨wi, rfl⟩ : ∃ wi : World, wi = wr := ⟨_, rfl⟩
       obtain ⟨i, A2, cA2, ms, rfl, hi, rfl, HRS⟩ := hrel
       by_cases hil : i < Ln
       ·have ei1 : decide ((i : Int) < (Ln : Int)) = true := decide_eq_true (by omega)
        have ei2 : decide (i < Ln) = true := decide_eq_true hil
        have i0 : (0 : Int) ≤ (i : Int) := by omega
        have i1 : (i : Int) < (Ln : Int) := by omega
        have i3 : ((i : Int)).toNat = i := by omega
        have hmk := make_rats Ln (by omega) wi
        have hO0 := own_rats Ln (by omega) wi
        have hal := Below.alloc (Below.refl wi.heap.size wi) (Nat.le_refl _) (.cells (madeCells #[.bool false, .slice none 0 0, .bool false, .slice none 0 0] (Ln * 4)) 109)
        generalize hW : wi.alloc (.cells (madeCells #[.bool false, .slice none 0 0, .bool false, .slice none 0 0] (Ln * 4)) 109) = W at *
        have HW0 : Hid (WSt wi wi.heap.size Ln (wvT c im Ln i 0) W (List.replicate Ln zq)) := Lib.hid ⟨hO0, hal, by rw [wvT_zero]; exact rep_zq Ln⟩
        have HSUC := Lib.hid (adTo_succ c im Ln i)
        clear hO0 hal hW
        go_wp2
        clear hmk
        go_loopw [15, 17] (fun s15 s17 wr => ∃ (k : Nat) (bl : Bool) (rs : List RVal), s17 = .int .i64 k ∧ k ≤ m ∧ s15 = .bool bl ∧ Hid (WSt wi wi.heap.size Ln (wvT c im Ln i k) wr rs) ∧ Hid (bl = true ↔ ∀ s (h : s < im.length), s < k → (i : Int) ≤ im[s].getD i 0)) (fun _ s17 _ => m - (intOf s17).toNat)
        case atStart => exact ⟨0, true, _, rfl, Nat.zero_le _, rfl, HW0, Lib.hid ⟨fun _ s _ h => absurd h (by omega), fun _ => rfl⟩⟩
        case round =>
         clear HW0
         obtain ⟨wj, rfl⟩ : ∃ wj : World, wj = wr := ⟨_, rfl⟩
         obtain ⟨k, bl, rs, rfl, hk, rfl, HWS, HBL⟩ := hrel
         by_cases hkl : k < m
         ·have hkx : k < im.length := by rw [HIL.out]; exact hkl
          have hbw := below_all HCS.out.below (below_all HRS.out.below HWS.out.below)
          obtain ⟨ad, E, ce, rfl, hcw, hE⟩ := HII.out.at hkx
          have hcell := keep_cell hbw hcw
          have hpk := HPL.out im[k] (List.getElem_mem _)
          rw [hpk] at hcell
          have hik : i < im[k].length := by rw [hpk]; exact hil
          obtain ⟨ee, rfl, hce⟩ := Ints.at (hE.keep hbw) hik
          obtain ⟨hpl1, hpl2⟩ := HPLC.out im[k] (List.getElem_mem _) i hil k hkx rfl
          have hgd : im[k].getD i 0 = im[k][i] := by simp [hik]
          obtain ⟨p, hp⟩ : ∃ p, plc im i k = p := ⟨_, rfl⟩
          rw [hp] at hpl1 hpl2
          rw [hgd] at hpl1
          rw [hpl1] at hce
          have HPLK := Lib.hid hp
          have q0 : (0 : Int) ≤ (k : Int) := by omega
          have q1 : (k : Int) < (m : Int) := by omega
          have q3 : ((k : Int)).toNat = k := by omega
          have p0 : (0 : Int) ≤ (p : Int) := by omega
          have p1 : (p : Int) < (Ln : Int) := by omega
          have p3 : ((p : Int)).toNat = p := by omega
          have ek1 : decide ((k : Int) < (m : Int)) = true := decide_eq_true (by omega)
          have ek2 : decide (k < m) = true := decide_eq_true hkl
          have hvl : (wvT c im Ln i k).length = Ln := wvT_len _ _ _ _ _
          obtain ⟨hpr, hqx⟩ := HWS.out.at (p := p) (by omega)
          have hxb := wvT_bound c im Ln i k _ (List.getElem_mem (show p < (wvT c im Ln i k).length by omega))
          have hxd : (wvT c im Ln i k).getD p 0 = (wvT c im Ln i k)[p]'(by omega) := by simp [hvl, hpl2]
          obtain ⟨x, hx⟩ : ∃ x, (wvT c im Ln i k)[p]'(by omega) = x := ⟨_, rfl⟩
          rw [hx] at hqx hxb hxd
          obtain ⟨b0, N0, n0, c0, D0, m0, d0, HIS⟩ : ∃ b N n c D m d, rs[p].Is b N n c D m d := ⟨_, _, _, _, _, _, _, rs[p].is⟩
          have hQX := HIS.at (HWS.out.own.ok _ (List.getElem_mem hpr))
          rw [hqx] at hQX
          obtain ⟨z, hz⟩ : ∃ z : Nat, popc 64 (k &&& c) % 2 = z := ⟨_, rfl⟩
          have hz1 : z < 2 := by omega
          have HSG : Hid (1 - 2 * (z : Int) = sgn k c) := Lib.hid (by
           unfold sgn
           rw [size_popc, hz]
           have : z = 0 ∨ z = 1 := by omega
           rcases this with h | h <;> subst h <;> rfl)
          have e1 := i64_and_n k c (by omega) (by omega)
          have hkc : k &&& c ≤ k := Nat.and_le_left
          have hkc62 : k &&& c < 2 ^ 62 := Nat.lt_of_le_of_lt (show k &&& c ≤ 64 by omega) (by decide)
          have HON := Lib.hid (fun V => rones_any (k &&& c) V hkc62)
          have HRR : Hid (∀ V, Calls Tryz.prog 69 #[.int .i64 (1 - 2 * (z : Int))] V fun e w' => ∃ y, e = .returned y ∧ QAt w' y ((sgn k c : Int) : Rat) ∧ Below V.heap.size V w') := Lib.hid (fun V => by
           refine (r_sgn (1 - 2 * (z : Int)) (by omega) V).mono ?_
           rintro e w' ⟨y, rfl, hy, hb⟩
           exact ⟨y, rfl, by rw [← HSG.out]; exact hy, hb⟩)
          have HAD : Hid (∀ V y, Below wj.heap.size wj V → QAt V y ((sgn k c : Int) : Rat) → Calls Tryz.prog 68 #[.agg #[.bool b0, .slice N0 n0 c0, .bool false, .slice D0 m0 d0], y] V (RetR (((x : Int) : Rat) + ((sgn k c : Int) : Rat)) V)) := Lib.hid (fun V y h h2 => add_int x (sgn k c) _ y V (hQX.keep h) h2 (by omega) (by rcases sgn_sq k c with e | e <;> rw [e] <;> decide))
          have hpz : popc 64 (k &&& c) ≤ 64 := popc_le _ _
          have w4 : ((popc 64 (k &&& c) : Nat) : Int).tmod 2 = (z : Int) := by
           have : ((popc 64 (k &&& c) : Nat) : Int).tmod 2 = ((popc 64 (k &&& c) % 2 : Nat) : Int) := rfl
           rw [this, hz]
          have w5 : IntKind.i64.wrap (2 * (z : Int)) = 2 * (z : Int) := IntWalk.i64_in _ (by omega)
          have w6 : IntKind.i64.wrap (1 - 2 * (z : Int)) = 1 - 2 * (z : Int) := IntWalk.i64_in _ (by omega)
          have HNX : Hid (∀ (rs' : RVal) , rs'.q = ((x : Int) : Rat) + ((sgn k c : Int) : Rat) → (rs.set p rs').map RVal.q = toQ (wvT c im Ln i (k + 1))) := Lib.hid (fun r hr => wv_step HWS.out.eq HPLK.out hxd hr)
          obtain ⟨q, hq⟩ : ∃ q, decide ((i : Int) ≤ (p : Int)) = q := ⟨_, rfl⟩
          have hq' : decide (i ≤ p) = q := by rw [← hq]; apply decide_eq_decide.2; omega
          have HBL2 : Hid ((bl && q) = true ↔ ∀ s (h : s < im.length), s < k + 1 → (i : Int) ≤ im[s].getD i 0) := Lib.hid (by
           rw [Bool.and_eq_true, HBL.out, ← hq, decide_eq_true_eq]
           constructor
           ·rintro ⟨h1, h2⟩ s hs hsk
            by_cases he : s = k
            ·subst he; rw [hgd, hpl1]; exact h2
            ·exact h1 s hs (by omega)
           ·intro h
            refine ⟨fun s hs hsk => h s hs (by omega), ?_⟩
            have := h k hkx (by omega)
            rwa [hgd, hpl1] at this)
          have HQL := Lib.hid hq'
          have HPR2 := Lib.hid hpr
          have HCL : Hid (∀ V, Below wj.heap.size wj V → V.cell? ⟨wi.heap.size, p * 4, none⟩ = some (.bool b0) ∧ V.cell? ⟨wi.heap.size, p * 4 + 1, none⟩ = some (.slice N0 n0 c0) ∧ V.cell? ⟨wi.heap.size, p * 4 + 2, none⟩ = some (.bool false) ∧ V.cell? ⟨wi.heap.size, p * 4 + 3, none⟩ = some (.slice D0 m0 d0) ∧
            V.frozen? ⟨wi.heap.size, p * 4, none⟩ = false ∧ V.frozen? ⟨wi.heap.size, p * 4 + 1, none⟩ = false ∧ V.frozen? ⟨wi.heap.size, p * 4 + 2, none⟩ = false ∧ V.frozen? ⟨wi.heap.size, p * 4 + 3, none⟩ = false) := Lib.hid (fun V h => (HWS.out.own.keep h).cells hpr HIS)
          clear hcw hE hpk hgd hpl1 hvl hqx hxb hxd hx HIS hQX hz hpz hik hp hq hq' hpr hkc hkc62
          generalize im[k] = row at *
          generalize popc 64 (k &&& c) = pc at *
          generalize (k &&& c) = kc at *
          generalize sgn k c = sg at *
          go_upto_region 21 with (fail)
          go_cut [15] (fun s15 wx => ∃ nb : Bool, s15 = .bool nb ∧ Hid (nb = true ↔ ∀ s (h : s < im.length), s < k + 1 → (i : Int) ≤ im[s].getD i 0) ∧ wx = wj)
          case first =>
           cases bl with
           | false =>
             go_wp2
             go_meet
             exact ⟨false, rfl, HBL2, rfl⟩
           | true =>
             go_wp2
             go_meet
             exact ⟨decide (i ≤ p), rfl, by rw [HQL.out]; exact HBL2, rfl⟩
          case rest =>
           obtain ⟨nb, rfl, HNB, rfl⟩ := hcut
           obtain ⟨wj, rfl⟩ : ∃ V : World, V = wc := ⟨_, rfl⟩
           clear HBL HBL2 HQL
           go_upto_region 22 with (fail)
           have BZ : Below wj.heap.size wj wj.drew := (Below.refl _ _).drew
           refine wp_region_held_drew (S := (fun w' => True)) (by kernel_rfl) trivial (fun hHeld => ?_)
           generalize wj.drew = Z at *
           refine wpAnyH_get 0 (some 73) (.slice (some ⟨wi.heap.size, 0, none⟩) Ln Ln) rfl rfl (by kernel_rfl) (by kernel_rfl) (by kernel_rfl) (fun _ _ _ h => h) (by rfl) hHeld ?_ ?_
           ·(intro w hSw; (try dsimp only at hSw); go_simp; all_goals (try with_reducible rfl))
           (try simp only [Act.put, List.setIfInBounds_toArray, List.set_cons_zero, List.set_cons_succ])
           refine wpAnyH_get 1 (some 74) (.int .i64 (p : Nat)) rfl rfl (by kernel_rfl) (by kernel_rfl) (by kernel_rfl) (fun _ _ _ h => h) (by rfl) hHeld ?_ ?_
           ·(intro w hSw; (try dsimp only at hSw); go_simp; all_goals (try with_reducible rfl))
           (try simp only [Act.put, List.setIfInBounds_toArray, List.set_cons_zero, List.set_cons_succ])
           refine wpAnyH_get 2 (some 75) (.slice (some ⟨wi.heap.size, 0, none⟩) Ln Ln) rfl rfl (by kernel_rfl) (by kernel_rfl) (by kernel_rfl) (fun _ _ _ h => h) (by rfl) hHeld ?_ ?_
           ·(intro w hSw; (try dsimp only at hSw); go_simp; all_goals (try with_reducible rfl))
           (try simp only [Act.put, List.setIfInBounds_toArray, List.set_cons_zero, List.set_cons_succ])
           refine wpAnyH_get 3 (some 76) (.int .i64 (p : Nat)) rfl rfl (by kernel_rfl) (by kernel_rfl) (by kernel_rfl) (fun _ _ _ h => h) (by rfl) hHeld ?_ ?_
           ·(intro w hSw; (try dsimp only at hSw); go_simp; all_goals (try with_reducible rfl))
           (try simp only [Act.put, List.setIfInBounds_toArray, List.set_cons_zero, List.set_cons_succ])
           refine wpAnyH_get 4 (some 77) (.pointer (some ⟨wi.heap.size, p * 4, none⟩)) rfl rfl (by kernel_rfl) (by kernel_rfl) (by kernel_rfl) (fun _ _ _ h => h) (by rfl) hHeld ?_ ?_
           ·(intro w hSw; (try dsimp only at hSw); go_simp; all_goals (try with_reducible rfl))
           (try simp only [Act.put, List.setIfInBounds_toArray, List.set_cons_zero, List.set_cons_succ])
           refine wpAnyH_get 6 (some 79) (.int .i64 (k : Nat)) rfl rfl (by kernel_rfl) (by kernel_rfl) (by kernel_rfl) (fun _ _ _ h => h) (by rfl) hHeld ?_ ?_
           ·(intro w hSw; (try dsimp only at hSw); go_simp; all_goals (try with_reducible rfl))
           (try simp only [Act.put, List.setIfInBounds_toArray, List.set_cons_zero, List.set_cons_succ])
           refine wpAnyH_get 7 (some 80) (.int .i64 (c : Nat)) rfl rfl (by kernel_rfl) (by kernel_rfl) (by kernel_rfl) (fun _ _ _ h => h) (by rfl) hHeld ?_ ?_
           ·(intro w hSw; (try dsimp only at hSw); go_simp; all_goals (try with_reducible rfl))
           (try simp only [Act.put, List.setIfInBounds_toArray, List.set_cons_zero, List.set_cons_succ])
           refine wpAnyH_get 8 (some 81) (.int .i64 (kc : Nat)) rfl rfl (by kernel_rfl) (by kernel_rfl) (by kernel_rfl) (fun _ _ _ h => h) (by rfl) hHeld ?_ ?_
           ·(intro w hSw; (try dsimp only at hSw); go_simp; all_goals (try with_reducible rfl))
           (try simp only [Act.put, List.setIfInBounds_toArray, List.set_cons_zero, List.set_cons_succ])
           refine wpAnyH_ready (rs := [5, 9]) (by kernel_rfl) (by simp) ?_
           refine AllReadyH.cons rfl (fun K hK => ?_) (AllReadyH.cons rfl (fun K hK => ?_) AllReadyH.nil)
           ·obtain ⟨s0, s1, s2, s3, g0, g1, g2, g3⟩ := HCL.out Z BZ
            go_simp
            refine hK.out _ _ trivial (fun hHeld => ?_)
            clear hK K
            clear s0 s1 s2 s3 g0 g1 g2 g3
            have BZ1 := BZ
            generalize Z = Z1 at *
            (try simp only [Act.put, List.setIfInBounds_toArray, List.set_cons_zero, List.set_cons_succ])
            refine wpAnyH_ready (rs := [9]) (by kernel_rfl) (by simp) ?_
            refine AllReadyH.cons rfl (fun K hK => ?_) AllReadyH.nil
            go_simp
            refine (HON.out _).mono ?_
            rintro e w9 ⟨rfl, hw9⟩
            rw [← hw9]
            clear hw9
            (try go_simp)
            refine hK.out _ _ trivial (fun hHeld => ?_)
            clear hK K
            have BZ2 := BZ1
            generalize Z1 = Z2 at *
            (try simp only [Act.put, List.setIfInBounds_toArray, List.set_cons_zero, List.set_cons_succ])
            refine wpAnyH_get 10 (some 83) (.int .i64 (z : Nat)) rfl rfl (by kernel_rfl) (by kernel_rfl) (by kernel_rfl) (fun _ _ _ h => h) (by rfl) hHeld ?_ ?_
            ·(intro w hSw; (try dsimp only at hSw); go_simp; all_goals (try with_reducible rfl))
            (try simp only [Act.put, List.setIfInBounds_toArray, List.set_cons_zero, List.set_cons_succ])
            refine wpAnyH_get 11 (some 84) (.int .i64 (2 * (z : Int))) rfl rfl (by kernel_rfl) (by kernel_rfl) (by kernel_rfl) (fun _ _ _ h => h) (by rfl) hHeld ?_ ?_
            ·(intro w hSw; (try dsimp only at hSw); go_simp; all_goals (try with_reducible rfl))
            (try simp only [Act.put, List.setIfInBounds_toArray, List.set_cons_zero, List.set_cons_succ])
            refine wpAnyH_get 12 (some 85) (.int .i64 (1 - 2 * (z : Int))) rfl rfl (by kernel_rfl) (by kernel_rfl) (by kernel_rfl) (fun _ _ _ h => h) (by rfl) hHeld ?_ ?_
            ·(intro w hSw; (try dsimp only at hSw); go_simp; all_goals (try with_reducible rfl))
            (try simp only [Act.put, List.setIfInBounds_toArray, List.set_cons_zero, List.set_cons_succ])
            refine wpAnyH_ready (rs := [13]) (by kernel_rfl) (by simp) ?_
            refine AllReadyH.cons rfl (fun K hK => ?_) AllReadyH.nil
            go_simp
            refine (HRR.out _).mono ?_
            rintro e Z3 ⟨y, rfl, hy, hb6⟩
            have BZ3 := below_all BZ2 hb6
            clear hb6
            (try go_simp)
            refine hK.out _ _ trivial (fun hHeld => ?_)
            clear hK K
            (try simp only [Act.put, List.setIfInBounds_toArray, List.set_cons_zero, List.set_cons_succ])
            refine wpAnyH_ready (rs := [14]) (by kernel_rfl) (by simp) ?_
            refine AllReadyH.cons rfl (fun K hK => ?_) AllReadyH.nil
            go_simp
            refine (HAD.out _ _ BZ3 hy).mono ?_
            rintro e Z4 ⟨b1, N1, n1, c1, D1, m1, d1, rfl, HV, hb7⟩
            have BZ4 := below_all BZ3 hb7
            clear hb7
            (try go_simp)
            refine hK.out _ _ trivial (fun hHeld => ?_)
            clear hK K
            (try simp only [Act.put, List.setIfInBounds_toArray, List.set_cons_zero, List.set_cons_succ])
            refine wpAnyH_get 15 (some 88) (.pointer (some ⟨wi.heap.size, p * 4, none⟩)) rfl rfl (by kernel_rfl) (by kernel_rfl) (by kernel_rfl) (fun _ _ _ h => h) (by rfl) hHeld ?_ ?_
            ·(intro w hSw; (try dsimp only at hSw); go_simp; all_goals (try with_reducible rfl))
            (try simp only [Act.put, List.setIfInBounds_toArray, List.set_cons_zero, List.set_cons_succ])
            refine wpAnyH_ready (rs := [16]) (by kernel_rfl) (by simp) ?_
            refine AllReadyH.cons rfl (fun K hK => ?_) AllReadyH.nil
            have HNEW : Hid (∃ rs', WSt wi wi.heap.size Ln (wvT c im Ln i (k + 1)) ((((Z4.setCell ⟨wi.heap.size, p * 4, none⟩ (.bool b1)).setCell ⟨wi.heap.size, p * 4 + 1, none⟩ (.slice N1 n1 c1)).setCell ⟨wi.heap.size, p * 4 + 2, none⟩ (.bool false)).setCell ⟨wi.heap.size, p * 4 + 3, none⟩ (.slice D1 m1 d1)) rs') := Lib.hid (by
             obtain ⟨r, hI, hrq, hok⟩ := HV.out
             exact ⟨rs.set p r, (HWS.out.own.keep BZ4).put HPR2.out hok hI, below_far (below_far (below_far (below_far (below_all HWS.out.below BZ4) (Nat.le_refl _) _ _) (Nat.le_refl _) _ _) (Nat.le_refl _) _ _) (Nat.le_refl _) _ _, HNX.out r hrq⟩)
            obtain ⟨s0, s1, s2, s3, g0, g1, g2, g3⟩ := HCL.out Z4 BZ4
            go_simp
            refine hK.out _ _ trivial (fun hHeld => ?_)
            clear hK K
            clear s0 s1 s2 s3 g0 g1 g2 g3
            (try simp only [Act.put, List.setIfInBounds_toArray, List.set_cons_zero, List.set_cons_succ])
            refine wpAnyH_done (by kernel_rfl) ?_ _
            go_wp2
            go_roundw
            case rel =>
             obtain ⟨rs', h⟩ := HNEW.out
             exact ⟨k + 1, nb, rs', by go_num, by omega, rfl, Lib.hid h, HNB⟩
            case measure => simp [intOf]; omega
           ·go_simp
            refine (HON.out _).mono ?_
            rintro e w9 ⟨rfl, hw9⟩
            rw [← hw9]
            clear hw9
            (try go_simp)
            refine hK.out _ _ trivial (fun hHeld => ?_)
            clear hK K
            have BZ6 := BZ
            generalize Z = Z6 at *
            (try simp only [Act.put, List.setIfInBounds_toArray, List.set_cons_zero, List.set_cons_succ])
            refine wpAnyH_get 10 (some 83) (.int .i64 (z : Nat)) rfl rfl (by kernel_rfl) (by kernel_rfl) (by kernel_rfl) (fun _ _ _ h => h) (by rfl) hHeld ?_ ?_
            ·(intro w hSw; (try dsimp only at hSw); go_simp; all_goals (try with_reducible rfl))
            (try simp only [Act.put, List.setIfInBounds_toArray, List.set_cons_zero, List.set_cons_succ])
            refine wpAnyH_get 11 (some 84) (.int .i64 (2 * (z : Int))) rfl rfl (by kernel_rfl) (by kernel_rfl) (by kernel_rfl) (fun _ _ _ h => h) (by rfl) hHeld ?_ ?_
            ·(intro w hSw; (try dsimp only at hSw); go_simp; all_goals (try with_reducible rfl))
            (try simp only [Act.put, List.setIfInBounds_toArray, List.set_cons_zero, List.set_cons_succ])
            refine wpAnyH_get 12 (some 85) (.int .i64 (1 - 2 * (z : Int))) rfl rfl (by kernel_rfl) (by kernel_rfl) (by kernel_rfl) (fun _ _ _ h => h) (by rfl) hHeld ?_ ?_
            ·(intro w hSw; (try dsimp only at hSw); go_simp; all_goals (try with_reducible rfl))
            (try simp only [Act.put, List.setIfInBounds_toArray, List.set_cons_zero, List.set_cons_succ])
            refine wpAnyH_ready (rs := [5, 13]) (by kernel_rfl) (by simp) ?_
            refine AllReadyH.cons rfl (fun K hK => ?_) (AllReadyH.cons rfl (fun K hK => ?_) AllReadyH.nil)
            ·obtain ⟨s0, s1, s2, s3, g0, g1, g2, g3⟩ := HCL.out Z6 BZ6
             go_simp
             refine hK.out _ _ trivial (fun hHeld => ?_)
             clear hK K
             clear s0 s1 s2 s3 g0 g1 g2 g3
             have BZ7 := BZ6
             generalize Z6 = Z7 at *
             (try simp only [Act.put, List.setIfInBounds_toArray, List.set_cons_zero, List.set_cons_succ])
             refine wpAnyH_ready (rs := [13]) (by kernel_rfl) (by simp) ?_
             refine AllReadyH.cons rfl (fun K hK => ?_) AllReadyH.nil
             go_simp
             refine (HRR.out _).mono ?_
             rintro e Z8 ⟨y, rfl, hy, hb6⟩
             have BZ8 := below_all BZ7 hb6
             clear hb6
             (try go_simp)
             refine hK.out _ _ trivial (fun hHeld => ?_)
             clear hK K
             (try simp only [Act.put, List.setIfInBounds_toArray, List.set_cons_zero, List.set_cons_succ])
             refine wpAnyH_ready (rs := [14]) (by kernel_rfl) (by simp) ?_
             refine AllReadyH.cons rfl (fun K hK => ?_) AllReadyH.nil
             go_simp
             refine (HAD.out _ _ BZ8 hy).mono ?_
             rintro e Z9 ⟨b1, N1, n1, c1, D1, m1, d1, rfl, HV, hb7⟩
             have BZ9 := below_all BZ8 hb7
             clear hb7
             (try go_simp)
             refine hK.out _ _ trivial (fun hHeld => ?_)
             clear hK K
             (try simp only [Act.put, List.setIfInBounds_toArray, List.set_cons_zero, List.set_cons_succ])
             refine wpAnyH_get 15 (some 88) (.pointer (some ⟨wi.heap.size, p * 4, none⟩)) rfl rfl (by kernel_rfl) (by kernel_rfl) (by kernel_rfl) (fun _ _ _ h => h) (by rfl) hHeld ?_ ?_
             ·(intro w hSw; (try dsimp only at hSw); go_simp; all_goals (try with_reducible rfl))
             (try simp only [Act.put, List.setIfInBounds_toArray, List.set_cons_zero, List.set_cons_succ])
             refine wpAnyH_ready (rs := [16]) (by kernel_rfl) (by simp) ?_
             refine AllReadyH.cons rfl (fun K hK => ?_) AllReadyH.nil
             have HNEW : Hid (∃ rs', WSt wi wi.heap.size Ln (wvT c im Ln i (k + 1)) ((((Z9.setCell ⟨wi.heap.size, p * 4, none⟩ (.bool b1)).setCell ⟨wi.heap.size, p * 4 + 1, none⟩ (.slice N1 n1 c1)).setCell ⟨wi.heap.size, p * 4 + 2, none⟩ (.bool false)).setCell ⟨wi.heap.size, p * 4 + 3, none⟩ (.slice D1 m1 d1)) rs') := Lib.hid (by
              obtain ⟨r, hI, hrq, hok⟩ := HV.out
              exact ⟨rs.set p r, (HWS.out.own.keep BZ9).put HPR2.out hok hI, below_far (below_far (below_far (below_far (below_all HWS.out.below BZ9) (Nat.le_refl _) _ _) (Nat.le_refl _) _ _) (Nat.le_refl _) _ _) (Nat.le_refl _) _ _, HNX.out r hrq⟩)
             obtain ⟨s0, s1, s2, s3, g0, g1, g2, g3⟩ := HCL.out Z9 BZ9
             go_simp
             refine hK.out _ _ trivial (fun hHeld => ?_)
             clear hK K
             clear s0 s1 s2 s3 g0 g1 g2 g3
             (try simp only [Act.put, List.setIfInBounds_toArray, List.set_cons_zero, List.set_cons_succ])
             refine wpAnyH_done (by kernel_rfl) ?_ _
             go_wp2
             go_roundw
             case rel =>
              obtain ⟨rs', h⟩ := HNEW.out
              exact ⟨k + 1, nb, rs', by go_num, by omega, rfl, Lib.hid h, HNB⟩
             case measure => simp [intOf]; omega
            ·go_simp
             refine (HRR.out _).mono ?_
             rintro e Z11 ⟨y, rfl, hy, hb6⟩
             have BZ11 := below_all BZ6 hb6
             clear hb6
             (try go_simp)
             refine hK.out _ _ trivial (fun hHeld => ?_)
             clear hK K
             (try simp only [Act.put, List.setIfInBounds_toArray, List.set_cons_zero, List.set_cons_succ])
             refine wpAnyH_ready (rs := [5]) (by kernel_rfl) (by simp) ?_
             refine AllReadyH.cons rfl (fun K hK => ?_) AllReadyH.nil
             obtain ⟨s0, s1, s2, s3, g0, g1, g2, g3⟩ := HCL.out Z11 BZ11
             go_simp
             refine hK.out _ _ trivial (fun hHeld => ?_)
             clear hK K
             clear s0 s1 s2 s3 g0 g1 g2 g3
             have BZ12 := BZ11
             generalize Z11 = Z12 at *
             (try simp only [Act.put, List.setIfInBounds_toArray, List.set_cons_zero, List.set_cons_succ])
             refine wpAnyH_ready (rs := [14]) (by kernel_rfl) (by simp) ?_
             refine AllReadyH.cons rfl (fun K hK => ?_) AllReadyH.nil
             go_simp
             refine (HAD.out _ _ BZ12 hy).mono ?_
             rintro e Z13 ⟨b1, N1, n1, c1, D1, m1, d1, rfl, HV, hb7⟩
             have BZ13 := below_all BZ12 hb7
             clear hb7
             (try go_simp)
             refine hK.out _ _ trivial (fun hHeld => ?_)
             clear hK K
             (try simp only [Act.put, List.setIfInBounds_toArray, List.set_cons_zero, List.set_cons_succ])
             refine wpAnyH_get 15 (some 88) (.pointer (some ⟨wi.heap.size, p * 4, none⟩)) rfl rfl (by kernel_rfl) (by kernel_rfl) (by kernel_rfl) (fun _ _ _ h => h) (by rfl) hHeld ?_ ?_
             ·(intro w hSw; (try dsimp only at hSw); go_simp; all_goals (try with_reducible rfl))
             (try simp only [Act.put, List.setIfInBounds_toArray, List.set_cons_zero, List.set_cons_succ])
             refine wpAnyH_ready (rs := [16]) (by kernel_rfl) (by simp) ?_
             refine AllReadyH.cons rfl (fun K hK => ?_) AllReadyH.nil
             have HNEW : Hid (∃ rs', WSt wi wi.heap.size Ln (wvT c im Ln i (k + 1)) ((((Z13.setCell ⟨wi.heap.size, p * 4, none⟩ (.bool b1)).setCell ⟨wi.heap.size, p * 4 + 1, none⟩ (.slice N1 n1 c1)).setCell ⟨wi.heap.size, p * 4 + 2, none⟩ (.bool false)).setCell ⟨wi.heap.size, p * 4 + 3, none⟩ (.slice D1 m1 d1)) rs') := Lib.hid (by
              obtain ⟨r, hI, hrq, hok⟩ := HV.out
              exact ⟨rs.set p r, (HWS.out.own.keep BZ13).put HPR2.out hok hI, below_far (below_far (below_far (below_far (below_all HWS.out.below BZ13) (Nat.le_refl _) _ _) (Nat.le_refl _) _ _) (Nat.le_refl _) _ _) (Nat.le_refl _) _ _, HNX.out r hrq⟩)
             obtain ⟨s0, s1, s2, s3, g0, g1, g2, g3⟩ := HCL.out Z13 BZ13
             go_simp
             refine hK.out _ _ trivial (fun hHeld => ?_)
             clear hK K
             clear s0 s1 s2 s3 g0 g1 g2 g3
             (try simp only [Act.put, List.setIfInBounds_toArray, List.set_cons_zero, List.set_cons_succ])
             refine wpAnyH_done (by kernel_rfl) ?_ _
             go_wp2
             go_roundw
             case rel =>
              obtain ⟨rs', h⟩ := HNEW.out
              exact ⟨k + 1, nb, rs', by go_num, by omega, rfl, Lib.hid h, HNB⟩
             case measure => simp [intOf]; omega
         ·obtain rfl : k = m := by omega
          have dk : decide ((k : Int) < (k : Int)) = false := by simp
          have HWV : Hid (WSt wi wi.heap.size Ln (wv c im Ln i) wj rs) := Lib.hid (by
           have := HWS.out
           rw [← HIL.out] at this
           exact this)
          have HLB : Hid (bl = true ↔ leastB im i) := Lib.hid (by
           rw [HBL.out]
           constructor
           ·intro h p hp
            obtain ⟨s, hs, rfl⟩ := List.getElem_of_mem hp
            exact h s hs (by rw [← HIL.out]; exact hs)
           ·intro h s hs _
            exact h _ (List.getElem_mem _))
          have hvl : (wv c im Ln i).length = Ln := wvT_len _ _ _ _ _
          have HBD : Hid (∀ x ∈ wv c im Ln i, -64 ≤ x ∧ x ≤ 64) := Lib.hid (fun x hx => by
           have h1 := wvT_bound c im Ln i im.length x hx
           have h2 := HIL.out
           omega)
          have HPOS : Hid ((wv c im Ln i).getD i 0 ≠ 0 → 0 < (wv c im Ln i).getD i 0) := Lib.hid (HIM.out.wv_pos c hil)
          have HDIV : Hid ((wv c im Ln i).getD i 0 ≠ 0 → ∀ j (h : j < (wv c im Ln i).length), ((((wv c im Ln i)[j] : Int)) : Rat) / (((wv c im Ln i).getD i 0 : Int) : Rat) = ((((wv c im Ln i)[j]).tdiv ((wv c im Ln i).getD i 0) : Int) : Rat)) := Lib.hid (fun h0 j hj => by
           have := HIM.out.wv_div c hil (show j < Ln by omega) h0
           rwa [show (wv c im Ln i).getD j 0 = (wv c im Ln i)[j] by simp [hj]] at this)
          have HAR : Hid (adRow c im Ln i = if leastB im i ∧ (wv c im Ln i).getD i 0 ≠ 0 then some ((wv c im Ln i).map fun x => x.tdiv ((wv c im Ln i).getD i 0)) else none) := Lib.hid rfl
          clear HWS HBL
          generalize wv c im Ln i = v at *
          have hiv : i < v.length := by rw [hvl]; exact hil
          obtain ⟨y, hy⟩ : ∃ y, v.getD i 0 = y := ⟨_, rfl⟩
          rw [hy] at HPOS HDIV HAR
          have hyb := HBD.out v[i] (List.getElem_mem _)
          have hyv : v[i] = y := by rw [← hy]; simp [hiv]
          rw [hyv] at hyb
          have hyn : y.natAbs ≤ 4096 := by omega
          have HVL := Lib.hid hvl
          have hbwj := HWV.out.below
          cases bl with
          | false =>
            have HNX : Hid (adTo c im Ln (i + 1) = adTo c im Ln i) := Lib.hid (by
             rw [HSUC.out, HAR.out, if_neg (fun h => by have := HLB.out.2 h.1; cases this)]
             simp)
            clear hvl hy hyv
            go_wp2
            go_roundw
            case rel => exact ⟨i + 1, A2, cA2, ms, by go_num, by omega, rfl, Lib.hid ⟨(HRS.out.keep hbwj).own, (HRS.out.keep hbwj).below, by rw [HNX.out]; exact HRS.out.eq⟩⟩
            case measure => simp [intOf]; omega
          | true =>
            have hLB := HLB.out.1 rfl
            obtain ⟨hir, hqi⟩ := HWV.out.at (p := i) hiv
            rw [hyv] at hqi
            obtain ⟨b0, N0, n0, c0, D0, m0, d0, HIS⟩ : ∃ b N n c D m d, rs[i].Is b N n c D m d := ⟨_, _, _, _, _, _, _, rs[i].is⟩
            have HCL : Hid (∀ V, Below wj.heap.size wj V → V.cell? ⟨wi.heap.size, i * 4, none⟩ = some (.bool b0) ∧ V.cell? ⟨wi.heap.size, i * 4 + 1, none⟩ = some (.slice N0 n0 c0) ∧ V.cell? ⟨wi.heap.size, i * 4 + 2, none⟩ = some (.bool false) ∧ V.cell? ⟨wi.heap.size, i * 4 + 3, none⟩ = some (.slice D0 m0 d0) ∧
              V.frozen? ⟨wi.heap.size, i * 4, none⟩ = false ∧ V.frozen? ⟨wi.heap.size, i * 4 + 1, none⟩ = false ∧ V.frozen? ⟨wi.heap.size, i * 4 + 2, none⟩ = false ∧ V.frozen? ⟨wi.heap.size, i * 4 + 3, none⟩ = false) := Lib.hid (fun V h => (HWV.out.own.keep h).cells hir HIS)
            have HFV : Hid (∃ r : RVal, r.Is b0 N0 n0 c0 D0 m0 d0 ∧ r.q = ((y : Int) : Rat) ∧ r.Ok wj) := Lib.hid ⟨rs[i], HIS, hqi, HWV.out.own.ok _ (List.getElem_mem hir)⟩
            have hQY := HIS.at (HWV.out.own.ok _ (List.getElem_mem hir))
            rw [hqi] at hQY
            have hsg := sign_int y _ wj hQY hyn
            obtain ⟨x0, x1, x2, x3, _⟩ := HCL.out wj (Below.refl _ _)
            clear hvl hy hyv hqi HIS hQY
            by_cases hy0 : y = 0
            ·subst hy0
             rw [show (0 : Int).sign = 0 from rfl] at hsg
             have HSGN := Lib.hid hsg
             have HNX : Hid (adTo c im Ln (i + 1) = adTo c im Ln i) := Lib.hid (by
              rw [HSUC.out, HAR.out, if_neg (fun h => h.2 rfl)]
              simp)
             clear hsg
             go_wp2_with (go_at_call 71; refine HSGN.out.mono ?_; rintro e w5 ⟨rfl, hb5⟩)
             go_roundw
             case rel => exact ⟨i + 1, A2, cA2, ms, by go_num, by omega, rfl, Lib.hid ⟨(HRS.out.keep (below_all hbwj hb5)).own, (HRS.out.keep (below_all hbwj hb5)).below, by rw [HNX.out]; exact HRS.out.eq⟩⟩
             case measure => simp [intOf]; omega
            ·have hyp := HPOS.out hy0
             rw [Int.sign_eq_one_of_pos hyp] at hsg
             have HSGN := Lib.hid hsg
             have HNX : Hid (adTo c im Ln (i + 1) = adTo c im Ln i ++ [v.map fun x => x.tdiv y]) := Lib.hid (by rw [HSUC.out, HAR.out, if_pos ⟨hLB, hy0⟩]; rfl)
             have HDV0 := Lib.hid (HDIV.out hy0)
             clear hsg HDIV HAR HLB hLB
             go_upto_region 25 with (go_at_call 71; refine HSGN.out.mono ?_; rintro e w5 ⟨rfl, hb5⟩
                                     obtain ⟨s0, s1, s2, s3, _⟩ := HCL.out w5 hb5)
             have hal5 := Below.alloc (Below.refl w5.heap.size w5) (Nat.le_refl _) (.cells #[.bool b0, .slice N0 n0 c0, .bool false, .slice D0 m0 d0] 109)
             have B6 := Blk.new w5 109 #[.bool b0, .slice N0 n0 c0, .bool false, .slice D0 m0 d0]
             have hs5 := hb5.size
             have hs4 := hbwj.size
             generalize hW6 : w5.alloc (.cells #[.bool b0, .slice N0 n0 c0, .bool false, .slice D0 m0 d0] 109) = W6 at *
             have H0 : Hid (WSt wi wi.heap.size Ln (partQ v y 0) W6 rs ∧ Blk W6 w5.heap.size 109 #[.bool b0, .slice N0 n0 c0, .bool false, .slice D0 m0 d0] ∧ ∃ r : RVal, r.Is b0 N0 n0 c0 D0 m0 d0 ∧ r.q = ((y : Int) : Rat) ∧ r.Ok W6) := Lib.hid ⟨by
              rw [partQ_zero]
              exact HWV.out.keep (below_all hb5 hal5), B6, by
              obtain ⟨r, h1, h2, h3⟩ := HFV.out
              exact ⟨r, h1, h2, h3.keep (below_all hb5 hal5)⟩⟩
             obtain ⟨gf, hgf⟩ : ∃ gf, w5.heap.size = gf := ⟨_, rfl⟩
             rw [hgf] at H0
             have hgf2 : wi.heap.size < gf := by
              have := (HWV.out.own.own.lt wi.heap.size rfl).2
              omega
             clear hal5 B6 hW6 s0 s1 s2 s3 x0 x1 x2 x3 HCL HFV HWV hs5
             try rw [hgf]
             clear hgf
             go_wp2
             go_loopw [20] (fun s20 wr => ∃ (k2 : Nat) (rs2 : List RVal), s20 = .int .i64 k2 ∧ k2 ≤ Ln ∧ Hid (WSt wi wi.heap.size Ln (partQ v y k2) wr rs2 ∧ Blk wr gf 109 #[.bool b0, .slice N0 n0 c0, .bool false, .slice D0 m0 d0] ∧ ∃ r : RVal, r.Is b0 N0 n0 c0 D0 m0 d0 ∧ r.q = ((y : Int) : Rat) ∧ r.Ok wr)) (fun s20 _ => Ln - (intOf s20).toNat)
             case atStart => exact ⟨0, rs, rfl, Nat.zero_le _, H0⟩
             case round =>
              clear H0
              obtain ⟨wk, rfl⟩ : ∃ wk : World, wk = wr := ⟨_, rfl⟩
              obtain ⟨k2, rs2, rfl, hk2, HWK⟩ := hrel
              by_cases hk2l : k2 < Ln
              ·have hkv : k2 < v.length := by rw [HVL.out]; exact hk2l
               have hpl : (partQ v y k2).length = Ln := by rw [partQ_len, HVL.out]
               obtain ⟨hkr, hqk⟩ := HWK.out.1.at (p := k2) (by omega)
               have hpx : (partQ v y k2)[k2]'(by omega) = v[k2] := by
                have := partQ_at (y := y) hkv
                rw [List.getElem?_eq_getElem (by omega)] at this
                injection this
               rw [hpx] at hqk
               have hxb := HBD.out v[k2] (List.getElem_mem _)
               have hdx := HDV0.out k2 hkv
               have HPS : Hid (∀ r : RVal, r.q = (((v[k2]).tdiv y : Int) : Rat) → (rs2.set k2 r).map RVal.q = toQ (partQ v y (k2 + 1))) := Lib.hid (fun r hr => by rw [set_q, HWK.out.1.eq, hr, ← toQ_set, partQ_set hkv])
               obtain ⟨x, hx⟩ : ∃ x, v[k2] = x := ⟨_, rfl⟩
               rw [hx] at hqk hxb hdx HPS
               obtain ⟨t, ht⟩ : ∃ t, x.tdiv y = t := ⟨_, rfl⟩
               rw [ht] at hdx HPS
               obtain ⟨b2, N2, n2, c2, D2, m2, d2, HI2⟩ : ∃ b N n c D m d, rs2[k2].Is b N n c D m d := ⟨_, _, _, _, _, _, _, rs2[k2].is⟩
               have HCL : Hid (∀ V, Below wk.heap.size wk V → V.cell? ⟨wi.heap.size, k2 * 4, none⟩ = some (.bool b2) ∧ V.cell? ⟨wi.heap.size, k2 * 4 + 1, none⟩ = some (.slice N2 n2 c2) ∧ V.cell? ⟨wi.heap.size, k2 * 4 + 2, none⟩ = some (.bool false) ∧ V.cell? ⟨wi.heap.size, k2 * 4 + 3, none⟩ = some (.slice D2 m2 d2) ∧
                 V.frozen? ⟨wi.heap.size, k2 * 4, none⟩ = false ∧ V.frozen? ⟨wi.heap.size, k2 * 4 + 1, none⟩ = false ∧ V.frozen? ⟨wi.heap.size, k2 * 4 + 2, none⟩ = false ∧ V.frozen? ⟨wi.heap.size, k2 * 4 + 3, none⟩ = false) := Lib.hid (fun V h => (HWK.out.1.own.keep h).cells hkr HI2)
               have HFC : Hid (∀ V, Below wk.heap.size wk V → V.cell? ⟨gf, 0, none⟩ = some (.bool b0) ∧ V.cell? ⟨gf, 1, none⟩ = some (.slice N0 n0 c0) ∧ V.cell? ⟨gf, 2, none⟩ = some (.bool false) ∧ V.cell? ⟨gf, 3, none⟩ = some (.slice D0 m0 d0)) := Lib.hid (fun V h => by
                obtain ⟨f0, f1, f2, f3, _⟩ := (HWK.out.2.1.keep h HWK.out.2.1.lt).four
                exact ⟨f0, f1, f2, f3⟩)
               have HDV : Hid (∀ V, Below wk.heap.size wk V → Calls Tryz.prog 72 #[.agg #[.bool b2, .slice N2 n2 c2, .bool false, .slice D2 m2 d2], .agg #[.bool b0, .slice N0 n0 c0, .bool false, .slice D0 m0 d0]] V (RetR ((t : Int) : Rat) V)) := Lib.hid (fun V h => by
                obtain ⟨r, h1, h2, h3⟩ := HWK.out.2.2
                have e1 := HI2.at ((HWK.out.1.own.ok _ (List.getElem_mem hkr)).keep h)
                have e2 := h1.at (h3.keep h)
                rw [hqk] at e1
                rw [h2] at e2
                exact div_int x y t _ _ V e1 e2 (by omega) hyn hyp hdx)
               have HKR := Lib.hid hkr
               have q0 : (0 : Int) ≤ (k2 : Int) := by omega
               have q1 : (k2 : Int) < (Ln : Int) := by omega
               have q3 : ((k2 : Int)).toNat = k2 := by omega
               have ek1 : decide ((k2 : Int) < (Ln : Int)) = true := decide_eq_true (by omega)
               have ek2 : decide (k2 < Ln) = true := decide_eq_true hk2l
               clear hpl hqk hpx hxb hdx hx ht HI2 hkr
               go_upto_region 28 with (fail)
               have BZ : Below wk.heap.size wk wk.drew := (Below.refl _ _).drew
               refine wp_region_held_drew (S := (fun w' => True)) (by kernel_rfl) trivial (fun hHeld => ?_)
               generalize wk.drew = Z at *
               refine wpAnyH_get 0 (some 109) (.slice (some ⟨wi.heap.size, 0, none⟩) Ln Ln) rfl rfl (by kernel_rfl) (by kernel_rfl) (by kernel_rfl) (fun _ _ _ h => h) (by rfl) hHeld ?_ ?_
               ·(intro w hSw; (try dsimp only at hSw); go_simp; all_goals (try with_reducible rfl))
               (try simp only [Act.put, List.setIfInBounds_toArray, List.set_cons_zero, List.set_cons_succ])
               refine wpAnyH_get 1 (some 110) (.int .i64 (k2 : Nat)) rfl rfl (by kernel_rfl) (by kernel_rfl) (by kernel_rfl) (fun _ _ _ h => h) (by rfl) hHeld ?_ ?_
               ·(intro w hSw; (try dsimp only at hSw); go_simp; all_goals (try with_reducible rfl))
               (try simp only [Act.put, List.setIfInBounds_toArray, List.set_cons_zero, List.set_cons_succ])
               refine wpAnyH_get 2 (some 111) (.slice (some ⟨wi.heap.size, 0, none⟩) Ln Ln) rfl rfl (by kernel_rfl) (by kernel_rfl) (by kernel_rfl) (fun _ _ _ h => h) (by rfl) hHeld ?_ ?_
               ·(intro w hSw; (try dsimp only at hSw); go_simp; all_goals (try with_reducible rfl))
               (try simp only [Act.put, List.setIfInBounds_toArray, List.set_cons_zero, List.set_cons_succ])
               refine wpAnyH_get 3 (some 112) (.int .i64 (k2 : Nat)) rfl rfl (by kernel_rfl) (by kernel_rfl) (by kernel_rfl) (fun _ _ _ h => h) (by rfl) hHeld ?_ ?_
               ·(intro w hSw; (try dsimp only at hSw); go_simp; all_goals (try with_reducible rfl))
               (try simp only [Act.put, List.setIfInBounds_toArray, List.set_cons_zero, List.set_cons_succ])
               refine wpAnyH_get 4 (some 113) (.pointer (some ⟨wi.heap.size, k2 * 4, none⟩)) rfl rfl (by kernel_rfl) (by kernel_rfl) (by kernel_rfl) (fun _ _ _ h => h) (by rfl) hHeld ?_ ?_
               ·(intro w hSw; (try dsimp only at hSw); go_simp; all_goals (try with_reducible rfl))
               (try simp only [Act.put, List.setIfInBounds_toArray, List.set_cons_zero, List.set_cons_succ])
               refine wpAnyH_ready (rs := [5, 6]) (by kernel_rfl) (by simp) ?_
               refine AllReadyH.cons rfl (fun K hK => ?_) (AllReadyH.cons rfl (fun K hK => ?_) AllReadyH.nil)
               ·obtain ⟨s0, s1, s2, s3, g0, g1, g2, g3⟩ := HCL.out Z BZ
                go_simp
                refine hK.out _ _ trivial (fun hHeld => ?_)
                clear hK K
                clear s0 s1 s2 s3 g0 g1 g2 g3
                have BZ1 := BZ
                generalize Z = Z1 at *
                (try simp only [Act.put, List.setIfInBounds_toArray, List.set_cons_zero, List.set_cons_succ])
                refine wpAnyH_ready (rs := [6]) (by kernel_rfl) (by simp) ?_
                refine AllReadyH.cons rfl (fun K hK => ?_) AllReadyH.nil
                obtain ⟨s0, s1, s2, s3⟩ := HFC.out Z1 BZ1
                go_simp
                refine hK.out _ _ trivial (fun hHeld => ?_)
                clear hK K
                clear s0 s1 s2 s3
                have BZ2 := BZ1
                generalize Z1 = Z2 at *
                (try simp only [Act.put, List.setIfInBounds_toArray, List.set_cons_zero, List.set_cons_succ])
                refine wpAnyH_ready (rs := [7]) (by kernel_rfl) (by simp) ?_
                refine AllReadyH.cons rfl (fun K hK => ?_) AllReadyH.nil
                go_simp
                refine (HDV.out _ BZ2).mono ?_
                rintro e Z3 ⟨b1, N1, n1, c1, D1, m1, d1, rfl, HV, hb7⟩
                have BZ3 := below_all BZ2 hb7
                clear hb7
                (try go_simp)
                refine hK.out _ _ trivial (fun hHeld => ?_)
                clear hK K
                (try simp only [Act.put, List.setIfInBounds_toArray, List.set_cons_zero, List.set_cons_succ])
                refine wpAnyH_get 8 (some 117) (.pointer (some ⟨wi.heap.size, k2 * 4, none⟩)) rfl rfl (by kernel_rfl) (by kernel_rfl) (by kernel_rfl) (fun _ _ _ h => h) (by rfl) hHeld ?_ ?_
                ·(intro w hSw; (try dsimp only at hSw); go_simp; all_goals (try with_reducible rfl))
                (try simp only [Act.put, List.setIfInBounds_toArray, List.set_cons_zero, List.set_cons_succ])
                refine wpAnyH_ready (rs := [9]) (by kernel_rfl) (by simp) ?_
                refine AllReadyH.cons rfl (fun K hK => ?_) AllReadyH.nil
                have HNEW : Hid (∃ rs', WSt wi wi.heap.size Ln (partQ v y (k2 + 1)) ((((Z3.setCell ⟨wi.heap.size, k2 * 4, none⟩ (.bool b1)).setCell ⟨wi.heap.size, k2 * 4 + 1, none⟩ (.slice N1 n1 c1)).setCell ⟨wi.heap.size, k2 * 4 + 2, none⟩ (.bool false)).setCell ⟨wi.heap.size, k2 * 4 + 3, none⟩ (.slice D1 m1 d1)) rs' ∧ Blk ((((Z3.setCell ⟨wi.heap.size, k2 * 4, none⟩ (.bool b1)).setCell ⟨wi.heap.size, k2 * 4 + 1, none⟩ (.slice N1 n1 c1)).setCell ⟨wi.heap.size, k2 * 4 + 2, none⟩ (.bool false)).setCell ⟨wi.heap.size, k2 * 4 + 3, none⟩ (.slice D1 m1 d1)) gf 109 #[.bool b0, .slice N0 n0 c0, .bool false, .slice D0 m0 d0] ∧ ∃ r : RVal, r.Is b0 N0 n0 c0 D0 m0 d0 ∧ r.q = ((y : Int) : Rat) ∧ r.Ok ((((Z3.setCell ⟨wi.heap.size, k2 * 4, none⟩ (.bool b1)).setCell ⟨wi.heap.size, k2 * 4 + 1, none⟩ (.slice N1 n1 c1)).setCell ⟨wi.heap.size, k2 * 4 + 2, none⟩ (.bool false)).setCell ⟨wi.heap.size, k2 * 4 + 3, none⟩ (.slice D1 m1 d1))) := Lib.hid (by
                 obtain ⟨r, hI, hrq, hok⟩ := HV.out
                 obtain ⟨r2, hI2, hrq2, hok2⟩ := HWK.out.2.2
                 have hne : gf ≠ wi.heap.size := by omega
                 have hBf := HWK.out.2.1.keep BZ3 HWK.out.2.1.lt
                 exact ⟨rs2.set k2 r, ⟨(HWK.out.1.own.keep BZ3).put HKR.out hok hI, below_far (below_far (below_far (below_far (below_all HWK.out.1.below BZ3) (Nat.le_refl _) _ _) (Nat.le_refl _) _ _) (Nat.le_refl _) _ _) (Nat.le_refl _) _ _, HPS.out r hrq⟩, (((hBf.far hne _).far hne _).far hne _).far hne _, r2, hI2, hrq2, (HWK.out.1.own.keep BZ3).put_ok HKR.out hok hI (hok2.keep BZ3)⟩)
                obtain ⟨s0, s1, s2, s3, g0, g1, g2, g3⟩ := HCL.out Z3 BZ3
                go_simp
                refine hK.out _ _ trivial (fun hHeld => ?_)
                clear hK K
                clear s0 s1 s2 s3 g0 g1 g2 g3
                (try simp only [Act.put, List.setIfInBounds_toArray, List.set_cons_zero, List.set_cons_succ])
                refine wpAnyH_done (by kernel_rfl) ?_ _
                go_wp2
                go_roundw
                case rel =>
                 obtain ⟨rs', h⟩ := HNEW.out
                 exact ⟨k2 + 1, rs', by go_num, by omega, Lib.hid h⟩
                case measure => simp [intOf]; omega
               ·obtain ⟨s0, s1, s2, s3⟩ := HFC.out Z BZ
                go_simp
                refine hK.out _ _ trivial (fun hHeld => ?_)
                clear hK K
                clear s0 s1 s2 s3
                have BZ5 := BZ
                generalize Z = Z5 at *
                (try simp only [Act.put, List.setIfInBounds_toArray, List.set_cons_zero, List.set_cons_succ])
                refine wpAnyH_ready (rs := [5]) (by kernel_rfl) (by simp) ?_
                refine AllReadyH.cons rfl (fun K hK => ?_) AllReadyH.nil
                obtain ⟨s0, s1, s2, s3, g0, g1, g2, g3⟩ := HCL.out Z5 BZ5
                go_simp
                refine hK.out _ _ trivial (fun hHeld => ?_)
                clear hK K
                clear s0 s1 s2 s3 g0 g1 g2 g3
                have BZ6 := BZ5
                generalize Z5 = Z6 at *
                (try simp only [Act.put, List.setIfInBounds_toArray, List.set_cons_zero, List.set_cons_succ])
                refine wpAnyH_ready (rs := [7]) (by kernel_rfl) (by simp) ?_
                refine AllReadyH.cons rfl (fun K hK => ?_) AllReadyH.nil
                go_simp
                refine (HDV.out _ BZ6).mono ?_
                rintro e Z7 ⟨b1, N1, n1, c1, D1, m1, d1, rfl, HV, hb7⟩
                have BZ7 := below_all BZ6 hb7
                clear hb7
                (try go_simp)
                refine hK.out _ _ trivial (fun hHeld => ?_)
                clear hK K
                (try simp only [Act.put, List.setIfInBounds_toArray, List.set_cons_zero, List.set_cons_succ])
                refine wpAnyH_get 8 (some 117) (.pointer (some ⟨wi.heap.size, k2 * 4, none⟩)) rfl rfl (by kernel_rfl) (by kernel_rfl) (by kernel_rfl) (fun _ _ _ h => h) (by rfl) hHeld ?_ ?_
                ·(intro w hSw; (try dsimp only at hSw); go_simp; all_goals (try with_reducible rfl))
                (try simp only [Act.put, List.setIfInBounds_toArray, List.set_cons_zero, List.set_cons_succ])
                refine wpAnyH_ready (rs := [9]) (by kernel_rfl) (by simp) ?_
                refine AllReadyH.cons rfl (fun K hK => ?_) AllReadyH.nil
                have HNEW : Hid (∃ rs', WSt wi wi.heap.size Ln (partQ v y (k2 + 1)) ((((Z7.setCell ⟨wi.heap.size, k2 * 4, none⟩ (.bool b1)).setCell ⟨wi.heap.size, k2 * 4 + 1, none⟩ (.slice N1 n1 c1)).setCell ⟨wi.heap.size, k2 * 4 + 2, none⟩ (.bool false)).setCell ⟨wi.heap.size, k2 * 4 + 3, none⟩ (.slice D1 m1 d1)) rs' ∧ Blk ((((Z7.setCell ⟨wi.heap.size, k2 * 4, none⟩ (.bool b1)).setCell ⟨wi.heap.size, k2 * 4 + 1, none⟩ (.slice N1 n1 c1)).setCell ⟨wi.heap.size, k2 * 4 + 2, none⟩ (.bool false)).setCell ⟨wi.heap.size, k2 * 4 + 3, none⟩ (.slice D1 m1 d1)) gf 109 #[.bool b0, .slice N0 n0 c0, .bool false, .slice D0 m0 d0] ∧ ∃ r : RVal, r.Is b0 N0 n0 c0 D0 m0 d0 ∧ r.q = ((y : Int) : Rat) ∧ r.Ok ((((Z7.setCell ⟨wi.heap.size, k2 * 4, none⟩ (.bool b1)).setCell ⟨wi.heap.size, k2 * 4 + 1, none⟩ (.slice N1 n1 c1)).setCell ⟨wi.heap.size, k2 * 4 + 2, none⟩ (.bool false)).setCell ⟨wi.heap.size, k2 * 4 + 3, none⟩ (.slice D1 m1 d1))) := Lib.hid (by
                 obtain ⟨r, hI, hrq, hok⟩ := HV.out
                 obtain ⟨r2, hI2, hrq2, hok2⟩ := HWK.out.2.2
                 have hne : gf ≠ wi.heap.size := by omega
                 have hBf := HWK.out.2.1.keep BZ7 HWK.out.2.1.lt
                 exact ⟨rs2.set k2 r, ⟨(HWK.out.1.own.keep BZ7).put HKR.out hok hI, below_far (below_far (below_far (below_far (below_all HWK.out.1.below BZ7) (Nat.le_refl _) _ _) (Nat.le_refl _) _ _) (Nat.le_refl _) _ _) (Nat.le_refl _) _ _, HPS.out r hrq⟩, (((hBf.far hne _).far hne _).far hne _).far hne _, r2, hI2, hrq2, (HWK.out.1.own.keep BZ7).put_ok HKR.out hok hI (hok2.keep BZ7)⟩)
                obtain ⟨s0, s1, s2, s3, g0, g1, g2, g3⟩ := HCL.out Z7 BZ7
                go_simp
                refine hK.out _ _ trivial (fun hHeld => ?_)
                clear hK K
                clear s0 s1 s2 s3 g0 g1 g2 g3
                (try simp only [Act.put, List.setIfInBounds_toArray, List.set_cons_zero, List.set_cons_succ])
                refine wpAnyH_done (by kernel_rfl) ?_ _
                go_wp2
                go_roundw
                case rel =>
                 obtain ⟨rs', h⟩ := HNEW.out
                 exact ⟨k2 + 1, rs', by go_num, by omega, Lib.hid h⟩
                case measure => simp [intOf]; omega
              ·obtain rfl : k2 = Ln := by omega
               have dk2 : decide ((k2 : Int) < (k2 : Int)) = false := by simp
               have hbz := HWK.out.1.below
               have hown := (HRS.out.keep hbz).own
               have hms : ms.length ≤ k2 := by
                have h1 := HRS.out.len
                have h2 := adTo_few' c im k2 i
                omega
               have hsz := HRS.out.below.size
               have hlr : rs2.length = k2 := by rw [HWK.out.1.len, partQ_len, HVL.out]
               have HCE : Hid (QRow.cell ⟨some ⟨wi.heap.size, 0, none⟩, k2, rs2⟩ = .slice (some ⟨wi.heap.size, 0, none⟩) k2 k2) := Lib.hid (by unfold QRow.cell; simp only; rw [hlr])
               have HQR : Hid (QRow.qs ⟨some ⟨wi.heap.size, 0, none⟩, k2, rs2⟩ = toQ (v.map fun x => x.tdiv y)) := Lib.hid (by
                have := HWK.out.1.eq
                rwa [partQ_full y HVL.out] at this)
               have HOQ : Hid (OwnQ wi.heap.size wk (some ⟨wi.heap.size, 0, none⟩) k2 rs2) := Lib.hid HWK.out.1.own
               clear hlr
               go_wp2_with (at_builtin
                            refine wpList_append_own_at _ rfl _ _ 78 rfl wc.heap.size 104 j0 (.slice none 0 0) 1 24 Tryz.underlying78 hj0 hjz0 hjz1 hjz2 rfl (by decide) (.slice A2 ms.length cA2) ms.length (ms.map QRow.cell) rfl (hown.own.alloc _) ⟨wk.heap.size, 0, none⟩ 1 1 [.slice (some ⟨wi.heap.size, 0, none⟩) k2 k2] rfl rfl (cell_one_new _ _ _) (by simp [Value.oneCell']) (by simp only [maxLen]; omega) (by omega) (by have := hbz.size; simp; omega) ?_
                            intro v7 w7 hown7 hg7 _ hat7
                            obtain ⟨A7, c7, hv7, _, _⟩ := Sl.of_own hown7
                            subst hv7)
               go_roundw
               case rel =>
                have hal6 := Below.alloc (Below.refl wk.heap.size wk) (Nat.le_refl _) (.cells #[.slice (some ⟨wi.heap.size, 0, none⟩) k2 k2] 104)
                refine ⟨i + 1, A7, c7, ms ++ [⟨some ⟨wi.heap.size, 0, none⟩, k2, rs2⟩], by go_num, by omega, by simp, Lib.hid ⟨OwnM.push (r := ⟨some ⟨wi.heap.size, 0, none⟩, k2, rs2⟩) (hown.keep hal6) ((HOQ.out.keep hal6).mono hsz) hg7 (by rw [HCE.out]; exact hown7), ?_, ?_⟩⟩
                ·have hb9 := below_all (below_all HRS.out.below hbz) hal6
                 exact hb9.grown hg7 hb9.size (fun q hq => ((hown.keep hal6).own.lt q hq).1)
                ·rw [List.map_append, HRS.out.eq, HNX.out, List.map_append]
                 simp only [List.map_cons, List.map_nil, HQR.out]
               case measure => simp [intOf]; omega
       ·obtain rfl : i = Ln := by omega
        have dk : decide ((i : Int) < (i : Int)) = false := by simp
        have hbi := HRS.out.below
        have hml := HRS.out.len
        have HSC := Lib.hid (chgTo_succ im i c)
        by_cases hm0 : ms.length = 0
        ·have e1 : decide ((0 : Int) < (ms.length : Int)) = false := decide_eq_false (by omega)
         have e2 : decide (0 < ms.length) = false := decide_eq_false (by omega)
         have HNX : Hid (chgTo im i (c + 1) = chgTo im i c) := Lib.hid (by
          rw [HSC.out, if_neg (by omega)]
          simp)
         clear hml
         go_wp2
         go_roundw
         case rel => exact ⟨c + 1, A, cA, bs, by go_num, by omega, rfl, Lib.hid ⟨(HCS.out.keep hbi).own, (HCS.out.keep hbi).below, by rw [HNX.out]; exact HCS.out.eq⟩⟩
         case measure => simp [intOf]; omega
        ·have e1 : decide ((0 : Int) < (ms.length : Int)) = true := decide_eq_true (by omega)
         have e2 : decide (0 < ms.length) = true := decide_eq_true (by omega)
         have HNX : Hid (chgTo im i (c + 1) = chgTo im i c ++ [adTo c im i i]) := Lib.hid (by rw [HSC.out, if_pos (by omega)])
         have hown := (HCS.out.keep hbi).own
         have hbl := HCS.out.len
         have hsz := HCS.out.below.size
         have hbs := hbi.size
         have hmeq := HRS.out.eq
         have HME : Hid (QMat.qs ⟨A2, cA2, ms⟩ = (adTo c im i i).map toQ) := Lib.hid hmeq
         have HOM : Hid (OwnM wc.heap.size wi A2 cA2 ms) := Lib.hid HRS.out.own
         clear hml hmeq
         go_wp2_with (at_builtin
                      refine wpList_append_own_at _ rfl _ _ 74 rfl w3.heap.size 78 k0 (.slice none 0 0) 1 24 Tryz.underlying74 hk0 hkz0 hkz1 hkz2 rfl (by decide) (.slice A bs.length cA) bs.length (bs.map QMat.cell) rfl (hown.own.alloc _) ⟨wi.heap.size, 0, none⟩ 1 1 [.slice A2 ms.length cA2] rfl rfl (cell_one_new _ _ _) (by simp [Value.oneCell']) (by simp only [maxLen]; omega) (by omega) (by simp; omega) ?_
                      intro v7 w7 hown7 hg7 _ hat7
                      obtain ⟨A7, c7, hv7, _, _⟩ := Sl.of_own hown7
                      subst hv7)
         go_roundw
         case rel =>
          have hal6 := Below.alloc (Below.refl wi.heap.size wi) (Nat.le_refl _) (.cells #[.slice A2 ms.length cA2] 78)
          refine ⟨c + 1, A7, c7, bs ++ [⟨A2, cA2, ms⟩], by go_num, by omega, by simp, Lib.hid ⟨OwnB.push (r := ⟨A2, cA2, ms⟩) (hown.keep hal6) ((HOM.out.keep hal6).mono hsz) hg7 hown7, ?_, ?_⟩⟩
          ·have hb9 := below_all (below_all HCS.out.below hbi) hal6
           exact hb9.grown hg7 hb9.size (fun q hq => ((hown.keep hal6).own.lt q hq).1)
          ·rw [List.map_append, HCS.out.eq, HNX.out, List.map_append]
           simp only [List.map_cons, List.map_nil, HME.out]
         case measure => simp [intOf]; omega
     ·obtain rfl : c = m := by omega
      have dk : decide ((c : Int) < (c : Int)) = false := by simp
      have hsh := HSH.out
      go_wp2
      go_ret2
      exact HRET.out _ _ (below_all hb03 HCS.out.below) ⟨A, cA, bs, rfl, ⟨own_base HCS.out.own.own hb03.size, fun r hr => (HCS.out.own.ok r hr).mono hb03.size⟩, HCS.out.eq⟩
   ·have HACN : Hid (∀ V A c, Lists V A (prods n l) → Lists V Bb b → Calls Tryz.prog 48 #[.slice A m c, .int .i64 n, .slice Bb b.length cB] V fun e w' => e = .returned (.tuple #[.slice none 0 0, .int .i64 (actE n (prods n l) b)]) ∧ Below V.heap.size V w') := Lib.hid (fun V A c h h2 => (HAC.out V A c h h2).mono (fun e w' hor => ⟨(hor.2.resolve_right (fun h => hz h.1)).2, hor.1⟩))
    have HRET : Hid (∀ e w', Below w.heap.size w w' → e = .returned (.tuple #[.slice none 0 0, .int .i64 (actE n (prods n l) b)]) → RetBases n l b w e w') := Lib.hid (fun e w' h1 h2 => ⟨h1, .inr (.inl ⟨hi, hz, h2⟩)⟩)
    generalize actE n (prods n l) b = z at *
    have ez : (z == 0) = false := beq_eq_false_iff_ne.2 hz
    have ez2 : (z = 0) = False := eq_false hz
    clear hi hz hsub HAC hm hil hL hB hp hpp hbb hmm hm2
    go_enter Tryz.func39, Tryz.ntmps39
    go_wp2_with (first
      | (go_at_call 29; refine HIN.out.mono ?_; rintro e w1 ⟨rfl, hb1⟩)
      | (go_at_call 58; refine (HPR.out _ hb1).mono ?_; rintro e w2 ⟨P, cP, rfl, hP, hb2⟩)
      | (go_at_call 48; refine (HACN.out _ _ _ hP (HBB.out.keep (below_all hb1 hb2))).mono ?_; rintro e w3 ⟨rfl, hb3⟩))
    go_ret2
    exact HRET.out _ _ (below_all (below_all hb1 hb2) hb3) rfl
  ·have HIN := Lib.hid (indep_any L cL n l false w hL hpp hn (by omega) ⟨fun h => (by cases h), fun h => absurd h hi⟩)
   have HI := Lib.hid hi
   clear hi hL hB hp hpp hbb
   go_enter Tryz.func39, Tryz.ntmps39
   go_wp2_with (go_at_call 29; refine HIN.out.mono ?_; rintro e w1 ⟨rfl, hb1⟩)
   go_ret2
   exact ⟨hb1, .inl ⟨HI.out, rfl⟩⟩
end Go.Proofs.Tg.Rf
end
