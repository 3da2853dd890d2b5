/- Parts of the proof: WG9. -/
import Derived.Deep.RegionHeld3
import Derived.Test.YtodjofbneeejpaaGreatDoorMBD10
import Derived.Test.YtodjofbneeejpaaGreatDoorMBD13
section
/- IsGroup of the reference 18. -/
namespace Go.Proofs.Tg.Gp
open Go.RowKit Go.Gr Go.Sp Go.Ev Go.Pm
set_option maxHeartbeats 2000000
set_option maxRecDepth 100000
/-- An operation whose guard is not met is passed over. -/
theorem wpAnyH_skip {P : Program} {md : Region.Mode} {ops : Array Oper} {Q : Exit → Act → World → Prop} {S : World → Prop} (i : Nat) (d : Option Tmp) {oi : Oper} {fuel : Nat} {listed : Array Bool} {a : Act} {w : World} (hi : ops[i]? = some oi) (hd : oi.dst = d)
    (hs : Region.noSelect ops = true) (hf : Region.free md ops listed i = true) (hr : (Region.ready md ops listed).contains i = true) (hQ : ∀ c a w, Q (.panic c) (a.put d undef) w → Q (.panic c) a w)
    (hw : Region.wanted oi (yielded ops a.tmps) = false) (hS : S w) (h : wpAnyH P md ops Q S fuel (listed.setIfInBounds i true) (a.put d undef) w) : wpAnyH P md ops Q S (fuel + 1) listed a w := by
  subst hd
  exact wpAnyH_take hi hs hf hr hQ (.inr ⟨hw, rfl⟩) hS h
theorem gp_risgroup (L : Option Addr) (cL : Nat) (l : List (List Int)) (v : Bool) (w : World) (hL : Lists w L l) (hl : l.length ≤ 720) (hll : ∀ x ∈ l, x.length ≤ 1000) (hv : v = true ↔ IsG l) :
    Calls Tryz.prog 27 #[.slice L l.length cL] w fun e w' => e = .returned (.bool v) ∧ Below w.heap.size w w' := by
  have HV := Lib.hid hv
  have HL := Lib.hid hL
  have HLL := Lib.hid hll
  clear hv hL hll
  cases l with
  | nil =>
    obtain rfl : v = false := eq_false_of_ne_true (fun h => (HV.out.1 h).2.1 rfl)
    go_enter Tryz.func27, Tryz.ntmps27
    go_upto_region 1 with (fail)
    go_quiet (fail)
    go_wp2
    go_ret
    exact ⟨rfl, below_drewN (Below.refl _ _) _⟩
  | cons a0 l0 =>
    obtain ⟨l, hlE⟩ : ∃ l, a0 :: l0 = l := ⟨_, rfl⟩
    have hpos : 0 < l.length := by rw [← hlE]; simp
    have hn0 : (l.headD []).length = l[0].length := by subst hlE; rfl
    have hne : l ≠ [] := by rw [← hlE]; simp
    rw [hlE] at HV HL HLL hl ⊢
    clear hlE
    obtain ⟨n, hn⟩ : ∃ n, l[0].length = n := ⟨_, rfl⟩
    have HVN : Hid (v = true ↔ n ≤ 6 ∧ (∀ a ∈ l, Perm n a) ∧ Asc l ∧ Grp n l) := Lib.hid (by
     rw [HV.out]
     unfold IsG
     rw [hn0, hn]
     exact ⟨fun h => ⟨h.1, h.2.2⟩, fun h => ⟨h.1, hne, h.2⟩⟩)
    obtain ⟨ad, E0, ce0, rfl, hc0, hE0⟩ := HL.out.at hpos
    rw [hn] at hc0
    have hzl : ((l.length : Int) == 0) = false := beq_eq_false_iff_ne.2 (by omega)
    have p0 : (0 : Int) < (l.length : Int) := by omega
    have hc0' : w.cell? ad = some (.slice E0 n ce0) := by
     have e : ad.add 0 = ad := by unfold Addr.add; split <;> simp_all
     rwa [e] at hc0
    have d720 : decide ((720 : Int) < (l.length : Int)) = false := decide_eq_false (by omega)
    have d720' : decide (720 < l.length) = false := decide_eq_false (by omega)
    have hxl0 := HLL.out l[0] (List.getElem_mem _)
    have hbe : Below w.heap.size w w.drew := (Below.refl _ _).drew
    clear hn0 hne HV hc0
    by_cases hval : n ≤ 6 ∧ Perm n l[0]
    ·have HVL : Hid (∀ V, Below w.heap.size w V → Calls Tryz.prog 55 #[.slice E0 n ce0] V fun e w' => e = .returned (.bool true) ∧ Below V.heap.size V w') := Lib.hid (fun V h => by
      have := rvalid18_any E0 ce0 l[0] true V (hE0.keep h) (by omega) ⟨fun _ => by rw [hn]; exact hval, fun _ => rfl⟩
      rwa [hn] at this)
     have HUN := Lib.hid (fun V => runit_any n V hval.1)
     have hn6 := hval.1
     by_cases hu : l[0] = unit n
     ·have HEQ : Hid (∀ V g, Below w.heap.size w V → Blk V g 3 (iarr (unit n)) → Calls Tryz.prog 56 #[.slice E0 n ce0, .slice (some ⟨g, 0, none⟩) n n] V fun e w' => e = .returned (.bool true) ∧ Below V.heap.size V w') := Lib.hid (fun V g h hg => by
       have := seq_any E0 (some ⟨g, 0, none⟩) l[0] (unit n) ce0 n V (hE0.keep h) (ints_blk hg (unit_len n) hn6) (by omega) true (decide_eq_true hu)
       rw [hn, unit_len] at this
       exact this.mono fun e w' h2 => ⟨h2.1, h2.2.below⟩)
      have HU := Lib.hid hu
      have HPV := Lib.hid hval
      have HN := Lib.hid hn
      clear hval hu hE0 hn
      go_enter Tryz.func27, Tryz.ntmps27
      go_upto_region 1 with (fail)
      go_region_held3 (fun w' => w'.cell? ad = some (.slice E0 n ce0))
        (first | exact keep_cell hbe hc0')
        (first
          | (go_at_call 55; with_reducible refine Calls.mono (HVL.out _ (by assumption)) ?_; rintro e w1 ⟨rfl, hb1⟩
             have hbe := below_all hbe hb1)
          | (go_at_call 52; with_reducible refine Calls.mono (HUN.out _) ?_; rintro e w2 ⟨rfl, hG2, hb2⟩
             have hbe := below_all hbe hb2)
          | (go_at_call 56; with_reducible refine Calls.mono (HEQ.out _ _ (by assumption) (by assumption)) ?_; rintro e w3 ⟨rfl, hb3⟩
             have hbe := below_all hbe hb3))
      all_goals
        clear hG2 hb1 hb2 hb3 HVL HUN HEQ
        have HC0 := Lib.hid hc0'
        have hp1 : Pre n l 1 := ⟨fun i hi h => by
         obtain rfl : i = 0 := by omega
         exact ⟨by rw [HPV.out.2.1]; exact HPV.out.1, HPV.out.2⟩, fun i hi h => by omega⟩
        have HP1 := Lib.hid hp1
        clear hp1 hc0'
        go_wp2
        go_loopw [3] (fun s3 wr => ∃ k : Nat, s3 = .int .i64 k ∧ 1 ≤ k ∧ k ≤ l.length ∧ Hid (Pre n l k) ∧ Below w.heap.size w wr) (fun s3 _ => l.length - (intOf s3).toNat)
        case atStart => exact ⟨1, rfl, Nat.le_refl _, hpos, HP1, hbe⟩
        case round =>
         clear hbe HP1
         obtain ⟨wo, rfl⟩ : ∃ wo : World, wo = wr := ⟨_, rfl⟩
         obtain ⟨k, rfl, hk1, hk, HPRE, hbo⟩ := hrel
         by_cases hkl : k < l.length
         ·obtain ⟨m, hkm⟩ : ∃ m, k = m + 1 := ⟨k - 1, by omega⟩
          have hml : m < l.length := by omega
          obtain ⟨ad', E, ce, had, s1, hE⟩ := (HL.out.keep hbo).at hkl
          injection had with had
          subst had
          obtain ⟨ad', E1, ce1, had, s3, hE1⟩ := (HL.out.keep hbo).at hml
          injection had with had
          subst had
          have s2 := keep_cell hbo HC0.out
          have q0 : (0 : Int) ≤ (k : Int) := by omega
          have q1 : (k : Int) < (l.length : Int) := by omega
          have q3 : ((k : Int)).toNat = k := by omega
          have r0 : (0 : Int) ≤ (m : Int) := by omega
          have r1 : (m : Int) < (l.length : Int) := by omega
          have r3 : ((m : Int)).toNat = m := by omega
          have ww1 : IntKind.i64.wrap ((k : Int) - 1) = (m : Int) := by rw [IntWalk.i64_in _ (by omega)]; omega
          have hxl := HLL.out l[k] (List.getElem_mem _)
          have hyl := HLL.out (l[m]'hml) (List.getElem_mem _)
          by_cases hval : l[k].length ≤ 6 ∧ Perm l[k].length l[k]
          ·have HVL : Hid (∀ V, Below wo.heap.size wo V → Calls Tryz.prog 55 #[.slice E l[k].length ce] V fun e w' => e = .returned (.bool true) ∧ Below V.heap.size V w') := Lib.hid (fun V h => rvalid18_any E ce l[k] true V (hE.keep h) (by omega) ⟨fun _ => hval, fun _ => rfl⟩)
           by_cases hlen : l[k].length = n
           ·have hlb : ((l[k].length : Int) != (n : Int)) = false := by simp [hlen]
            have hlb' : (l[k].length != n) = false := by simp [hlen]
            have hpn : Perm n l[k] := by rw [← hlen]; exact hval.2
            by_cases hlt : cmpL (l[m]'hml) l[k] < 0
            ·have HLS : Hid (∀ V, Below wo.heap.size wo V → Calls Tryz.prog 57 #[.slice E1 (l[m]'hml).length ce1, .slice E l[k].length ce] V fun e w' => e = .returned (.bool true) ∧ V = w') := Lib.hid (fun V h => less_any E1 E ce1 ce (l[m]'hml) l[k] true V (hE1.keep h) (hE.keep h) (by omega) (decide_eq_true hlt))
             have HP2 := Lib.hid (HPRE.out.succ hkl hval.1 hpn (fun _ => (by
              have e : k - 1 = m := by omega
              simp only [e]
              exact hlt)))
             clear hval hlen hpn hlt hE hE1 hkm
             generalize l[m]'hml = y at *
             generalize l[k] = x at *
             go_upto_region 6 with (fail)
             have BZ : Below wo.heap.size wo wo.drew := (Below.refl _ _).drew
             refine wp_region_held_drew (S := (fun w' => w'.cell? (ad.add k) = some (.slice E x.length ce) ∧ w'.cell? ad = some (.slice E0 n ce0) ∧ w'.cell? (ad.add m) = some (.slice E1 y.length ce1))) (by kernel_rfl) ⟨s1, s2, s3⟩ (fun hHeld => ?_)
             generalize wo.drew = Z at *
             refine wpAnyH_get 0 (some 41) (.slice (some ad) l.length cL) rfl rfl (by kernel_rfl) (by kernel_rfl) (by kernel_rfl) (fun _ _ _ h => h) (by rfl) hHeld ?_ ?_
             ·(intro w hSw; (try dsimp only at hSw); go_simp; all_goals (try with_reducible rfl))
             (try simp only [Act.put, List.setIfInBounds_toArray, List.set_cons_zero, List.set_cons_succ])
             refine wpAnyH_get 1 (some 42) (.int .i64 k) rfl rfl (by kernel_rfl) (by kernel_rfl) (by kernel_rfl) (fun _ _ _ h => h) (by rfl) hHeld ?_ ?_
             ·(intro w hSw; (try dsimp only at hSw); go_simp; all_goals (try with_reducible rfl))
             (try simp only [Act.put, List.setIfInBounds_toArray, List.set_cons_zero, List.set_cons_succ])
             refine wpAnyH_get 2 (some 43) (.pointer (some (ad.add k))) rfl rfl (by kernel_rfl) (by kernel_rfl) (by kernel_rfl) (fun _ _ _ h => h) (by rfl) hHeld ?_ ?_
             ·(intro w hSw; (try dsimp only at hSw); go_simp; all_goals (try with_reducible rfl))
             (try simp only [Act.put, List.setIfInBounds_toArray, List.set_cons_zero, List.set_cons_succ])
             refine wpAnyH_get 3 (some 44) (.slice E x.length ce) rfl rfl (by kernel_rfl) (by kernel_rfl) (by kernel_rfl) (fun _ _ _ h => h) (by rfl) hHeld ?_ ?_
             ·(intro w hSw; (try dsimp only at hSw); go_simp; all_goals (try with_reducible rfl))
             (try simp only [Act.put, List.setIfInBounds_toArray, List.set_cons_zero, List.set_cons_succ])
             refine wpAnyH_ready (rs := [4]) (by kernel_rfl) (by simp) ?_
             refine AllReadyH.cons rfl (fun K hK => ?_) AllReadyH.nil
             go_simp
             refine (HVL.out _ BZ).mono ?_
             rintro e w1 ⟨rfl, hb1⟩
             (try go_simp)
             have BZ := below_all BZ hb1
             refine hK.out _ _ ⟨keep_cell BZ s1, keep_cell BZ s2, keep_cell BZ s3⟩ (fun hHeld => ?_)
             clear hK K hb1
             (try simp only [Act.put, List.setIfInBounds_toArray, List.set_cons_zero, List.set_cons_succ])
             refine wpAnyH_get 5 (some 46) (.bool false) rfl rfl (by kernel_rfl) (by kernel_rfl) (by kernel_rfl) (fun _ _ _ h => h) (by rfl) hHeld ?_ ?_
             ·(intro w hSw; (try dsimp only at hSw); go_simp; all_goals (try with_reducible rfl))
             (try simp only [Act.put, List.setIfInBounds_toArray, List.set_cons_zero, List.set_cons_succ])
             refine wpAnyH_get 6 (some 47) (.bool false) rfl rfl (by kernel_rfl) (by kernel_rfl) (by kernel_rfl) (fun _ _ _ h => h) (by rfl) hHeld ?_ ?_
             ·(intro w hSw; (try dsimp only at hSw); go_simp; all_goals (try with_reducible rfl))
             (try simp only [Act.put, List.setIfInBounds_toArray, List.set_cons_zero, List.set_cons_succ])
             refine wpAnyH_get 7 (some 48) (.slice (some ad) l.length cL) rfl rfl (by kernel_rfl) (by kernel_rfl) (by kernel_rfl) (fun _ _ _ h => h) (by rfl) hHeld ?_ ?_
             ·(intro w hSw; (try dsimp only at hSw); go_simp; all_goals (try with_reducible rfl))
             (try simp only [Act.put, List.setIfInBounds_toArray, List.set_cons_zero, List.set_cons_succ])
             refine wpAnyH_get 8 (some 49) (.int .i64 k) rfl rfl (by kernel_rfl) (by kernel_rfl) (by kernel_rfl) (fun _ _ _ h => h) (by rfl) hHeld ?_ ?_
             ·(intro w hSw; (try dsimp only at hSw); go_simp; all_goals (try with_reducible rfl))
             (try simp only [Act.put, List.setIfInBounds_toArray, List.set_cons_zero, List.set_cons_succ])
             refine wpAnyH_get 9 (some 50) (.pointer (some (ad.add k))) rfl rfl (by kernel_rfl) (by kernel_rfl) (by kernel_rfl) (fun _ _ _ h => h) (by rfl) hHeld ?_ ?_
             ·(intro w hSw; (try dsimp only at hSw); go_simp; all_goals (try with_reducible rfl))
             (try simp only [Act.put, List.setIfInBounds_toArray, List.set_cons_zero, List.set_cons_succ])
             refine wpAnyH_get 10 (some 51) (.slice E x.length ce) rfl rfl (by kernel_rfl) (by kernel_rfl) (by kernel_rfl) (fun _ _ _ h => h) (by rfl) hHeld ?_ ?_
             ·(intro w hSw; (try dsimp only at hSw); go_simp; all_goals (try with_reducible rfl))
             (try simp only [Act.put, List.setIfInBounds_toArray, List.set_cons_zero, List.set_cons_succ])
             refine wpAnyH_get 11 (some 52) (.int .i64 (x.length : Int)) rfl rfl (by kernel_rfl) (by kernel_rfl) (by kernel_rfl) (fun _ _ _ h => h) (by rfl) hHeld ?_ ?_
             ·(intro w hSw; (try dsimp only at hSw); go_simp; all_goals (try with_reducible rfl))
             (try simp only [Act.put, List.setIfInBounds_toArray, List.set_cons_zero, List.set_cons_succ])
             refine wpAnyH_get 12 (some 53) (.slice (some ad) l.length cL) rfl rfl (by kernel_rfl) (by kernel_rfl) (by kernel_rfl) (fun _ _ _ h => h) (by rfl) hHeld ?_ ?_
             ·(intro w hSw; (try dsimp only at hSw); go_simp; all_goals (try with_reducible rfl))
             (try simp only [Act.put, List.setIfInBounds_toArray, List.set_cons_zero, List.set_cons_succ])
             refine wpAnyH_get 13 (some 54) (.pointer (some ad)) rfl rfl (by kernel_rfl) (by kernel_rfl) (by kernel_rfl) (fun _ _ _ h => h) (by rfl) hHeld ?_ ?_
             ·(intro w hSw; (try dsimp only at hSw); go_simp; all_goals (try with_reducible rfl))
             (try simp only [Act.put, List.setIfInBounds_toArray, List.set_cons_zero, List.set_cons_succ])
             refine wpAnyH_get 14 (some 55) (.slice E0 n ce0) rfl rfl (by kernel_rfl) (by kernel_rfl) (by kernel_rfl) (fun _ _ _ h => h) (by rfl) hHeld ?_ ?_
             ·(intro w hSw; (try dsimp only at hSw); go_simp; all_goals (try with_reducible rfl))
             (try simp only [Act.put, List.setIfInBounds_toArray, List.set_cons_zero, List.set_cons_succ])
             refine wpAnyH_get 15 (some 56) (.int .i64 n) rfl rfl (by kernel_rfl) (by kernel_rfl) (by kernel_rfl) (fun _ _ _ h => h) (by rfl) hHeld ?_ ?_
             ·(intro w hSw; (try dsimp only at hSw); go_simp; all_goals (try with_reducible rfl))
             (try simp only [Act.put, List.setIfInBounds_toArray, List.set_cons_zero, List.set_cons_succ])
             refine wpAnyH_get 16 (some 57) (.bool false) rfl rfl (by kernel_rfl) (by kernel_rfl) (by kernel_rfl) (fun _ _ _ h => h) (by rfl) hHeld ?_ ?_
             ·(intro w hSw; (try dsimp only at hSw); go_simp; all_goals (try with_reducible rfl))
             (try simp only [Act.put, List.setIfInBounds_toArray, List.set_cons_zero, List.set_cons_succ])
             refine wpAnyH_get 17 (some 58) (.bool false) rfl rfl (by kernel_rfl) (by kernel_rfl) (by kernel_rfl) (fun _ _ _ h => h) (by rfl) hHeld ?_ ?_
             ·(intro w hSw; (try dsimp only at hSw); go_simp; all_goals (try with_reducible rfl))
             (try simp only [Act.put, List.setIfInBounds_toArray, List.set_cons_zero, List.set_cons_succ])
             refine wpAnyH_get 18 (some 59) (.bool false) rfl rfl (by kernel_rfl) (by kernel_rfl) (by kernel_rfl) (fun _ _ _ h => h) (by rfl) hHeld ?_ ?_
             ·(intro w hSw; (try dsimp only at hSw); go_simp; all_goals (try with_reducible rfl))
             (try simp only [Act.put, List.setIfInBounds_toArray, List.set_cons_zero, List.set_cons_succ])
             refine wpAnyH_get 19 (some 60) (.slice (some ad) l.length cL) rfl rfl (by kernel_rfl) (by kernel_rfl) (by kernel_rfl) (fun _ _ _ h => h) (by rfl) hHeld ?_ ?_
             ·(intro w hSw; (try dsimp only at hSw); go_simp; all_goals (try with_reducible rfl))
             (try simp only [Act.put, List.setIfInBounds_toArray, List.set_cons_zero, List.set_cons_succ])
             refine wpAnyH_get 20 (some 61) (.int .i64 k) rfl rfl (by kernel_rfl) (by kernel_rfl) (by kernel_rfl) (fun _ _ _ h => h) (by rfl) hHeld ?_ ?_
             ·(intro w hSw; (try dsimp only at hSw); go_simp; all_goals (try with_reducible rfl))
             (try simp only [Act.put, List.setIfInBounds_toArray, List.set_cons_zero, List.set_cons_succ])
             refine wpAnyH_get 21 (some 62) (.int .i64 m) rfl rfl (by kernel_rfl) (by kernel_rfl) (by kernel_rfl) (fun _ _ _ h => h) (by rfl) hHeld ?_ ?_
             ·(intro w hSw; (try dsimp only at hSw); go_simp; all_goals (try with_reducible rfl))
             (try simp only [Act.put, List.setIfInBounds_toArray, List.set_cons_zero, List.set_cons_succ])
             refine wpAnyH_get 22 (some 63) (.pointer (some (ad.add m))) rfl rfl (by kernel_rfl) (by kernel_rfl) (by kernel_rfl) (fun _ _ _ h => h) (by rfl) hHeld ?_ ?_
             ·(intro w hSw; (try dsimp only at hSw); go_simp; all_goals (try with_reducible rfl))
             (try simp only [Act.put, List.setIfInBounds_toArray, List.set_cons_zero, List.set_cons_succ])
             refine wpAnyH_get 23 (some 64) (.slice E1 y.length ce1) rfl rfl (by kernel_rfl) (by kernel_rfl) (by kernel_rfl) (fun _ _ _ h => h) (by rfl) hHeld ?_ ?_
             ·(intro w hSw; (try dsimp only at hSw); go_simp; all_goals (try with_reducible rfl))
             (try simp only [Act.put, List.setIfInBounds_toArray, List.set_cons_zero, List.set_cons_succ])
             refine wpAnyH_get 24 (some 65) (.slice (some ad) l.length cL) rfl rfl (by kernel_rfl) (by kernel_rfl) (by kernel_rfl) (fun _ _ _ h => h) (by rfl) hHeld ?_ ?_
             ·(intro w hSw; (try dsimp only at hSw); go_simp; all_goals (try with_reducible rfl))
             (try simp only [Act.put, List.setIfInBounds_toArray, List.set_cons_zero, List.set_cons_succ])
             refine wpAnyH_get 25 (some 66) (.int .i64 k) rfl rfl (by kernel_rfl) (by kernel_rfl) (by kernel_rfl) (fun _ _ _ h => h) (by rfl) hHeld ?_ ?_
             ·(intro w hSw; (try dsimp only at hSw); go_simp; all_goals (try with_reducible rfl))
             (try simp only [Act.put, List.setIfInBounds_toArray, List.set_cons_zero, List.set_cons_succ])
             refine wpAnyH_get 26 (some 67) (.pointer (some (ad.add k))) rfl rfl (by kernel_rfl) (by kernel_rfl) (by kernel_rfl) (fun _ _ _ h => h) (by rfl) hHeld ?_ ?_
             ·(intro w hSw; (try dsimp only at hSw); go_simp; all_goals (try with_reducible rfl))
             (try simp only [Act.put, List.setIfInBounds_toArray, List.set_cons_zero, List.set_cons_succ])
             refine wpAnyH_get 27 (some 68) (.slice E x.length ce) rfl rfl (by kernel_rfl) (by kernel_rfl) (by kernel_rfl) (fun _ _ _ h => h) (by rfl) hHeld ?_ ?_
             ·(intro w hSw; (try dsimp only at hSw); go_simp; all_goals (try with_reducible rfl))
             (try simp only [Act.put, List.setIfInBounds_toArray, List.set_cons_zero, List.set_cons_succ])
             refine wpAnyH_ready (rs := [28]) (by kernel_rfl) (by simp) ?_
             refine AllReadyH.cons rfl (fun K hK => ?_) AllReadyH.nil
             go_simp
             refine (HLS.out _ BZ).mono ?_
             rintro e w2 ⟨rfl, rfl⟩
             (try go_simp)
             refine hK.out _ _ ⟨keep_cell BZ s1, keep_cell BZ s2, keep_cell BZ s3⟩ (fun hHeld => ?_)
             clear hK K
             (try simp only [Act.put, List.setIfInBounds_toArray, List.set_cons_zero, List.set_cons_succ])
             refine wpAnyH_get 29 (some 70) (.bool false) rfl rfl (by kernel_rfl) (by kernel_rfl) (by kernel_rfl) (fun _ _ _ h => h) (by rfl) hHeld ?_ ?_
             ·(intro w hSw; (try dsimp only at hSw); go_simp; all_goals (try with_reducible rfl))
             (try simp only [Act.put, List.setIfInBounds_toArray, List.set_cons_zero, List.set_cons_succ])
             refine wpAnyH_get 30 (some 71) (.bool false) rfl rfl (by kernel_rfl) (by kernel_rfl) (by kernel_rfl) (fun _ _ _ h => h) (by rfl) hHeld ?_ ?_
             ·(intro w hSw; (try dsimp only at hSw); go_simp; all_goals (try with_reducible rfl))
             (try simp only [Act.put, List.setIfInBounds_toArray, List.set_cons_zero, List.set_cons_succ])
             refine wpAnyH_done (by kernel_rfl) ?_ _
             go_wp2
             go_roundw
             case rel => exact ⟨k + 1, by go_num, by omega, by omega, HP2, below_all hbo BZ⟩
             case measure => simp [intOf]; omega
            ·have HLS : Hid (∀ V, Below wo.heap.size wo V → Calls Tryz.prog 57 #[.slice E1 (l[m]'hml).length ce1, .slice E l[k].length ce] V fun e w' => e = .returned (.bool false) ∧ V = w') := Lib.hid (fun V h => less_any E1 E ce1 ce (l[m]'hml) l[k] false V (hE1.keep h) (hE.keep h) (by omega) (decide_eq_false hlt))
             obtain rfl : v = false := eq_false_of_ne_true (fun h => hlt ((HVN.out.1 h).2.2.1.lt hml hkl (by omega)))
             clear hval hlen hpn hlt hE hE1 hkm
             generalize l[m]'hml = y at *
             generalize l[k] = x at *
             go_upto_region 6 with (fail)
             have BZ : Below wo.heap.size wo wo.drew := (Below.refl _ _).drew
             refine wp_region_held_drew (S := (fun w' => w'.cell? (ad.add k) = some (.slice E x.length ce) ∧ w'.cell? ad = some (.slice E0 n ce0) ∧ w'.cell? (ad.add m) = some (.slice E1 y.length ce1))) (by kernel_rfl) ⟨s1, s2, s3⟩ (fun hHeld => ?_)
             generalize wo.drew = Z at *
             refine wpAnyH_get 0 (some 41) (.slice (some ad) l.length cL) rfl rfl (by kernel_rfl) (by kernel_rfl) (by kernel_rfl) (fun _ _ _ h => h) (by rfl) hHeld ?_ ?_
             ·(intro w hSw; (try dsimp only at hSw); go_simp; all_goals (try with_reducible rfl))
             (try simp only [Act.put, List.setIfInBounds_toArray, List.set_cons_zero, List.set_cons_succ])
             refine wpAnyH_get 1 (some 42) (.int .i64 k) rfl rfl (by kernel_rfl) (by kernel_rfl) (by kernel_rfl) (fun _ _ _ h => h) (by rfl) hHeld ?_ ?_
             ·(intro w hSw; (try dsimp only at hSw); go_simp; all_goals (try with_reducible rfl))
             (try simp only [Act.put, List.setIfInBounds_toArray, List.set_cons_zero, List.set_cons_succ])
             refine wpAnyH_get 2 (some 43) (.pointer (some (ad.add k))) rfl rfl (by kernel_rfl) (by kernel_rfl) (by kernel_rfl) (fun _ _ _ h => h) (by rfl) hHeld ?_ ?_
             ·(intro w hSw; (try dsimp only at hSw); go_simp; all_goals (try with_reducible rfl))
             (try simp only [Act.put, List.setIfInBounds_toArray, List.set_cons_zero, List.set_cons_succ])
             refine wpAnyH_get 3 (some 44) (.slice E x.length ce) rfl rfl (by kernel_rfl) (by kernel_rfl) (by kernel_rfl) (fun _ _ _ h => h) (by rfl) hHeld ?_ ?_
             ·(intro w hSw; (try dsimp only at hSw); go_simp; all_goals (try with_reducible rfl))
             (try simp only [Act.put, List.setIfInBounds_toArray, List.set_cons_zero, List.set_cons_succ])
             refine wpAnyH_ready (rs := [4]) (by kernel_rfl) (by simp) ?_
             refine AllReadyH.cons rfl (fun K hK => ?_) AllReadyH.nil
             go_simp
             refine (HVL.out _ BZ).mono ?_
             rintro e w1 ⟨rfl, hb1⟩
             (try go_simp)
             have BZ := below_all BZ hb1
             refine hK.out _ _ ⟨keep_cell BZ s1, keep_cell BZ s2, keep_cell BZ s3⟩ (fun hHeld => ?_)
             clear hK K hb1
             (try simp only [Act.put, List.setIfInBounds_toArray, List.set_cons_zero, List.set_cons_succ])
             refine wpAnyH_get 5 (some 46) (.bool false) rfl rfl (by kernel_rfl) (by kernel_rfl) (by kernel_rfl) (fun _ _ _ h => h) (by rfl) hHeld ?_ ?_
             ·(intro w hSw; (try dsimp only at hSw); go_simp; all_goals (try with_reducible rfl))
             (try simp only [Act.put, List.setIfInBounds_toArray, List.set_cons_zero, List.set_cons_succ])
             refine wpAnyH_get 6 (some 47) (.bool false) rfl rfl (by kernel_rfl) (by kernel_rfl) (by kernel_rfl) (fun _ _ _ h => h) (by rfl) hHeld ?_ ?_
             ·(intro w hSw; (try dsimp only at hSw); go_simp; all_goals (try with_reducible rfl))
             (try simp only [Act.put, List.setIfInBounds_toArray, List.set_cons_zero, List.set_cons_succ])
             refine wpAnyH_get 7 (some 48) (.slice (some ad) l.length cL) rfl rfl (by kernel_rfl) (by kernel_rfl) (by kernel_rfl) (fun _ _ _ h => h) (by rfl) hHeld ?_ ?_
             ·(intro w hSw; (try dsimp only at hSw); go_simp; all_goals (try with_reducible rfl))
             (try simp only [Act.put, List.setIfInBounds_toArray, List.set_cons_zero, List.set_cons_succ])
             refine wpAnyH_get 8 (some 49) (.int .i64 k) rfl rfl (by kernel_rfl) (by kernel_rfl) (by kernel_rfl) (fun _ _ _ h => h) (by rfl) hHeld ?_ ?_
             ·(intro w hSw; (try dsimp only at hSw); go_simp; all_goals (try with_reducible rfl))
             (try simp only [Act.put, List.setIfInBounds_toArray, List.set_cons_zero, List.set_cons_succ])
             refine wpAnyH_get 9 (some 50) (.pointer (some (ad.add k))) rfl rfl (by kernel_rfl) (by kernel_rfl) (by kernel_rfl) (fun _ _ _ h => h) (by rfl) hHeld ?_ ?_
             ·(intro w hSw; (try dsimp only at hSw); go_simp; all_goals (try with_reducible rfl))
             (try simp only [Act.put, List.setIfInBounds_toArray, List.set_cons_zero, List.set_cons_succ])
             refine wpAnyH_get 10 (some 51) (.slice E x.length ce) rfl rfl (by kernel_rfl) (by kernel_rfl) (by kernel_rfl) (fun _ _ _ h => h) (by rfl) hHeld ?_ ?_
             ·(intro w hSw; (try dsimp only at hSw); go_simp; all_goals (try with_reducible rfl))
             (try simp only [Act.put, List.setIfInBounds_toArray, List.set_cons_zero, List.set_cons_succ])
             refine wpAnyH_get 11 (some 52) (.int .i64 (x.length : Int)) rfl rfl (by kernel_rfl) (by kernel_rfl) (by kernel_rfl) (fun _ _ _ h => h) (by rfl) hHeld ?_ ?_
             ·(intro w hSw; (try dsimp only at hSw); go_simp; all_goals (try with_reducible rfl))
             (try simp only [Act.put, List.setIfInBounds_toArray, List.set_cons_zero, List.set_cons_succ])
             refine wpAnyH_get 12 (some 53) (.slice (some ad) l.length cL) rfl rfl (by kernel_rfl) (by kernel_rfl) (by kernel_rfl) (fun _ _ _ h => h) (by rfl) hHeld ?_ ?_
             ·(intro w hSw; (try dsimp only at hSw); go_simp; all_goals (try with_reducible rfl))
             (try simp only [Act.put, List.setIfInBounds_toArray, List.set_cons_zero, List.set_cons_succ])
             refine wpAnyH_get 13 (some 54) (.pointer (some ad)) rfl rfl (by kernel_rfl) (by kernel_rfl) (by kernel_rfl) (fun _ _ _ h => h) (by rfl) hHeld ?_ ?_
             ·(intro w hSw; (try dsimp only at hSw); go_simp; all_goals (try with_reducible rfl))
             (try simp only [Act.put, List.setIfInBounds_toArray, List.set_cons_zero, List.set_cons_succ])
             refine wpAnyH_get 14 (some 55) (.slice E0 n ce0) rfl rfl (by kernel_rfl) (by kernel_rfl) (by kernel_rfl) (fun _ _ _ h => h) (by rfl) hHeld ?_ ?_
             ·(intro w hSw; (try dsimp only at hSw); go_simp; all_goals (try with_reducible rfl))
             (try simp only [Act.put, List.setIfInBounds_toArray, List.set_cons_zero, List.set_cons_succ])
             refine wpAnyH_get 15 (some 56) (.int .i64 n) rfl rfl (by kernel_rfl) (by kernel_rfl) (by kernel_rfl) (fun _ _ _ h => h) (by rfl) hHeld ?_ ?_
             ·(intro w hSw; (try dsimp only at hSw); go_simp; all_goals (try with_reducible rfl))
             (try simp only [Act.put, List.setIfInBounds_toArray, List.set_cons_zero, List.set_cons_succ])
             refine wpAnyH_get 16 (some 57) (.bool false) rfl rfl (by kernel_rfl) (by kernel_rfl) (by kernel_rfl) (fun _ _ _ h => h) (by rfl) hHeld ?_ ?_
             ·(intro w hSw; (try dsimp only at hSw); go_simp; all_goals (try with_reducible rfl))
             (try simp only [Act.put, List.setIfInBounds_toArray, List.set_cons_zero, List.set_cons_succ])
             refine wpAnyH_get 17 (some 58) (.bool false) rfl rfl (by kernel_rfl) (by kernel_rfl) (by kernel_rfl) (fun _ _ _ h => h) (by rfl) hHeld ?_ ?_
             ·(intro w hSw; (try dsimp only at hSw); go_simp; all_goals (try with_reducible rfl))
             (try simp only [Act.put, List.setIfInBounds_toArray, List.set_cons_zero, List.set_cons_succ])
             refine wpAnyH_get 18 (some 59) (.bool false) rfl rfl (by kernel_rfl) (by kernel_rfl) (by kernel_rfl) (fun _ _ _ h => h) (by rfl) hHeld ?_ ?_
             ·(intro w hSw; (try dsimp only at hSw); go_simp; all_goals (try with_reducible rfl))
             (try simp only [Act.put, List.setIfInBounds_toArray, List.set_cons_zero, List.set_cons_succ])
             refine wpAnyH_get 19 (some 60) (.slice (some ad) l.length cL) rfl rfl (by kernel_rfl) (by kernel_rfl) (by kernel_rfl) (fun _ _ _ h => h) (by rfl) hHeld ?_ ?_
             ·(intro w hSw; (try dsimp only at hSw); go_simp; all_goals (try with_reducible rfl))
             (try simp only [Act.put, List.setIfInBounds_toArray, List.set_cons_zero, List.set_cons_succ])
             refine wpAnyH_get 20 (some 61) (.int .i64 k) rfl rfl (by kernel_rfl) (by kernel_rfl) (by kernel_rfl) (fun _ _ _ h => h) (by rfl) hHeld ?_ ?_
             ·(intro w hSw; (try dsimp only at hSw); go_simp; all_goals (try with_reducible rfl))
             (try simp only [Act.put, List.setIfInBounds_toArray, List.set_cons_zero, List.set_cons_succ])
             refine wpAnyH_get 21 (some 62) (.int .i64 m) rfl rfl (by kernel_rfl) (by kernel_rfl) (by kernel_rfl) (fun _ _ _ h => h) (by rfl) hHeld ?_ ?_
             ·(intro w hSw; (try dsimp only at hSw); go_simp; all_goals (try with_reducible rfl))
             (try simp only [Act.put, List.setIfInBounds_toArray, List.set_cons_zero, List.set_cons_succ])
             refine wpAnyH_get 22 (some 63) (.pointer (some (ad.add m))) rfl rfl (by kernel_rfl) (by kernel_rfl) (by kernel_rfl) (fun _ _ _ h => h) (by rfl) hHeld ?_ ?_
             ·(intro w hSw; (try dsimp only at hSw); go_simp; all_goals (try with_reducible rfl))
             (try simp only [Act.put, List.setIfInBounds_toArray, List.set_cons_zero, List.set_cons_succ])
             refine wpAnyH_get 23 (some 64) (.slice E1 y.length ce1) rfl rfl (by kernel_rfl) (by kernel_rfl) (by kernel_rfl) (fun _ _ _ h => h) (by rfl) hHeld ?_ ?_
             ·(intro w hSw; (try dsimp only at hSw); go_simp; all_goals (try with_reducible rfl))
             (try simp only [Act.put, List.setIfInBounds_toArray, List.set_cons_zero, List.set_cons_succ])
             refine wpAnyH_get 24 (some 65) (.slice (some ad) l.length cL) rfl rfl (by kernel_rfl) (by kernel_rfl) (by kernel_rfl) (fun _ _ _ h => h) (by rfl) hHeld ?_ ?_
             ·(intro w hSw; (try dsimp only at hSw); go_simp; all_goals (try with_reducible rfl))
             (try simp only [Act.put, List.setIfInBounds_toArray, List.set_cons_zero, List.set_cons_succ])
             refine wpAnyH_get 25 (some 66) (.int .i64 k) rfl rfl (by kernel_rfl) (by kernel_rfl) (by kernel_rfl) (fun _ _ _ h => h) (by rfl) hHeld ?_ ?_
             ·(intro w hSw; (try dsimp only at hSw); go_simp; all_goals (try with_reducible rfl))
             (try simp only [Act.put, List.setIfInBounds_toArray, List.set_cons_zero, List.set_cons_succ])
             refine wpAnyH_get 26 (some 67) (.pointer (some (ad.add k))) rfl rfl (by kernel_rfl) (by kernel_rfl) (by kernel_rfl) (fun _ _ _ h => h) (by rfl) hHeld ?_ ?_
             ·(intro w hSw; (try dsimp only at hSw); go_simp; all_goals (try with_reducible rfl))
             (try simp only [Act.put, List.setIfInBounds_toArray, List.set_cons_zero, List.set_cons_succ])
             refine wpAnyH_get 27 (some 68) (.slice E x.length ce) rfl rfl (by kernel_rfl) (by kernel_rfl) (by kernel_rfl) (fun _ _ _ h => h) (by rfl) hHeld ?_ ?_
             ·(intro w hSw; (try dsimp only at hSw); go_simp; all_goals (try with_reducible rfl))
             (try simp only [Act.put, List.setIfInBounds_toArray, List.set_cons_zero, List.set_cons_succ])
             refine wpAnyH_ready (rs := [28]) (by kernel_rfl) (by simp) ?_
             refine AllReadyH.cons rfl (fun K hK => ?_) AllReadyH.nil
             go_simp
             refine (HLS.out _ BZ).mono ?_
             rintro e w2 ⟨rfl, rfl⟩
             (try go_simp)
             refine hK.out _ _ ⟨keep_cell BZ s1, keep_cell BZ s2, keep_cell BZ s3⟩ (fun hHeld => ?_)
             clear hK K
             (try simp only [Act.put, List.setIfInBounds_toArray, List.set_cons_zero, List.set_cons_succ])
             refine wpAnyH_get 29 (some 70) (.bool true) rfl rfl (by kernel_rfl) (by kernel_rfl) (by kernel_rfl) (fun _ _ _ h => h) (by rfl) hHeld ?_ ?_
             ·(intro w hSw; (try dsimp only at hSw); go_simp; all_goals (try with_reducible rfl))
             (try simp only [Act.put, List.setIfInBounds_toArray, List.set_cons_zero, List.set_cons_succ])
             refine wpAnyH_get 30 (some 71) (.bool true) rfl rfl (by kernel_rfl) (by kernel_rfl) (by kernel_rfl) (fun _ _ _ h => h) (by rfl) hHeld ?_ ?_
             ·(intro w hSw; (try dsimp only at hSw); go_simp; all_goals (try with_reducible rfl))
             (try simp only [Act.put, List.setIfInBounds_toArray, List.set_cons_zero, List.set_cons_succ])
             refine wpAnyH_done (by kernel_rfl) ?_ _
             go_wp2
             go_ret
             exact ⟨rfl, below_all hbo BZ⟩
           ·have hlb : ((l[k].length : Int) != (n : Int)) = true := bne_iff_ne.2 (by omega)
            have hlb' : (l[k].length != n) = true := bne_iff_ne.2 hlen
            obtain rfl : v = false := eq_false_of_ne_true (fun h => hlen ((HVN.out.1 h).2.1 _ (List.getElem_mem _)).1)
            clear hval hlen hE hE1 hkm
            generalize l[m]'hml = y at *
            generalize l[k] = x at *
            go_upto_region 6 with (fail)
            have BZ : Below wo.heap.size wo wo.drew := (Below.refl _ _).drew
            refine wp_region_held_drew (S := (fun w' => w'.cell? (ad.add k) = some (.slice E x.length ce) ∧ w'.cell? ad = some (.slice E0 n ce0) ∧ w'.cell? (ad.add m) = some (.slice E1 y.length ce1))) (by kernel_rfl) ⟨s1, s2, s3⟩ (fun hHeld => ?_)
            generalize wo.drew = Z at *
            refine wpAnyH_get 0 (some 41) (.slice (some ad) l.length cL) rfl rfl (by kernel_rfl) (by kernel_rfl) (by kernel_rfl) (fun _ _ _ h => h) (by rfl) hHeld ?_ ?_
            ·(intro w hSw; (try dsimp only at hSw); go_simp; all_goals (try with_reducible rfl))
            (try simp only [Act.put, List.setIfInBounds_toArray, List.set_cons_zero, List.set_cons_succ])
            refine wpAnyH_get 1 (some 42) (.int .i64 k) rfl rfl (by kernel_rfl) (by kernel_rfl) (by kernel_rfl) (fun _ _ _ h => h) (by rfl) hHeld ?_ ?_
            ·(intro w hSw; (try dsimp only at hSw); go_simp; all_goals (try with_reducible rfl))
            (try simp only [Act.put, List.setIfInBounds_toArray, List.set_cons_zero, List.set_cons_succ])
            refine wpAnyH_get 2 (some 43) (.pointer (some (ad.add k))) rfl rfl (by kernel_rfl) (by kernel_rfl) (by kernel_rfl) (fun _ _ _ h => h) (by rfl) hHeld ?_ ?_
            ·(intro w hSw; (try dsimp only at hSw); go_simp; all_goals (try with_reducible rfl))
            (try simp only [Act.put, List.setIfInBounds_toArray, List.set_cons_zero, List.set_cons_succ])
            refine wpAnyH_get 3 (some 44) (.slice E x.length ce) rfl rfl (by kernel_rfl) (by kernel_rfl) (by kernel_rfl) (fun _ _ _ h => h) (by rfl) hHeld ?_ ?_
            ·(intro w hSw; (try dsimp only at hSw); go_simp; all_goals (try with_reducible rfl))
            (try simp only [Act.put, List.setIfInBounds_toArray, List.set_cons_zero, List.set_cons_succ])
            refine wpAnyH_ready (rs := [4]) (by kernel_rfl) (by simp) ?_
            refine AllReadyH.cons rfl (fun K hK => ?_) AllReadyH.nil
            go_simp
            refine (HVL.out _ BZ).mono ?_
            rintro e w1 ⟨rfl, hb1⟩
            (try go_simp)
            have BZ := below_all BZ hb1
            refine hK.out _ _ ⟨keep_cell BZ s1, keep_cell BZ s2, keep_cell BZ s3⟩ (fun hHeld => ?_)
            clear hK K hb1
            (try simp only [Act.put, List.setIfInBounds_toArray, List.set_cons_zero, List.set_cons_succ])
            refine wpAnyH_get 5 (some 46) (.bool false) rfl rfl (by kernel_rfl) (by kernel_rfl) (by kernel_rfl) (fun _ _ _ h => h) (by rfl) hHeld ?_ ?_
            ·(intro w hSw; (try dsimp only at hSw); go_simp; all_goals (try with_reducible rfl))
            (try simp only [Act.put, List.setIfInBounds_toArray, List.set_cons_zero, List.set_cons_succ])
            refine wpAnyH_get 6 (some 47) (.bool false) rfl rfl (by kernel_rfl) (by kernel_rfl) (by kernel_rfl) (fun _ _ _ h => h) (by rfl) hHeld ?_ ?_
            ·(intro w hSw; (try dsimp only at hSw); go_simp; all_goals (try with_reducible rfl))
            (try simp only [Act.put, List.setIfInBounds_toArray, List.set_cons_zero, List.set_cons_succ])
            refine wpAnyH_get 7 (some 48) (.slice (some ad) l.length cL) rfl rfl (by kernel_rfl) (by kernel_rfl) (by kernel_rfl) (fun _ _ _ h => h) (by rfl) hHeld ?_ ?_
            ·(intro w hSw; (try dsimp only at hSw); go_simp; all_goals (try with_reducible rfl))
            (try simp only [Act.put, List.setIfInBounds_toArray, List.set_cons_zero, List.set_cons_succ])
            refine wpAnyH_get 8 (some 49) (.int .i64 k) rfl rfl (by kernel_rfl) (by kernel_rfl) (by kernel_rfl) (fun _ _ _ h => h) (by rfl) hHeld ?_ ?_
            ·(intro w hSw; (try dsimp only at hSw); go_simp; all_goals (try with_reducible rfl))
            (try simp only [Act.put, List.setIfInBounds_toArray, List.set_cons_zero, List.set_cons_succ])
            refine wpAnyH_get 9 (some 50) (.pointer (some (ad.add k))) rfl rfl (by kernel_rfl) (by kernel_rfl) (by kernel_rfl) (fun _ _ _ h => h) (by rfl) hHeld ?_ ?_
            ·(intro w hSw; (try dsimp only at hSw); go_simp; all_goals (try with_reducible rfl))
            (try simp only [Act.put, List.setIfInBounds_toArray, List.set_cons_zero, List.set_cons_succ])
            refine wpAnyH_get 10 (some 51) (.slice E x.length ce) rfl rfl (by kernel_rfl) (by kernel_rfl) (by kernel_rfl) (fun _ _ _ h => h) (by rfl) hHeld ?_ ?_
            ·(intro w hSw; (try dsimp only at hSw); go_simp; all_goals (try with_reducible rfl))
            (try simp only [Act.put, List.setIfInBounds_toArray, List.set_cons_zero, List.set_cons_succ])
            refine wpAnyH_get 11 (some 52) (.int .i64 (x.length : Int)) rfl rfl (by kernel_rfl) (by kernel_rfl) (by kernel_rfl) (fun _ _ _ h => h) (by rfl) hHeld ?_ ?_
            ·(intro w hSw; (try dsimp only at hSw); go_simp; all_goals (try with_reducible rfl))
            (try simp only [Act.put, List.setIfInBounds_toArray, List.set_cons_zero, List.set_cons_succ])
            refine wpAnyH_get 12 (some 53) (.slice (some ad) l.length cL) rfl rfl (by kernel_rfl) (by kernel_rfl) (by kernel_rfl) (fun _ _ _ h => h) (by rfl) hHeld ?_ ?_
            ·(intro w hSw; (try dsimp only at hSw); go_simp; all_goals (try with_reducible rfl))
            (try simp only [Act.put, List.setIfInBounds_toArray, List.set_cons_zero, List.set_cons_succ])
            refine wpAnyH_get 13 (some 54) (.pointer (some ad)) rfl rfl (by kernel_rfl) (by kernel_rfl) (by kernel_rfl) (fun _ _ _ h => h) (by rfl) hHeld ?_ ?_
            ·(intro w hSw; (try dsimp only at hSw); go_simp; all_goals (try with_reducible rfl))
            (try simp only [Act.put, List.setIfInBounds_toArray, List.set_cons_zero, List.set_cons_succ])
            refine wpAnyH_get 14 (some 55) (.slice E0 n ce0) rfl rfl (by kernel_rfl) (by kernel_rfl) (by kernel_rfl) (fun _ _ _ h => h) (by rfl) hHeld ?_ ?_
            ·(intro w hSw; (try dsimp only at hSw); go_simp; all_goals (try with_reducible rfl))
            (try simp only [Act.put, List.setIfInBounds_toArray, List.set_cons_zero, List.set_cons_succ])
            refine wpAnyH_get 15 (some 56) (.int .i64 n) rfl rfl (by kernel_rfl) (by kernel_rfl) (by kernel_rfl) (fun _ _ _ h => h) (by rfl) hHeld ?_ ?_
            ·(intro w hSw; (try dsimp only at hSw); go_simp; all_goals (try with_reducible rfl))
            (try simp only [Act.put, List.setIfInBounds_toArray, List.set_cons_zero, List.set_cons_succ])
            refine wpAnyH_get 16 (some 57) (.bool true) rfl rfl (by kernel_rfl) (by kernel_rfl) (by kernel_rfl) (fun _ _ _ h => h) (by rfl) hHeld ?_ ?_
            ·(intro w hSw; (try dsimp only at hSw); go_simp; all_goals (try with_reducible rfl))
            (try simp only [Act.put, List.setIfInBounds_toArray, List.set_cons_zero, List.set_cons_succ])
            refine wpAnyH_get 17 (some 58) (.bool true) rfl rfl (by kernel_rfl) (by kernel_rfl) (by kernel_rfl) (fun _ _ _ h => h) (by rfl) hHeld ?_ ?_
            ·(intro w hSw; (try dsimp only at hSw); go_simp; all_goals (try with_reducible rfl))
            (try simp only [Act.put, List.setIfInBounds_toArray, List.set_cons_zero, List.set_cons_succ])
            refine wpAnyH_get 18 (some 59) (.bool true) rfl rfl (by kernel_rfl) (by kernel_rfl) (by kernel_rfl) (fun _ _ _ h => h) (by rfl) hHeld ?_ ?_
            ·(intro w hSw; (try dsimp only at hSw); go_simp; all_goals (try with_reducible rfl))
            (try simp only [Act.put, List.setIfInBounds_toArray, List.set_cons_zero, List.set_cons_succ])
            refine wpAnyH_skip 19 (some 60) rfl rfl (by kernel_rfl) (by kernel_rfl) (by kernel_rfl) (fun _ _ _ h => h) (by rfl) hHeld ?_
            (try simp only [Act.put, List.setIfInBounds_toArray, List.set_cons_zero, List.set_cons_succ])
            refine wpAnyH_skip 20 (some 61) rfl rfl (by kernel_rfl) (by kernel_rfl) (by kernel_rfl) (fun _ _ _ h => h) (by rfl) hHeld ?_
            (try simp only [Act.put, List.setIfInBounds_toArray, List.set_cons_zero, List.set_cons_succ])
            refine wpAnyH_skip 21 (some 62) rfl rfl (by kernel_rfl) (by kernel_rfl) (by kernel_rfl) (fun _ _ _ h => h) (by rfl) hHeld ?_
            (try simp only [Act.put, List.setIfInBounds_toArray, List.set_cons_zero, List.set_cons_succ])
            refine wpAnyH_skip 22 (some 63) rfl rfl (by kernel_rfl) (by kernel_rfl) (by kernel_rfl) (fun _ _ _ h => h) (by rfl) hHeld ?_
            (try simp only [Act.put, List.setIfInBounds_toArray, List.set_cons_zero, List.set_cons_succ])
            refine wpAnyH_skip 23 (some 64) rfl rfl (by kernel_rfl) (by kernel_rfl) (by kernel_rfl) (fun _ _ _ h => h) (by rfl) hHeld ?_
            (try simp only [Act.put, List.setIfInBounds_toArray, List.set_cons_zero, List.set_cons_succ])
            refine wpAnyH_skip 24 (some 65) rfl rfl (by kernel_rfl) (by kernel_rfl) (by kernel_rfl) (fun _ _ _ h => h) (by rfl) hHeld ?_
            (try simp only [Act.put, List.setIfInBounds_toArray, List.set_cons_zero, List.set_cons_succ])
            refine wpAnyH_skip 25 (some 66) rfl rfl (by kernel_rfl) (by kernel_rfl) (by kernel_rfl) (fun _ _ _ h => h) (by rfl) hHeld ?_
            (try simp only [Act.put, List.setIfInBounds_toArray, List.set_cons_zero, List.set_cons_succ])
            refine wpAnyH_skip 26 (some 67) rfl rfl (by kernel_rfl) (by kernel_rfl) (by kernel_rfl) (fun _ _ _ h => h) (by rfl) hHeld ?_
            (try simp only [Act.put, List.setIfInBounds_toArray, List.set_cons_zero, List.set_cons_succ])
            refine wpAnyH_skip 27 (some 68) rfl rfl (by kernel_rfl) (by kernel_rfl) (by kernel_rfl) (fun _ _ _ h => h) (by rfl) hHeld ?_
            (try simp only [Act.put, List.setIfInBounds_toArray, List.set_cons_zero, List.set_cons_succ])
            refine wpAnyH_skip 28 (some 69) rfl rfl (by kernel_rfl) (by kernel_rfl) (by kernel_rfl) (fun _ _ _ h => h) (by rfl) hHeld ?_
            (try simp only [Act.put, List.setIfInBounds_toArray, List.set_cons_zero, List.set_cons_succ])
            refine wpAnyH_skip 29 (some 70) rfl rfl (by kernel_rfl) (by kernel_rfl) (by kernel_rfl) (fun _ _ _ h => h) (by rfl) hHeld ?_
            (try simp only [Act.put, List.setIfInBounds_toArray, List.set_cons_zero, List.set_cons_succ])
            refine wpAnyH_get 30 (some 71) (.bool true) rfl rfl (by kernel_rfl) (by kernel_rfl) (by kernel_rfl) (fun _ _ _ h => h) (by rfl) hHeld ?_ ?_
            ·(intro w hSw; (try dsimp only at hSw); go_simp; all_goals (try with_reducible rfl))
            (try simp only [Act.put, List.setIfInBounds_toArray, List.set_cons_zero, List.set_cons_succ])
            refine wpAnyH_done (by kernel_rfl) ?_ _
            go_wp2
            go_ret
            exact ⟨rfl, below_all hbo BZ⟩
          ·have HVL : Hid (∀ V, Below wo.heap.size wo V → Calls Tryz.prog 55 #[.slice E l[k].length ce] V fun e w' => e = .returned (.bool false) ∧ Below V.heap.size V w') := Lib.hid (fun V h => rvalid18_any E ce l[k] false V (hE.keep h) (by omega) (Iff.intro (fun h => by cases h) (fun h => absurd h hval)))
           obtain rfl : v = false := eq_false_of_ne_true (fun h => hval (by
            have h1 := HVN.out.1 h
            have h2 := h1.2.1 l[k] (List.getElem_mem _)
            rw [h2.1]
            exact ⟨h1.1, h2⟩))
           clear hval hE hE1 hkm
           generalize l[m]'hml = y at *
           generalize l[k] = x at *
           go_upto_region 6 with (fail)
           have BZ : Below wo.heap.size wo wo.drew := (Below.refl _ _).drew
           refine wp_region_held_drew (S := (fun w' => w'.cell? (ad.add k) = some (.slice E x.length ce) ∧ w'.cell? ad = some (.slice E0 n ce0) ∧ w'.cell? (ad.add m) = some (.slice E1 y.length ce1))) (by kernel_rfl) ⟨s1, s2, s3⟩ (fun hHeld => ?_)
           generalize wo.drew = Z at *
           refine wpAnyH_get 0 (some 41) (.slice (some ad) l.length cL) rfl rfl (by kernel_rfl) (by kernel_rfl) (by kernel_rfl) (fun _ _ _ h => h) (by rfl) hHeld ?_ ?_
           ·(intro w hSw; (try dsimp only at hSw); go_simp; all_goals (try with_reducible rfl))
           (try simp only [Act.put, List.setIfInBounds_toArray, List.set_cons_zero, List.set_cons_succ])
           refine wpAnyH_get 1 (some 42) (.int .i64 k) rfl rfl (by kernel_rfl) (by kernel_rfl) (by kernel_rfl) (fun _ _ _ h => h) (by rfl) hHeld ?_ ?_
           ·(intro w hSw; (try dsimp only at hSw); go_simp; all_goals (try with_reducible rfl))
           (try simp only [Act.put, List.setIfInBounds_toArray, List.set_cons_zero, List.set_cons_succ])
           refine wpAnyH_get 2 (some 43) (.pointer (some (ad.add k))) rfl rfl (by kernel_rfl) (by kernel_rfl) (by kernel_rfl) (fun _ _ _ h => h) (by rfl) hHeld ?_ ?_
           ·(intro w hSw; (try dsimp only at hSw); go_simp; all_goals (try with_reducible rfl))
           (try simp only [Act.put, List.setIfInBounds_toArray, List.set_cons_zero, List.set_cons_succ])
           refine wpAnyH_get 3 (some 44) (.slice E x.length ce) rfl rfl (by kernel_rfl) (by kernel_rfl) (by kernel_rfl) (fun _ _ _ h => h) (by rfl) hHeld ?_ ?_
           ·(intro w hSw; (try dsimp only at hSw); go_simp; all_goals (try with_reducible rfl))
           (try simp only [Act.put, List.setIfInBounds_toArray, List.set_cons_zero, List.set_cons_succ])
           refine wpAnyH_ready (rs := [4]) (by kernel_rfl) (by simp) ?_
           refine AllReadyH.cons rfl (fun K hK => ?_) AllReadyH.nil
           go_simp
           refine (HVL.out _ BZ).mono ?_
           rintro e w1 ⟨rfl, hb1⟩
           (try go_simp)
           have BZ := below_all BZ hb1
           refine hK.out _ _ ⟨keep_cell BZ s1, keep_cell BZ s2, keep_cell BZ s3⟩ (fun hHeld => ?_)
           clear hK K hb1
           (try simp only [Act.put, List.setIfInBounds_toArray, List.set_cons_zero, List.set_cons_succ])
           refine wpAnyH_get 5 (some 46) (.bool true) rfl rfl (by kernel_rfl) (by kernel_rfl) (by kernel_rfl) (fun _ _ _ h => h) (by rfl) hHeld ?_ ?_
           ·(intro w hSw; (try dsimp only at hSw); go_simp; all_goals (try with_reducible rfl))
           (try simp only [Act.put, List.setIfInBounds_toArray, List.set_cons_zero, List.set_cons_succ])
           refine wpAnyH_get 6 (some 47) (.bool true) rfl rfl (by kernel_rfl) (by kernel_rfl) (by kernel_rfl) (fun _ _ _ h => h) (by rfl) hHeld ?_ ?_
           ·(intro w hSw; (try dsimp only at hSw); go_simp; all_goals (try with_reducible rfl))
           (try simp only [Act.put, List.setIfInBounds_toArray, List.set_cons_zero, List.set_cons_succ])
           refine wpAnyH_skip 7 (some 48) rfl rfl (by kernel_rfl) (by kernel_rfl) (by kernel_rfl) (fun _ _ _ h => h) (by rfl) hHeld ?_
           (try simp only [Act.put, List.setIfInBounds_toArray, List.set_cons_zero, List.set_cons_succ])
           refine wpAnyH_skip 8 (some 49) rfl rfl (by kernel_rfl) (by kernel_rfl) (by kernel_rfl) (fun _ _ _ h => h) (by rfl) hHeld ?_
           (try simp only [Act.put, List.setIfInBounds_toArray, List.set_cons_zero, List.set_cons_succ])
           refine wpAnyH_skip 9 (some 50) rfl rfl (by kernel_rfl) (by kernel_rfl) (by kernel_rfl) (fun _ _ _ h => h) (by rfl) hHeld ?_
           (try simp only [Act.put, List.setIfInBounds_toArray, List.set_cons_zero, List.set_cons_succ])
           refine wpAnyH_skip 10 (some 51) rfl rfl (by kernel_rfl) (by kernel_rfl) (by kernel_rfl) (fun _ _ _ h => h) (by rfl) hHeld ?_
           (try simp only [Act.put, List.setIfInBounds_toArray, List.set_cons_zero, List.set_cons_succ])
           refine wpAnyH_skip 11 (some 52) rfl rfl (by kernel_rfl) (by kernel_rfl) (by kernel_rfl) (fun _ _ _ h => h) (by rfl) hHeld ?_
           (try simp only [Act.put, List.setIfInBounds_toArray, List.set_cons_zero, List.set_cons_succ])
           refine wpAnyH_skip 12 (some 53) rfl rfl (by kernel_rfl) (by kernel_rfl) (by kernel_rfl) (fun _ _ _ h => h) (by rfl) hHeld ?_
           (try simp only [Act.put, List.setIfInBounds_toArray, List.set_cons_zero, List.set_cons_succ])
           refine wpAnyH_skip 13 (some 54) rfl rfl (by kernel_rfl) (by kernel_rfl) (by kernel_rfl) (fun _ _ _ h => h) (by rfl) hHeld ?_
           (try simp only [Act.put, List.setIfInBounds_toArray, List.set_cons_zero, List.set_cons_succ])
           refine wpAnyH_skip 14 (some 55) rfl rfl (by kernel_rfl) (by kernel_rfl) (by kernel_rfl) (fun _ _ _ h => h) (by rfl) hHeld ?_
           (try simp only [Act.put, List.setIfInBounds_toArray, List.set_cons_zero, List.set_cons_succ])
           refine wpAnyH_skip 15 (some 56) rfl rfl (by kernel_rfl) (by kernel_rfl) (by kernel_rfl) (fun _ _ _ h => h) (by rfl) hHeld ?_
           (try simp only [Act.put, List.setIfInBounds_toArray, List.set_cons_zero, List.set_cons_succ])
           refine wpAnyH_skip 16 (some 57) rfl rfl (by kernel_rfl) (by kernel_rfl) (by kernel_rfl) (fun _ _ _ h => h) (by rfl) hHeld ?_
           (try simp only [Act.put, List.setIfInBounds_toArray, List.set_cons_zero, List.set_cons_succ])
           refine wpAnyH_get 17 (some 58) (.bool true) rfl rfl (by kernel_rfl) (by kernel_rfl) (by kernel_rfl) (fun _ _ _ h => h) (by rfl) hHeld ?_ ?_
           ·(intro w hSw; (try dsimp only at hSw); go_simp; all_goals (try with_reducible rfl))
           (try simp only [Act.put, List.setIfInBounds_toArray, List.set_cons_zero, List.set_cons_succ])
           refine wpAnyH_get 18 (some 59) (.bool true) rfl rfl (by kernel_rfl) (by kernel_rfl) (by kernel_rfl) (fun _ _ _ h => h) (by rfl) hHeld ?_ ?_
           ·(intro w hSw; (try dsimp only at hSw); go_simp; all_goals (try with_reducible rfl))
           (try simp only [Act.put, List.setIfInBounds_toArray, List.set_cons_zero, List.set_cons_succ])
           refine wpAnyH_skip 19 (some 60) rfl rfl (by kernel_rfl) (by kernel_rfl) (by kernel_rfl) (fun _ _ _ h => h) (by rfl) hHeld ?_
           (try simp only [Act.put, List.setIfInBounds_toArray, List.set_cons_zero, List.set_cons_succ])
           refine wpAnyH_skip 20 (some 61) rfl rfl (by kernel_rfl) (by kernel_rfl) (by kernel_rfl) (fun _ _ _ h => h) (by rfl) hHeld ?_
           (try simp only [Act.put, List.setIfInBounds_toArray, List.set_cons_zero, List.set_cons_succ])
           refine wpAnyH_skip 21 (some 62) rfl rfl (by kernel_rfl) (by kernel_rfl) (by kernel_rfl) (fun _ _ _ h => h) (by rfl) hHeld ?_
           (try simp only [Act.put, List.setIfInBounds_toArray, List.set_cons_zero, List.set_cons_succ])
           refine wpAnyH_skip 22 (some 63) rfl rfl (by kernel_rfl) (by kernel_rfl) (by kernel_rfl) (fun _ _ _ h => h) (by rfl) hHeld ?_
           (try simp only [Act.put, List.setIfInBounds_toArray, List.set_cons_zero, List.set_cons_succ])
           refine wpAnyH_skip 23 (some 64) rfl rfl (by kernel_rfl) (by kernel_rfl) (by kernel_rfl) (fun _ _ _ h => h) (by rfl) hHeld ?_
           (try simp only [Act.put, List.setIfInBounds_toArray, List.set_cons_zero, List.set_cons_succ])
           refine wpAnyH_skip 24 (some 65) rfl rfl (by kernel_rfl) (by kernel_rfl) (by kernel_rfl) (fun _ _ _ h => h) (by rfl) hHeld ?_
           (try simp only [Act.put, List.setIfInBounds_toArray, List.set_cons_zero, List.set_cons_succ])
           refine wpAnyH_skip 25 (some 66) rfl rfl (by kernel_rfl) (by kernel_rfl) (by kernel_rfl) (fun _ _ _ h => h) (by rfl) hHeld ?_
           (try simp only [Act.put, List.setIfInBounds_toArray, List.set_cons_zero, List.set_cons_succ])
           refine wpAnyH_skip 26 (some 67) rfl rfl (by kernel_rfl) (by kernel_rfl) (by kernel_rfl) (fun _ _ _ h => h) (by rfl) hHeld ?_
           (try simp only [Act.put, List.setIfInBounds_toArray, List.set_cons_zero, List.set_cons_succ])
           refine wpAnyH_skip 27 (some 68) rfl rfl (by kernel_rfl) (by kernel_rfl) (by kernel_rfl) (fun _ _ _ h => h) (by rfl) hHeld ?_
           (try simp only [Act.put, List.setIfInBounds_toArray, List.set_cons_zero, List.set_cons_succ])
           refine wpAnyH_skip 28 (some 69) rfl rfl (by kernel_rfl) (by kernel_rfl) (by kernel_rfl) (fun _ _ _ h => h) (by rfl) hHeld ?_
           (try simp only [Act.put, List.setIfInBounds_toArray, List.set_cons_zero, List.set_cons_succ])
           refine wpAnyH_skip 29 (some 70) rfl rfl (by kernel_rfl) (by kernel_rfl) (by kernel_rfl) (fun _ _ _ h => h) (by rfl) hHeld ?_
           (try simp only [Act.put, List.setIfInBounds_toArray, List.set_cons_zero, List.set_cons_succ])
           refine wpAnyH_get 30 (some 71) (.bool true) rfl rfl (by kernel_rfl) (by kernel_rfl) (by kernel_rfl) (fun _ _ _ h => h) (by rfl) hHeld ?_ ?_
           ·(intro w hSw; (try dsimp only at hSw); go_simp; all_goals (try with_reducible rfl))
           (try simp only [Act.put, List.setIfInBounds_toArray, List.set_cons_zero, List.set_cons_succ])
           refine wpAnyH_done (by kernel_rfl) ?_ _
           go_wp2
           go_ret
           exact ⟨rfl, below_all hbo BZ⟩
         ·obtain rfl : k = l.length := by omega
          have hpl : ∀ a ∈ l, Perm n a := fun a ha => by
           obtain ⟨i, hi, rfl⟩ := List.getElem_of_mem ha
           exact (HPRE.out.perm i hi hi).2
          have hasc : Asc l := asc_of fun i hi => HPRE.out.asc i hi hi
          have HASC := Lib.hid hasc
          have HVG : Hid (v = true ↔ ∀ a ∈ l, ∀ b ∈ l, cmp a b ∈ l) := Lib.hid (by
           rw [HVN.out]
           exact ⟨fun h => h.2.2.2.2, fun h => ⟨hn6, hpl, hasc, by rw [← HU.out]; exact List.getElem_mem _, h⟩⟩)
          have HPLM := Lib.hid hpl
          have dk : decide ((l.length : Int) < (l.length : Int)) = false := by simp
          clear hpl hasc HPRE HVN
          go_wp2
          clear dk
          go_loopw [4] (fun s4 wr => ∃ i : Nat, s4 = .int .i64 i ∧ i ≤ l.length ∧ Hid (∀ p q (h1 : p < l.length) (h2 : q < l.length), p < i → cmp l[p] l[q] ∈ l) ∧ Below w.heap.size w wr) (fun s4 _ => l.length - (intOf s4).toNat)
          case atStart => exact ⟨0, rfl, Nat.zero_le _, Lib.hid (fun p q _ _ h => absurd h (by omega)), hbo⟩
          case round =>
           clear hbo
           obtain ⟨wa, rfl⟩ : ∃ wa : World, wa = wr := ⟨_, rfl⟩
           obtain ⟨i, rfl, hi, HI, hba⟩ := hrel
           by_cases hil : i < l.length
           ·go_wp2
            go_loopw [5] (fun s5 wr => ∃ j : Nat, s5 = .int .i64 j ∧ j ≤ l.length ∧ Hid (∀ q (h2 : q < l.length), q < j → cmp l[i] l[q] ∈ l) ∧ Below w.heap.size w wr) (fun s5 _ => l.length - (intOf s5).toNat)
            case atStart => exact ⟨0, rfl, Nat.zero_le _, Lib.hid (fun q _ h => absurd h (by omega)), hba⟩
            case round =>
             clear hba
             obtain ⟨wi, rfl⟩ : ∃ wi : World, wi = wr := ⟨_, rfl⟩
             obtain ⟨j, rfl, hj, HJ, hbi⟩ := hrel
             by_cases hjl : j < l.length
             ·obtain ⟨ad', E1, ce1, had, s1, hE1⟩ := (HL.out.keep hbi).at hil
              injection had with had
              subst had
              obtain ⟨ad', E2, ce2, had, s2, hE2⟩ := (HL.out.keep hbi).at hjl
              injection had with had
              subst had
              have q0 : (0 : Int) ≤ (i : Int) := by omega
              have q1 : (i : Int) < (l.length : Int) := by omega
              have q3 : ((i : Int)).toNat = i := by omega
              have r0 : (0 : Int) ≤ (j : Int) := by omega
              have r1 : (j : Int) < (l.length : Int) := by omega
              have r3 : ((j : Int)).toNat = j := by omega
              have hp1 := HPLM.out l[i] (List.getElem_mem _)
              have hp2 := HPLM.out l[j] (List.getElem_mem _)
              rw [hp1.1] at s1
              rw [hp2.1] at s2
              have HPR : Hid (∀ V, Below wi.heap.size wi V → Calls Tryz.prog 53 #[.slice E1 n ce1, .slice E2 n ce2] V fun e w' => ∃ g, e = .returned (.slice (some ⟨g, 0, none⟩) n n) ∧ Blk w' g 3 (iarr (cmp l[i] l[j])) ∧ Below V.heap.size V w') := Lib.hid (fun V h =>
               (rprod_any E1 E2 ce1 ce2 n l[i] l[j] V (hE1.keep h) (hE2.keep h) hp1 hp2 hn6).mono fun e w' ⟨h1, h2, h3⟩ => ⟨_, h1, h2, h3⟩)
              have hcl := (cmp_perm hp1 hp2).1
              by_cases hin : cmp l[i] l[j] ∈ l
              ·have HPL : Hid (∀ V g, Below wi.heap.size wi V → Blk V g 3 (iarr (cmp l[i] l[j])) → Calls Tryz.prog 54 #[.slice (some ad) l.length cL, .slice (some ⟨g, 0, none⟩) n n] V fun e w' => ∃ m : Nat, e = .returned (.tuple #[.int .i64 (m : Nat), .bool true]) ∧ Below V.heap.size V w') := Lib.hid (fun V g h hg => by
                have := place_any (some ad) cL l (some ⟨g, 0, none⟩) n (cmp l[i] l[j]) true V (HL.out.keep (below_all hbi h)) (ints_blk hg hcl hn6) (by omega) HLL.out HASC.out ⟨fun _ => hin, fun _ => rfl⟩
                rw [hcl] at this
                exact this.mono fun e w' ⟨m, h1, _, h3⟩ => ⟨m, h1, h3⟩)
               have HJ2 : Hid (∀ q (h2 : q < l.length), q < j + 1 → cmp l[i] l[q] ∈ l) := Lib.hid (fun q h2 hq => by
                by_cases he : q = j
                ·subst he; exact hin
                ·exact HJ.out q h2 (by omega))
               clear hin hcl hp1 hp2 hE1 hE2
               generalize cmp l[i] l[j] = z at HPR HPL
               go_upto_region 14 with (fail)
               have BZ : Below wi.heap.size wi wi.drew := (Below.refl _ _).drew
               refine wp_region_held_drew (S := (fun w' => w'.cell? (ad.add i) = some (.slice E1 n ce1) ∧ w'.cell? (ad.add j) = some (.slice E2 n ce2))) (by kernel_rfl) ⟨s1, s2⟩ (fun hHeld => ?_)
               generalize wi.drew = Z at *
               refine wpAnyH_get 0 (some 85) (.slice (some ad) l.length cL) rfl rfl (by kernel_rfl) (by kernel_rfl) (by kernel_rfl) (fun _ _ _ h => h) (by rfl) hHeld ?_ ?_
               ·(intro w hSw; (try dsimp only at hSw); go_simp; all_goals (try with_reducible rfl))
               (try simp only [Act.put, List.setIfInBounds_toArray, List.set_cons_zero, List.set_cons_succ])
               refine wpAnyH_get 1 (some 86) (.slice (some ad) l.length cL) rfl rfl (by kernel_rfl) (by kernel_rfl) (by kernel_rfl) (fun _ _ _ h => h) (by rfl) hHeld ?_ ?_
               ·(intro w hSw; (try dsimp only at hSw); go_simp; all_goals (try with_reducible rfl))
               (try simp only [Act.put, List.setIfInBounds_toArray, List.set_cons_zero, List.set_cons_succ])
               refine wpAnyH_get 2 (some 87) (.int .i64 i) rfl rfl (by kernel_rfl) (by kernel_rfl) (by kernel_rfl) (fun _ _ _ h => h) (by rfl) hHeld ?_ ?_
               ·(intro w hSw; (try dsimp only at hSw); go_simp; all_goals (try with_reducible rfl))
               (try simp only [Act.put, List.setIfInBounds_toArray, List.set_cons_zero, List.set_cons_succ])
               refine wpAnyH_get 3 (some 88) (.pointer (some (ad.add i))) rfl rfl (by kernel_rfl) (by kernel_rfl) (by kernel_rfl) (fun _ _ _ h => h) (by rfl) hHeld ?_ ?_
               ·(intro w hSw; (try dsimp only at hSw); go_simp; all_goals (try with_reducible rfl))
               (try simp only [Act.put, List.setIfInBounds_toArray, List.set_cons_zero, List.set_cons_succ])
               refine wpAnyH_get 4 (some 89) (.slice E1 n ce1) rfl rfl (by kernel_rfl) (by kernel_rfl) (by kernel_rfl) (fun _ _ _ h => h) (by rfl) hHeld ?_ ?_
               ·(intro w hSw; (try dsimp only at hSw); go_simp; all_goals (try with_reducible rfl))
               (try simp only [Act.put, List.setIfInBounds_toArray, List.set_cons_zero, List.set_cons_succ])
               refine wpAnyH_get 5 (some 90) (.slice (some ad) l.length cL) rfl rfl (by kernel_rfl) (by kernel_rfl) (by kernel_rfl) (fun _ _ _ h => h) (by rfl) hHeld ?_ ?_
               ·(intro w hSw; (try dsimp only at hSw); go_simp; all_goals (try with_reducible rfl))
               (try simp only [Act.put, List.setIfInBounds_toArray, List.set_cons_zero, List.set_cons_succ])
               refine wpAnyH_get 6 (some 91) (.int .i64 j) rfl rfl (by kernel_rfl) (by kernel_rfl) (by kernel_rfl) (fun _ _ _ h => h) (by rfl) hHeld ?_ ?_
               ·(intro w hSw; (try dsimp only at hSw); go_simp; all_goals (try with_reducible rfl))
               (try simp only [Act.put, List.setIfInBounds_toArray, List.set_cons_zero, List.set_cons_succ])
               refine wpAnyH_get 7 (some 92) (.pointer (some (ad.add j))) rfl rfl (by kernel_rfl) (by kernel_rfl) (by kernel_rfl) (fun _ _ _ h => h) (by rfl) hHeld ?_ ?_
               ·(intro w hSw; (try dsimp only at hSw); go_simp; all_goals (try with_reducible rfl))
               (try simp only [Act.put, List.setIfInBounds_toArray, List.set_cons_zero, List.set_cons_succ])
               refine wpAnyH_get 8 (some 93) (.slice E2 n ce2) rfl rfl (by kernel_rfl) (by kernel_rfl) (by kernel_rfl) (fun _ _ _ h => h) (by rfl) hHeld ?_ ?_
               ·(intro w hSw; (try dsimp only at hSw); go_simp; all_goals (try with_reducible rfl))
               (try simp only [Act.put, List.setIfInBounds_toArray, List.set_cons_zero, List.set_cons_succ])
               refine wpAnyH_ready (rs := [9]) (by kernel_rfl) (by simp) ?_
               refine AllReadyH.cons rfl (fun K hK => ?_) AllReadyH.nil
               go_simp
               refine (HPR.out _ BZ).mono ?_
               rintro e w1 ⟨g1, rfl, hG1, hb1⟩
               (try go_simp)
               have BZ := below_all BZ hb1
               refine hK.out _ _ ⟨keep_cell BZ s1, keep_cell BZ s2⟩ (fun hHeld => ?_)
               clear hK K hb1
               (try simp only [Act.put, List.setIfInBounds_toArray, List.set_cons_zero, List.set_cons_succ])
               refine wpAnyH_ready (rs := [10]) (by kernel_rfl) (by simp) ?_
               refine AllReadyH.cons rfl (fun K hK => ?_) AllReadyH.nil
               go_simp
               refine (HPL.out _ _ BZ hG1).mono ?_
               rintro e w2 ⟨m, rfl, hb2⟩
               (try go_simp)
               have BZ := below_all BZ hb2
               refine hK.out _ _ ⟨keep_cell BZ s1, keep_cell BZ s2⟩ (fun hHeld => ?_)
               clear hK K hb2
               (try simp only [Act.put, List.setIfInBounds_toArray, List.set_cons_zero, List.set_cons_succ])
               refine wpAnyH_get 11 (some 84) (.tuple #[.int .i64 (m : Nat), .bool true]) rfl rfl (by kernel_rfl) (by kernel_rfl) (by kernel_rfl) (fun _ _ _ h => h) (by rfl) hHeld ?_ ?_
               ·(intro w hSw; (try dsimp only at hSw); go_simp; all_goals (try with_reducible rfl))
               (try simp only [Act.put, List.setIfInBounds_toArray, List.set_cons_zero, List.set_cons_succ])
               refine wpAnyH_get 12 (some 96) (.int .i64 (m : Nat)) rfl rfl (by kernel_rfl) (by kernel_rfl) (by kernel_rfl) (fun _ _ _ h => h) (by rfl) hHeld ?_ ?_
               ·(intro w hSw; (try dsimp only at hSw); go_simp; all_goals (try with_reducible rfl))
               (try simp only [Act.put, List.setIfInBounds_toArray, List.set_cons_zero, List.set_cons_succ])
               refine wpAnyH_get 13 (some 97) (.bool true) rfl rfl (by kernel_rfl) (by kernel_rfl) (by kernel_rfl) (fun _ _ _ h => h) (by rfl) hHeld ?_ ?_
               ·(intro w hSw; (try dsimp only at hSw); go_simp; all_goals (try with_reducible rfl))
               (try simp only [Act.put, List.setIfInBounds_toArray, List.set_cons_zero, List.set_cons_succ])
               refine wpAnyH_get 14 (some 6) (.int .i64 (m : Nat)) rfl rfl (by kernel_rfl) (by kernel_rfl) (by kernel_rfl) (fun _ _ _ h => h) (by rfl) hHeld ?_ ?_
               ·(intro w hSw; (try dsimp only at hSw); go_simp; all_goals (try with_reducible rfl))
               (try simp only [Act.put, List.setIfInBounds_toArray, List.set_cons_zero, List.set_cons_succ])
               refine wpAnyH_get 15 (some 7) (.bool true) rfl rfl (by kernel_rfl) (by kernel_rfl) (by kernel_rfl) (fun _ _ _ h => h) (by rfl) hHeld ?_ ?_
               ·(intro w hSw; (try dsimp only at hSw); go_simp; all_goals (try with_reducible rfl))
               (try simp only [Act.put, List.setIfInBounds_toArray, List.set_cons_zero, List.set_cons_succ])
               refine wpAnyH_done (by kernel_rfl) ?_ _
               go_wp2
               go_roundw
               case rel => exact ⟨j + 1, by go_num, by omega, HJ2, below_all hbi BZ⟩
               case measure => simp [intOf]; omega
              ·obtain rfl : v = false := eq_false_of_ne_true (fun h => hin (HVG.out.1 h _ (List.getElem_mem _) _ (List.getElem_mem _)))
               have HPL : Hid (∀ V g, Below wi.heap.size wi V → Blk V g 3 (iarr (cmp l[i] l[j])) → Calls Tryz.prog 54 #[.slice (some ad) l.length cL, .slice (some ⟨g, 0, none⟩) n n] V fun e w' => ∃ m : Nat, e = .returned (.tuple #[.int .i64 (m : Nat), .bool false]) ∧ Below V.heap.size V w') := Lib.hid (fun V g h hg => by
                have := place_any (some ad) cL l (some ⟨g, 0, none⟩) n (cmp l[i] l[j]) false V (HL.out.keep (below_all hbi h)) (ints_blk hg hcl hn6) (by omega) HLL.out HASC.out (Iff.intro (fun h => by cases h) (fun h => absurd h hin))
                rw [hcl] at this
                exact this.mono fun e w' ⟨m, h1, _, h3⟩ => ⟨m, h1, h3⟩)
               clear hin hcl hp1 hp2 hE1 hE2
               generalize cmp l[i] l[j] = z at HPR HPL
               go_upto_region 14 with (fail)
               have BZ : Below wi.heap.size wi wi.drew := (Below.refl _ _).drew
               refine wp_region_held_drew (S := (fun w' => w'.cell? (ad.add i) = some (.slice E1 n ce1) ∧ w'.cell? (ad.add j) = some (.slice E2 n ce2))) (by kernel_rfl) ⟨s1, s2⟩ (fun hHeld => ?_)
               generalize wi.drew = Z at *
               refine wpAnyH_get 0 (some 85) (.slice (some ad) l.length cL) rfl rfl (by kernel_rfl) (by kernel_rfl) (by kernel_rfl) (fun _ _ _ h => h) (by rfl) hHeld ?_ ?_
               ·(intro w hSw; (try dsimp only at hSw); go_simp; all_goals (try with_reducible rfl))
               (try simp only [Act.put, List.setIfInBounds_toArray, List.set_cons_zero, List.set_cons_succ])
               refine wpAnyH_get 1 (some 86) (.slice (some ad) l.length cL) rfl rfl (by kernel_rfl) (by kernel_rfl) (by kernel_rfl) (fun _ _ _ h => h) (by rfl) hHeld ?_ ?_
               ·(intro w hSw; (try dsimp only at hSw); go_simp; all_goals (try with_reducible rfl))
               (try simp only [Act.put, List.setIfInBounds_toArray, List.set_cons_zero, List.set_cons_succ])
               refine wpAnyH_get 2 (some 87) (.int .i64 i) rfl rfl (by kernel_rfl) (by kernel_rfl) (by kernel_rfl) (fun _ _ _ h => h) (by rfl) hHeld ?_ ?_
               ·(intro w hSw; (try dsimp only at hSw); go_simp; all_goals (try with_reducible rfl))
               (try simp only [Act.put, List.setIfInBounds_toArray, List.set_cons_zero, List.set_cons_succ])
               refine wpAnyH_get 3 (some 88) (.pointer (some (ad.add i))) rfl rfl (by kernel_rfl) (by kernel_rfl) (by kernel_rfl) (fun _ _ _ h => h) (by rfl) hHeld ?_ ?_
               ·(intro w hSw; (try dsimp only at hSw); go_simp; all_goals (try with_reducible rfl))
               (try simp only [Act.put, List.setIfInBounds_toArray, List.set_cons_zero, List.set_cons_succ])
               refine wpAnyH_get 4 (some 89) (.slice E1 n ce1) rfl rfl (by kernel_rfl) (by kernel_rfl) (by kernel_rfl) (fun _ _ _ h => h) (by rfl) hHeld ?_ ?_
               ·(intro w hSw; (try dsimp only at hSw); go_simp; all_goals (try with_reducible rfl))
               (try simp only [Act.put, List.setIfInBounds_toArray, List.set_cons_zero, List.set_cons_succ])
               refine wpAnyH_get 5 (some 90) (.slice (some ad) l.length cL) rfl rfl (by kernel_rfl) (by kernel_rfl) (by kernel_rfl) (fun _ _ _ h => h) (by rfl) hHeld ?_ ?_
               ·(intro w hSw; (try dsimp only at hSw); go_simp; all_goals (try with_reducible rfl))
               (try simp only [Act.put, List.setIfInBounds_toArray, List.set_cons_zero, List.set_cons_succ])
               refine wpAnyH_get 6 (some 91) (.int .i64 j) rfl rfl (by kernel_rfl) (by kernel_rfl) (by kernel_rfl) (fun _ _ _ h => h) (by rfl) hHeld ?_ ?_
               ·(intro w hSw; (try dsimp only at hSw); go_simp; all_goals (try with_reducible rfl))
               (try simp only [Act.put, List.setIfInBounds_toArray, List.set_cons_zero, List.set_cons_succ])
               refine wpAnyH_get 7 (some 92) (.pointer (some (ad.add j))) rfl rfl (by kernel_rfl) (by kernel_rfl) (by kernel_rfl) (fun _ _ _ h => h) (by rfl) hHeld ?_ ?_
               ·(intro w hSw; (try dsimp only at hSw); go_simp; all_goals (try with_reducible rfl))
               (try simp only [Act.put, List.setIfInBounds_toArray, List.set_cons_zero, List.set_cons_succ])
               refine wpAnyH_get 8 (some 93) (.slice E2 n ce2) rfl rfl (by kernel_rfl) (by kernel_rfl) (by kernel_rfl) (fun _ _ _ h => h) (by rfl) hHeld ?_ ?_
               ·(intro w hSw; (try dsimp only at hSw); go_simp; all_goals (try with_reducible rfl))
               (try simp only [Act.put, List.setIfInBounds_toArray, List.set_cons_zero, List.set_cons_succ])
               refine wpAnyH_ready (rs := [9]) (by kernel_rfl) (by simp) ?_
               refine AllReadyH.cons rfl (fun K hK => ?_) AllReadyH.nil
               go_simp
               refine (HPR.out _ BZ).mono ?_
               rintro e w1 ⟨g1, rfl, hG1, hb1⟩
               (try go_simp)
               have BZ := below_all BZ hb1
               refine hK.out _ _ ⟨keep_cell BZ s1, keep_cell BZ s2⟩ (fun hHeld => ?_)
               clear hK K hb1
               (try simp only [Act.put, List.setIfInBounds_toArray, List.set_cons_zero, List.set_cons_succ])
               refine wpAnyH_ready (rs := [10]) (by kernel_rfl) (by simp) ?_
               refine AllReadyH.cons rfl (fun K hK => ?_) AllReadyH.nil
               go_simp
               refine (HPL.out _ _ BZ hG1).mono ?_
               rintro e w2 ⟨m, rfl, hb2⟩
               (try go_simp)
               have BZ := below_all BZ hb2
               refine hK.out _ _ ⟨keep_cell BZ s1, keep_cell BZ s2⟩ (fun hHeld => ?_)
               clear hK K hb2
               (try simp only [Act.put, List.setIfInBounds_toArray, List.set_cons_zero, List.set_cons_succ])
               refine wpAnyH_get 11 (some 84) (.tuple #[.int .i64 (m : Nat), .bool false]) rfl rfl (by kernel_rfl) (by kernel_rfl) (by kernel_rfl) (fun _ _ _ h => h) (by rfl) hHeld ?_ ?_
               ·(intro w hSw; (try dsimp only at hSw); go_simp; all_goals (try with_reducible rfl))
               (try simp only [Act.put, List.setIfInBounds_toArray, List.set_cons_zero, List.set_cons_succ])
               refine wpAnyH_get 12 (some 96) (.int .i64 (m : Nat)) rfl rfl (by kernel_rfl) (by kernel_rfl) (by kernel_rfl) (fun _ _ _ h => h) (by rfl) hHeld ?_ ?_
               ·(intro w hSw; (try dsimp only at hSw); go_simp; all_goals (try with_reducible rfl))
               (try simp only [Act.put, List.setIfInBounds_toArray, List.set_cons_zero, List.set_cons_succ])
               refine wpAnyH_get 13 (some 97) (.bool false) rfl rfl (by kernel_rfl) (by kernel_rfl) (by kernel_rfl) (fun _ _ _ h => h) (by rfl) hHeld ?_ ?_
               ·(intro w hSw; (try dsimp only at hSw); go_simp; all_goals (try with_reducible rfl))
               (try simp only [Act.put, List.setIfInBounds_toArray, List.set_cons_zero, List.set_cons_succ])
               refine wpAnyH_get 14 (some 6) (.int .i64 (m : Nat)) rfl rfl (by kernel_rfl) (by kernel_rfl) (by kernel_rfl) (fun _ _ _ h => h) (by rfl) hHeld ?_ ?_
               ·(intro w hSw; (try dsimp only at hSw); go_simp; all_goals (try with_reducible rfl))
               (try simp only [Act.put, List.setIfInBounds_toArray, List.set_cons_zero, List.set_cons_succ])
               refine wpAnyH_get 15 (some 7) (.bool false) rfl rfl (by kernel_rfl) (by kernel_rfl) (by kernel_rfl) (fun _ _ _ h => h) (by rfl) hHeld ?_ ?_
               ·(intro w hSw; (try dsimp only at hSw); go_simp; all_goals (try with_reducible rfl))
               (try simp only [Act.put, List.setIfInBounds_toArray, List.set_cons_zero, List.set_cons_succ])
               refine wpAnyH_done (by kernel_rfl) ?_ _
               go_wp2
               go_ret
               exact ⟨rfl, below_all hbi BZ⟩
             ·obtain rfl : j = l.length := by omega
              have HI2 : Hid (∀ p q (h1 : p < l.length) (h2 : q < l.length), p < i + 1 → cmp l[p] l[q] ∈ l) := Lib.hid (fun p q h1 h2 hp => by
               by_cases he : p = i
               ·subst he; exact HJ.out q h2 h2
               ·exact HI.out p q h1 h2 (by omega))
              have dk : decide ((l.length : Int) < (l.length : Int)) = false := by simp
              go_wp2
              go_roundw
              case rel => exact ⟨i + 1, by go_num, by omega, HI2, hbi⟩
              case measure => simp [intOf]; omega
           ·obtain rfl : i = l.length := by omega
            obtain rfl : v = true := HVG.out.2 (fun a ha b hb => by
             obtain ⟨p, hp, rfl⟩ := List.getElem_of_mem ha
             obtain ⟨q, hq, rfl⟩ := List.getElem_of_mem hb
             exact HI.out p q hp hq hp)
            have dk : decide ((l.length : Int) < (l.length : Int)) = false := by simp
            go_wp2
            go_ret
            exact ⟨rfl, hba⟩
     ·obtain rfl : v = false := eq_false_of_ne_true (fun h => by
       have h1 := HVN.out.1 h
       obtain ⟨_, h2⟩ := h1.2.2.2.first h1.2.2.1 h1.2.1
       exact hu h2)
      have HEQ : Hid (∀ V g, Below w.heap.size w V → Blk V g 3 (iarr (unit n)) → Calls Tryz.prog 56 #[.slice E0 n ce0, .slice (some ⟨g, 0, none⟩) n n] V fun e w' => e = .returned (.bool false) ∧ Below V.heap.size V w') := Lib.hid (fun V g h hg => by
       have := seq_any E0 (some ⟨g, 0, none⟩) l[0] (unit n) ce0 n V (hE0.keep h) (ints_blk hg (unit_len n) hn6) (by omega) false (decide_eq_false hu)
       rw [hn, unit_len] at this
       exact this.mono fun e w' h2 => ⟨h2.1, h2.2.below⟩)
      clear hval hu hE0 hn
      go_enter Tryz.func27, Tryz.ntmps27
      go_upto_region 1 with (fail)
      go_region_held3 (fun w' => w'.cell? ad = some (.slice E0 n ce0))
        (first | exact keep_cell hbe hc0')
        (first
          | (go_at_call 55; with_reducible refine Calls.mono (HVL.out _ (by assumption)) ?_; rintro e w1 ⟨rfl, hb1⟩
             have hbe := below_all hbe hb1)
          | (go_at_call 52; with_reducible refine Calls.mono (HUN.out _) ?_; rintro e w2 ⟨rfl, hG2, hb2⟩
             have hbe := below_all hbe hb2)
          | (go_at_call 56; with_reducible refine Calls.mono (HEQ.out _ _ (by assumption) (by assumption)) ?_; rintro e w3 ⟨rfl, hb3⟩
             have hbe := below_all hbe hb3))
      all_goals
        go_wp2_with (fail)
        go_ret
        exact ⟨rfl, hbe⟩
    ·have HVL : Hid (∀ V, Below w.heap.size w V → Calls Tryz.prog 55 #[.slice E0 n ce0] V fun e w' => e = .returned (.bool false) ∧ Below V.heap.size V w') := Lib.hid (fun V h => by
      have := rvalid18_any E0 ce0 l[0] false V (hE0.keep h) (by omega) (Iff.intro (fun h => by cases h) (fun h => absurd (by rw [hn] at h; exact h) hval))
      rwa [hn] at this)
     obtain rfl : v = false := eq_false_of_ne_true (fun h => hval ⟨(HVN.out.1 h).1, (HVN.out.1 h).2.1 _ (List.getElem_mem _)⟩)
     clear hval hE0 hn
     go_enter Tryz.func27, Tryz.ntmps27
     go_upto_region 1 with (fail)
     refine wp_region_held_drew (S := (fun w' => w'.cell? ad = some (.slice E0 n ce0))) (by kernel_rfl) hc0' (fun hHeld => ?_)
     generalize w.drew = Z at *
     refine wpAnyH_get 0 (some 8) (.slice (some ad) l.length cL) rfl rfl (by kernel_rfl) (by kernel_rfl) (by kernel_rfl) (fun _ _ _ h => h) (by rfl) hHeld ?_ ?_
     ·(intro w hSw; (try dsimp only at hSw); go_simp; all_goals (try with_reducible rfl))
     (try simp only [Act.put, List.setIfInBounds_toArray, List.set_cons_zero, List.set_cons_succ])
     refine wpAnyH_get 1 (some 9) (.int .i64 (l.length : Int)) rfl rfl (by kernel_rfl) (by kernel_rfl) (by kernel_rfl) (fun _ _ _ h => h) (by rfl) hHeld ?_ ?_
     ·(intro w hSw; (try dsimp only at hSw); go_simp; all_goals (try with_reducible rfl))
     (try simp only [Act.put, List.setIfInBounds_toArray, List.set_cons_zero, List.set_cons_succ])
     refine wpAnyH_get 2 (some 10) (.bool false) rfl rfl (by kernel_rfl) (by kernel_rfl) (by kernel_rfl) (fun _ _ _ h => h) (by rfl) hHeld ?_ ?_
     ·(intro w hSw; (try dsimp only at hSw); go_simp; all_goals (try with_reducible rfl))
     (try simp only [Act.put, List.setIfInBounds_toArray, List.set_cons_zero, List.set_cons_succ])
     refine wpAnyH_get 3 (some 11) (.bool false) rfl rfl (by kernel_rfl) (by kernel_rfl) (by kernel_rfl) (fun _ _ _ h => h) (by rfl) hHeld ?_ ?_
     ·(intro w hSw; (try dsimp only at hSw); go_simp; all_goals (try with_reducible rfl))
     (try simp only [Act.put, List.setIfInBounds_toArray, List.set_cons_zero, List.set_cons_succ])
     refine wpAnyH_get 4 (some 12) (.slice (some ad) l.length cL) rfl rfl (by kernel_rfl) (by kernel_rfl) (by kernel_rfl) (fun _ _ _ h => h) (by rfl) hHeld ?_ ?_
     ·(intro w hSw; (try dsimp only at hSw); go_simp; all_goals (try with_reducible rfl))
     (try simp only [Act.put, List.setIfInBounds_toArray, List.set_cons_zero, List.set_cons_succ])
     refine wpAnyH_get 5 (some 13) (.pointer (some ad)) rfl rfl (by kernel_rfl) (by kernel_rfl) (by kernel_rfl) (fun _ _ _ h => h) (by rfl) hHeld ?_ ?_
     ·(intro w hSw; (try dsimp only at hSw); go_simp; all_goals (try with_reducible rfl))
     (try simp only [Act.put, List.setIfInBounds_toArray, List.set_cons_zero, List.set_cons_succ])
     refine wpAnyH_get 6 (some 14) (.slice E0 n ce0) rfl rfl (by kernel_rfl) (by kernel_rfl) (by kernel_rfl) (fun _ _ _ h => h) (by rfl) hHeld ?_ ?_
     ·(intro w hSw; (try dsimp only at hSw); go_simp; all_goals (try with_reducible rfl))
     (try simp only [Act.put, List.setIfInBounds_toArray, List.set_cons_zero, List.set_cons_succ])
     refine wpAnyH_ready (rs := [7]) (by kernel_rfl) (by simp) ?_
     refine AllReadyH.cons rfl (fun K hK => ?_) AllReadyH.nil
     go_simp
     refine (HVL.out Z hbe).mono ?_
     rintro e w1 ⟨rfl, hb1⟩
     (try go_simp)
     have hbe := below_all hbe hb1
     refine hK.out _ _ (keep_cell hbe hc0') (fun hHeld => ?_)
     clear hK K
     (try simp only [Act.put, List.setIfInBounds_toArray, List.set_cons_zero, List.set_cons_succ])
     refine wpAnyH_get 8 (some 16) (.bool true) rfl rfl (by kernel_rfl) (by kernel_rfl) (by kernel_rfl) (fun _ _ _ h => h) (by rfl) hHeld ?_ ?_
     ·(intro w hSw; (try dsimp only at hSw); go_simp; all_goals (try with_reducible rfl))
     (try simp only [Act.put, List.setIfInBounds_toArray, List.set_cons_zero, List.set_cons_succ])
     refine wpAnyH_get 9 (some 17) (.bool true) rfl rfl (by kernel_rfl) (by kernel_rfl) (by kernel_rfl) (fun _ _ _ h => h) (by rfl) hHeld ?_ ?_
     ·(intro w hSw; (try dsimp only at hSw); go_simp; all_goals (try with_reducible rfl))
     (try simp only [Act.put, List.setIfInBounds_toArray, List.set_cons_zero, List.set_cons_succ])
     refine wpAnyH_get 10 (some 18) (.bool true) rfl rfl (by kernel_rfl) (by kernel_rfl) (by kernel_rfl) (fun _ _ _ h => h) (by rfl) hHeld ?_ ?_
     ·(intro w hSw; (try dsimp only at hSw); go_simp; all_goals (try with_reducible rfl))
     (try simp only [Act.put, List.setIfInBounds_toArray, List.set_cons_zero, List.set_cons_succ])
     refine wpAnyH_skip 11 (some 19) rfl rfl (by kernel_rfl) (by kernel_rfl) (by kernel_rfl) (fun _ _ _ h => h) (by rfl) hHeld ?_
     (try simp only [Act.put, List.setIfInBounds_toArray, List.set_cons_zero, List.set_cons_succ])
     refine wpAnyH_skip 12 (some 20) rfl rfl (by kernel_rfl) (by kernel_rfl) (by kernel_rfl) (fun _ _ _ h => h) (by rfl) hHeld ?_
     (try simp only [Act.put, List.setIfInBounds_toArray, List.set_cons_zero, List.set_cons_succ])
     refine wpAnyH_skip 13 (some 21) rfl rfl (by kernel_rfl) (by kernel_rfl) (by kernel_rfl) (fun _ _ _ h => h) (by rfl) hHeld ?_
     (try simp only [Act.put, List.setIfInBounds_toArray, List.set_cons_zero, List.set_cons_succ])
     refine wpAnyH_get 14 (some 22) (.bool true) rfl rfl (by kernel_rfl) (by kernel_rfl) (by kernel_rfl) (fun _ _ _ h => h) (by rfl) hHeld ?_ ?_
     ·(intro w hSw; (try dsimp only at hSw); go_simp; all_goals (try with_reducible rfl))
     (try simp only [Act.put, List.setIfInBounds_toArray, List.set_cons_zero, List.set_cons_succ])
     refine wpAnyH_get 15 (some 23) (.bool true) rfl rfl (by kernel_rfl) (by kernel_rfl) (by kernel_rfl) (fun _ _ _ h => h) (by rfl) hHeld ?_ ?_
     ·(intro w hSw; (try dsimp only at hSw); go_simp; all_goals (try with_reducible rfl))
     (try simp only [Act.put, List.setIfInBounds_toArray, List.set_cons_zero, List.set_cons_succ])
     refine wpAnyH_skip 16 (some 24) rfl rfl (by kernel_rfl) (by kernel_rfl) (by kernel_rfl) (fun _ _ _ h => h) (by rfl) hHeld ?_
     (try simp only [Act.put, List.setIfInBounds_toArray, List.set_cons_zero, List.set_cons_succ])
     refine wpAnyH_skip 17 (some 25) rfl rfl (by kernel_rfl) (by kernel_rfl) (by kernel_rfl) (fun _ _ _ h => h) (by rfl) hHeld ?_
     (try simp only [Act.put, List.setIfInBounds_toArray, List.set_cons_zero, List.set_cons_succ])
     refine wpAnyH_skip 18 (some 26) rfl rfl (by kernel_rfl) (by kernel_rfl) (by kernel_rfl) (fun _ _ _ h => h) (by rfl) hHeld ?_
     (try simp only [Act.put, List.setIfInBounds_toArray, List.set_cons_zero, List.set_cons_succ])
     refine wpAnyH_skip 19 (some 27) rfl rfl (by kernel_rfl) (by kernel_rfl) (by kernel_rfl) (fun _ _ _ h => h) (by rfl) hHeld ?_
     (try simp only [Act.put, List.setIfInBounds_toArray, List.set_cons_zero, List.set_cons_succ])
     refine wpAnyH_skip 20 (some 28) rfl rfl (by kernel_rfl) (by kernel_rfl) (by kernel_rfl) (fun _ _ _ h => h) (by rfl) hHeld ?_
     (try simp only [Act.put, List.setIfInBounds_toArray, List.set_cons_zero, List.set_cons_succ])
     refine wpAnyH_skip 21 (some 29) rfl rfl (by kernel_rfl) (by kernel_rfl) (by kernel_rfl) (fun _ _ _ h => h) (by rfl) hHeld ?_
     (try simp only [Act.put, List.setIfInBounds_toArray, List.set_cons_zero, List.set_cons_succ])
     refine wpAnyH_skip 22 (some 30) rfl rfl (by kernel_rfl) (by kernel_rfl) (by kernel_rfl) (fun _ _ _ h => h) (by rfl) hHeld ?_
     (try simp only [Act.put, List.setIfInBounds_toArray, List.set_cons_zero, List.set_cons_succ])
     refine wpAnyH_skip 23 (some 31) rfl rfl (by kernel_rfl) (by kernel_rfl) (by kernel_rfl) (fun _ _ _ h => h) (by rfl) hHeld ?_
     (try simp only [Act.put, List.setIfInBounds_toArray, List.set_cons_zero, List.set_cons_succ])
     refine wpAnyH_skip 24 (some 32) rfl rfl (by kernel_rfl) (by kernel_rfl) (by kernel_rfl) (fun _ _ _ h => h) (by rfl) hHeld ?_
     (try simp only [Act.put, List.setIfInBounds_toArray, List.set_cons_zero, List.set_cons_succ])
     refine wpAnyH_skip 25 (some 33) rfl rfl (by kernel_rfl) (by kernel_rfl) (by kernel_rfl) (fun _ _ _ h => h) (by rfl) hHeld ?_
     (try simp only [Act.put, List.setIfInBounds_toArray, List.set_cons_zero, List.set_cons_succ])
     refine wpAnyH_get 26 (some 34) (.bool true) rfl rfl (by kernel_rfl) (by kernel_rfl) (by kernel_rfl) (fun _ _ _ h => h) (by rfl) hHeld ?_ ?_
     ·(intro w hSw; (try dsimp only at hSw); go_simp; all_goals (try with_reducible rfl))
     (try simp only [Act.put, List.setIfInBounds_toArray, List.set_cons_zero, List.set_cons_succ])
     refine wpAnyH_done (by kernel_rfl) ?_ _
     go_wp2_with (fail)
     go_ret
     exact ⟨rfl, hbe⟩
end Go.Proofs.Tg.Gp
end
