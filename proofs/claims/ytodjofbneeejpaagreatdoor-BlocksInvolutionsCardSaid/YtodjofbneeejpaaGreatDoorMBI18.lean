/- Parts of the proof: WGD. -/
import Derived.Test.YtodjofbneeejpaaGreatDoorMBI8
import Derived.Test.YtodjofbneeejpaaGreatDoorMBI17
section
/- The reference 19: independent (printed by wip/tools/mk_indep.py). -/
namespace Go.Proofs.Tg.Gp
open Go.RowKit Go.Gr Go.Sp Go.Ev Go.Pm
set_option maxHeartbeats 2000000
set_option maxRecDepth 100000
theorem findI_at {l : List (List Int)} (hn : l.Nodup) {i : Nat} (h : i < l.length) : findI l l[i] = (i : Int) := by
  unfold findI
  rw [if_pos (List.getElem_mem _), idx_first h rfl (fun j hj hji he => List.pairwise_iff_getElem.1 hn j i hj h hji he)]
theorem nodup_find {l : List (List Int)} (h : ∀ i (hi : i < l.length), findI l l[i] = (i : Int)) : l.Nodup := by
  refine List.pairwise_iff_getElem.2 fun i j hi hj hij he => ?_
  have h1 := h i hi
  have h2 := h j hj
  rw [he] at h1
  omega
theorem indep_any (L : Option Addr) (cL n : Nat) (l : List (List Int)) (v : Bool) (w : World) (hL : Lists w L l) (hp : ∀ a ∈ l, Perm n a) (hn : n ≤ 6) (hl : l.length ≤ 1000000) (hv : v = true ↔ Indep n l) :
    Calls Tryz.prog 29 #[.slice L l.length cL, .int .i64 n] w fun e w' => e = .returned (.bool v) ∧ Below w.heap.size w w' := by
  have HL := Lib.hid hL
  have HP := Lib.hid hp
  have HV := Lib.hid hv
  clear hL hp hv
  go_enter Tryz.func29, Tryz.ntmps29
  go_wp2
  go_loopw [5] (fun s5 wr => ∃ i : Nat, s5 = .int .i64 i ∧ i ≤ l.length ∧ Hid (∀ p q (h1 : p < l.length) (h2 : q < p), p < i → cmp l[p] l[q] = cmp l[q] l[p]) ∧ Below w.heap.size w wr) (fun s5 _ => l.length - (intOf s5).toNat)
  case atStart => exact ⟨0, rfl, Nat.zero_le _, Lib.hid (fun p q _ _ h => absurd h (by omega)), Below.refl _ _⟩
  case round =>
    obtain ⟨wo, rfl⟩ : ∃ wo : World, wo = wr := ⟨_, rfl⟩
    obtain ⟨i, rfl, hi, HI, hbo⟩ := hrel
    by_cases hil : i < l.length
    · go_wp2
      go_loopw [6] (fun s6 wr => ∃ k : Nat, s6 = .int .i64 k ∧ k ≤ i ∧ Hid (∀ q (h2 : q < i), q < k → cmp l[i] (l[q]'(by omega)) = cmp (l[q]'(by omega)) l[i]) ∧ Below w.heap.size w wr) (fun s6 _ => i - (intOf s6).toNat)
      case atStart => exact ⟨0, rfl, Nat.zero_le _, Lib.hid (fun q _ h => absurd h (by omega)), hbo⟩
      case round =>
        clear hbo
        obtain ⟨wi, rfl⟩ : ∃ wi : World, wi = wr := ⟨_, rfl⟩
        obtain ⟨k, rfl, hk, HK, hbi⟩ := hrel
        by_cases hkl : k < i
        · have hkk : k < l.length := by omega
          obtain ⟨ad, E1, ce1, rfl, s1, hE1⟩ := (HL.out.keep hbi).at hil
          obtain ⟨ad', E2, ce2, had, s2, hE2⟩ := (HL.out.keep hbi).at hkk
          injection had with had
          subst had
          have q0 : (0 : Int) ≤ (i : Int) := by omega
          have q1 : (i : Int) < (l.length : Int) := by omega
          have q3 : ((i : Int)).toNat = i := by omega
          have r0 : (0 : Int) ≤ (k : Int) := by omega
          have r1 : (k : Int) < (l.length : Int) := by omega
          have r3 : ((k : Int)).toNat = k := by omega
          have hp1 := HP.out l[i] (List.getElem_mem _)
          have hp2 := HP.out (l[k]'hkk) (List.getElem_mem _)
          rw [hp1.1] at s1
          rw [hp2.1] at s2
          have HPR1 : Hid (∀ V, Below wi.heap.size wi V → Calls Tryz.prog 53 #[.slice E1 n ce1, .slice E2 n ce2] V fun e w' => ∃ g, e = .returned (.slice (some ⟨g, 0, none⟩) n n) ∧ Blk w' g 3 (iarr (cmp l[i] (l[k]'hkk))) ∧ Below V.heap.size V w') := Lib.hid (fun V h =>
            (rprod_any E1 E2 ce1 ce2 n l[i] (l[k]'hkk) V (hE1.keep h) (hE2.keep h) hp1 hp2 hn).mono fun e w' ⟨h1, h2, h3⟩ => ⟨_, h1, h2, h3⟩)
          have HPR2 : Hid (∀ V, Below wi.heap.size wi V → Calls Tryz.prog 53 #[.slice E2 n ce2, .slice E1 n ce1] V fun e w' => ∃ g, e = .returned (.slice (some ⟨g, 0, none⟩) n n) ∧ Blk w' g 3 (iarr (cmp (l[k]'hkk) l[i])) ∧ Below V.heap.size V w') := Lib.hid (fun V h =>
            (rprod_any E2 E1 ce2 ce1 n (l[k]'hkk) l[i] V (hE2.keep h) (hE1.keep h) hp2 hp1 hn).mono fun e w' ⟨h1, h2, h3⟩ => ⟨_, h1, h2, h3⟩)
          have hl1 := (cmp_perm hp1 hp2).1
          have hl2 := (cmp_perm hp2 hp1).1
          obtain ⟨q, hq⟩ : ∃ q : Bool, decide (cmp l[i] (l[k]'hkk) = cmp (l[k]'hkk) l[i]) = q := ⟨_, rfl⟩
          have HEQ : Hid (∀ V g1 g2, Blk V g1 3 (iarr (cmp l[i] (l[k]'hkk))) → Blk V g2 3 (iarr (cmp (l[k]'hkk) l[i])) → Calls Tryz.prog 56 #[.slice (some ⟨g1, 0, none⟩) n n, .slice (some ⟨g2, 0, none⟩) n n] V fun e w' => e = .returned (.bool q) ∧ Below V.heap.size V w') := Lib.hid (fun V g1 g2 h1 h2 => by
            have := seq_any (some ⟨g1, 0, none⟩) (some ⟨g2, 0, none⟩) _ _ n n V (ints_blk h1 hl1 hn) (ints_blk h2 hl2 hn) (by omega) q hq
            rw [hl1, hl2] at this
            exact this.mono fun e w' h2 => ⟨h2.1, h2.2.below⟩)
          have HQ := Lib.hid hq
          clear hq hl1 hl2 hp1 hp2 hE1 hE2
          cases q with
          | true =>
            have HK2 : Hid (∀ q (h2 : q < i), q < k + 1 → cmp l[i] (l[q]'(by omega)) = cmp (l[q]'(by omega)) l[i]) := Lib.hid (fun q h2 hq => by
              by_cases he : q = k
              · subst he; exact of_decide_eq_true HQ.out
              · exact HK.out q h2 (by omega))
            clear HQ
            generalize cmp l[i] (l[k]'hkk) = x at HPR1 HEQ
            generalize cmp (l[k]'hkk) l[i] = y at HPR2 HEQ
            go_upto_region 7 with (fail)
            have BZ : Below wi.heap.size wi wi.drew := (Below.refl _ _).drew
            refine wp_region_held_drew (S := (fun w' => w'.cell? (ad.add i) = some (.slice E1 n ce1) ∧ w'.cell? (ad.add k) = some (.slice E2 n ce2))) (by kernel_rfl) ⟨s1, s2⟩ (fun hHeld => ?_)
            generalize wi.drew = Z at *
            refine wpAnyH_get 0 (some 20) (.slice (some ad) l.length cL) rfl rfl (by kernel_rfl) (by kernel_rfl) (by kernel_rfl) (fun _ _ _ h => h) (by rfl) hHeld ?_ ?_
            · (intro w hSw; (try dsimp only at hSw); go_simp; all_goals (try with_reducible rfl))
            (try simp only [Act.put, List.setIfInBounds_toArray, List.set_cons_zero, List.set_cons_succ])
            refine wpAnyH_get 1 (some 21) (.int .i64 i) rfl rfl (by kernel_rfl) (by kernel_rfl) (by kernel_rfl) (fun _ _ _ h => h) (by rfl) hHeld ?_ ?_
            · (intro w hSw; (try dsimp only at hSw); go_simp; all_goals (try with_reducible rfl))
            (try simp only [Act.put, List.setIfInBounds_toArray, List.set_cons_zero, List.set_cons_succ])
            refine wpAnyH_get 2 (some 22) (.pointer (some (ad.add i))) rfl rfl (by kernel_rfl) (by kernel_rfl) (by kernel_rfl) (fun _ _ _ h => h) (by rfl) hHeld ?_ ?_
            · (intro w hSw; (try dsimp only at hSw); go_simp; all_goals (try with_reducible rfl))
            (try simp only [Act.put, List.setIfInBounds_toArray, List.set_cons_zero, List.set_cons_succ])
            refine wpAnyH_get 3 (some 23) (.slice E1 n ce1) rfl rfl (by kernel_rfl) (by kernel_rfl) (by kernel_rfl) (fun _ _ _ h => h) (by rfl) hHeld ?_ ?_
            · (intro w hSw; (try dsimp only at hSw); go_simp; all_goals (try with_reducible rfl))
            (try simp only [Act.put, List.setIfInBounds_toArray, List.set_cons_zero, List.set_cons_succ])
            refine wpAnyH_get 4 (some 24) (.slice (some ad) l.length cL) rfl rfl (by kernel_rfl) (by kernel_rfl) (by kernel_rfl) (fun _ _ _ h => h) (by rfl) hHeld ?_ ?_
            · (intro w hSw; (try dsimp only at hSw); go_simp; all_goals (try with_reducible rfl))
            (try simp only [Act.put, List.setIfInBounds_toArray, List.set_cons_zero, List.set_cons_succ])
            refine wpAnyH_get 5 (some 25) (.int .i64 k) rfl rfl (by kernel_rfl) (by kernel_rfl) (by kernel_rfl) (fun _ _ _ h => h) (by rfl) hHeld ?_ ?_
            · (intro w hSw; (try dsimp only at hSw); go_simp; all_goals (try with_reducible rfl))
            (try simp only [Act.put, List.setIfInBounds_toArray, List.set_cons_zero, List.set_cons_succ])
            refine wpAnyH_get 6 (some 26) (.pointer (some (ad.add k))) rfl rfl (by kernel_rfl) (by kernel_rfl) (by kernel_rfl) (fun _ _ _ h => h) (by rfl) hHeld ?_ ?_
            · (intro w hSw; (try dsimp only at hSw); go_simp; all_goals (try with_reducible rfl))
            (try simp only [Act.put, List.setIfInBounds_toArray, List.set_cons_zero, List.set_cons_succ])
            refine wpAnyH_get 7 (some 27) (.slice E2 n ce2) rfl rfl (by kernel_rfl) (by kernel_rfl) (by kernel_rfl) (fun _ _ _ h => h) (by rfl) hHeld ?_ ?_
            · (intro w hSw; (try dsimp only at hSw); go_simp; all_goals (try with_reducible rfl))
            (try simp only [Act.put, List.setIfInBounds_toArray, List.set_cons_zero, List.set_cons_succ])
            refine wpAnyH_get 9 (some 29) (.slice (some ad) l.length cL) rfl rfl (by kernel_rfl) (by kernel_rfl) (by kernel_rfl) (fun _ _ _ h => h) (by rfl) hHeld ?_ ?_
            · (intro w hSw; (try dsimp only at hSw); go_simp; all_goals (try with_reducible rfl))
            (try simp only [Act.put, List.setIfInBounds_toArray, List.set_cons_zero, List.set_cons_succ])
            refine wpAnyH_get 10 (some 30) (.int .i64 k) rfl rfl (by kernel_rfl) (by kernel_rfl) (by kernel_rfl) (fun _ _ _ h => h) (by rfl) hHeld ?_ ?_
            · (intro w hSw; (try dsimp only at hSw); go_simp; all_goals (try with_reducible rfl))
            (try simp only [Act.put, List.setIfInBounds_toArray, List.set_cons_zero, List.set_cons_succ])
            refine wpAnyH_get 11 (some 31) (.pointer (some (ad.add k))) rfl rfl (by kernel_rfl) (by kernel_rfl) (by kernel_rfl) (fun _ _ _ h => h) (by rfl) hHeld ?_ ?_
            · (intro w hSw; (try dsimp only at hSw); go_simp; all_goals (try with_reducible rfl))
            (try simp only [Act.put, List.setIfInBounds_toArray, List.set_cons_zero, List.set_cons_succ])
            refine wpAnyH_get 12 (some 32) (.slice E2 n ce2) rfl rfl (by kernel_rfl) (by kernel_rfl) (by kernel_rfl) (fun _ _ _ h => h) (by rfl) hHeld ?_ ?_
            · (intro w hSw; (try dsimp only at hSw); go_simp; all_goals (try with_reducible rfl))
            (try simp only [Act.put, List.setIfInBounds_toArray, List.set_cons_zero, List.set_cons_succ])
            refine wpAnyH_get 13 (some 33) (.slice (some ad) l.length cL) rfl rfl (by kernel_rfl) (by kernel_rfl) (by kernel_rfl) (fun _ _ _ h => h) (by rfl) hHeld ?_ ?_
            · (intro w hSw; (try dsimp only at hSw); go_simp; all_goals (try with_reducible rfl))
            (try simp only [Act.put, List.setIfInBounds_toArray, List.set_cons_zero, List.set_cons_succ])
            refine wpAnyH_get 14 (some 34) (.int .i64 i) rfl rfl (by kernel_rfl) (by kernel_rfl) (by kernel_rfl) (fun _ _ _ h => h) (by rfl) hHeld ?_ ?_
            · (intro w hSw; (try dsimp only at hSw); go_simp; all_goals (try with_reducible rfl))
            (try simp only [Act.put, List.setIfInBounds_toArray, List.set_cons_zero, List.set_cons_succ])
            refine wpAnyH_get 15 (some 35) (.pointer (some (ad.add i))) rfl rfl (by kernel_rfl) (by kernel_rfl) (by kernel_rfl) (fun _ _ _ h => h) (by rfl) hHeld ?_ ?_
            · (intro w hSw; (try dsimp only at hSw); go_simp; all_goals (try with_reducible rfl))
            (try simp only [Act.put, List.setIfInBounds_toArray, List.set_cons_zero, List.set_cons_succ])
            refine wpAnyH_get 16 (some 36) (.slice E1 n ce1) rfl rfl (by kernel_rfl) (by kernel_rfl) (by kernel_rfl) (fun _ _ _ h => h) (by rfl) hHeld ?_ ?_
            · (intro w hSw; (try dsimp only at hSw); go_simp; all_goals (try with_reducible rfl))
            (try simp only [Act.put, List.setIfInBounds_toArray, List.set_cons_zero, List.set_cons_succ])
            refine wpAnyH_ready (rs := [8]) (by kernel_rfl) (by simp) ?_
            refine AllReadyH.cons rfl (fun K hK => ?_) AllReadyH.nil
            go_simp
            refine (HPR1.out _ BZ).mono ?_
            rintro e w1 ⟨g1, rfl, hG1, hb1⟩
            (try go_simp)
            have BZ := below_all BZ hb1
            refine hK.out _ _ ⟨keep_cell BZ s1, keep_cell BZ s2⟩ (fun hHeld => ?_)
            clear hK K
            (try simp only [Act.put, List.setIfInBounds_toArray, List.set_cons_zero, List.set_cons_succ])
            refine wpAnyH_ready (rs := [17]) (by kernel_rfl) (by simp) ?_
            refine AllReadyH.cons rfl (fun K hK => ?_) AllReadyH.nil
            go_simp
            refine (HPR2.out _ BZ).mono ?_
            rintro e w3 ⟨g2, rfl, hG2, hb3⟩
            (try go_simp)
            have BZ := below_all BZ hb3
            have hG1 := hG1.keep hb3 hG1.lt
            refine hK.out _ _ ⟨keep_cell BZ s1, keep_cell BZ s2⟩ (fun hHeld => ?_)
            clear hK K
            (try simp only [Act.put, List.setIfInBounds_toArray, List.set_cons_zero, List.set_cons_succ])
            refine wpAnyH_ready (rs := [18]) (by kernel_rfl) (by simp) ?_
            refine AllReadyH.cons rfl (fun K hK => ?_) AllReadyH.nil
            go_simp
            refine (HEQ.out _ _ _ hG1 hG2).mono ?_
            rintro e w4 ⟨rfl, hb4⟩
            (try go_simp)
            have BZ := below_all BZ hb4
            refine hK.out _ _ ⟨keep_cell BZ s1, keep_cell BZ s2⟩ (fun hHeld => ?_)
            clear hK K
            (try simp only [Act.put, List.setIfInBounds_toArray, List.set_cons_zero, List.set_cons_succ])
            refine wpAnyH_get 19 (some 39) (.bool false) rfl rfl (by kernel_rfl) (by kernel_rfl) (by kernel_rfl) (fun _ _ _ h => h) (by rfl) hHeld ?_ ?_
            · (intro w hSw; (try dsimp only at hSw); go_simp; all_goals (try with_reducible rfl))
            (try simp only [Act.put, List.setIfInBounds_toArray, List.set_cons_zero, List.set_cons_succ])
            refine wpAnyH_done (by kernel_rfl) ?_ _
            go_wp2
            go_roundw
            case rel => exact ⟨k + 1, by go_num, by omega, HK2, below_all hbi BZ⟩
            case measure => simp [intOf]; omega
          | false =>
            obtain rfl : v = false := eq_false_of_ne_true (fun h => of_decide_eq_false HQ.out ((HV.out.1 h).1 i k hil hkl))
            clear HQ
            generalize cmp l[i] (l[k]'hkk) = x at HPR1 HEQ
            generalize cmp (l[k]'hkk) l[i] = y at HPR2 HEQ
            go_upto_region 7 with (fail)
            have BZ : Below wi.heap.size wi wi.drew := (Below.refl _ _).drew
            refine wp_region_held_drew (S := (fun w' => w'.cell? (ad.add i) = some (.slice E1 n ce1) ∧ w'.cell? (ad.add k) = some (.slice E2 n ce2))) (by kernel_rfl) ⟨s1, s2⟩ (fun hHeld => ?_)
            generalize wi.drew = Z at *
            refine wpAnyH_get 0 (some 20) (.slice (some ad) l.length cL) rfl rfl (by kernel_rfl) (by kernel_rfl) (by kernel_rfl) (fun _ _ _ h => h) (by rfl) hHeld ?_ ?_
            · (intro w hSw; (try dsimp only at hSw); go_simp; all_goals (try with_reducible rfl))
            (try simp only [Act.put, List.setIfInBounds_toArray, List.set_cons_zero, List.set_cons_succ])
            refine wpAnyH_get 1 (some 21) (.int .i64 i) rfl rfl (by kernel_rfl) (by kernel_rfl) (by kernel_rfl) (fun _ _ _ h => h) (by rfl) hHeld ?_ ?_
            · (intro w hSw; (try dsimp only at hSw); go_simp; all_goals (try with_reducible rfl))
            (try simp only [Act.put, List.setIfInBounds_toArray, List.set_cons_zero, List.set_cons_succ])
            refine wpAnyH_get 2 (some 22) (.pointer (some (ad.add i))) rfl rfl (by kernel_rfl) (by kernel_rfl) (by kernel_rfl) (fun _ _ _ h => h) (by rfl) hHeld ?_ ?_
            · (intro w hSw; (try dsimp only at hSw); go_simp; all_goals (try with_reducible rfl))
            (try simp only [Act.put, List.setIfInBounds_toArray, List.set_cons_zero, List.set_cons_succ])
            refine wpAnyH_get 3 (some 23) (.slice E1 n ce1) rfl rfl (by kernel_rfl) (by kernel_rfl) (by kernel_rfl) (fun _ _ _ h => h) (by rfl) hHeld ?_ ?_
            · (intro w hSw; (try dsimp only at hSw); go_simp; all_goals (try with_reducible rfl))
            (try simp only [Act.put, List.setIfInBounds_toArray, List.set_cons_zero, List.set_cons_succ])
            refine wpAnyH_get 4 (some 24) (.slice (some ad) l.length cL) rfl rfl (by kernel_rfl) (by kernel_rfl) (by kernel_rfl) (fun _ _ _ h => h) (by rfl) hHeld ?_ ?_
            · (intro w hSw; (try dsimp only at hSw); go_simp; all_goals (try with_reducible rfl))
            (try simp only [Act.put, List.setIfInBounds_toArray, List.set_cons_zero, List.set_cons_succ])
            refine wpAnyH_get 5 (some 25) (.int .i64 k) rfl rfl (by kernel_rfl) (by kernel_rfl) (by kernel_rfl) (fun _ _ _ h => h) (by rfl) hHeld ?_ ?_
            · (intro w hSw; (try dsimp only at hSw); go_simp; all_goals (try with_reducible rfl))
            (try simp only [Act.put, List.setIfInBounds_toArray, List.set_cons_zero, List.set_cons_succ])
            refine wpAnyH_get 6 (some 26) (.pointer (some (ad.add k))) rfl rfl (by kernel_rfl) (by kernel_rfl) (by kernel_rfl) (fun _ _ _ h => h) (by rfl) hHeld ?_ ?_
            · (intro w hSw; (try dsimp only at hSw); go_simp; all_goals (try with_reducible rfl))
            (try simp only [Act.put, List.setIfInBounds_toArray, List.set_cons_zero, List.set_cons_succ])
            refine wpAnyH_get 7 (some 27) (.slice E2 n ce2) rfl rfl (by kernel_rfl) (by kernel_rfl) (by kernel_rfl) (fun _ _ _ h => h) (by rfl) hHeld ?_ ?_
            · (intro w hSw; (try dsimp only at hSw); go_simp; all_goals (try with_reducible rfl))
            (try simp only [Act.put, List.setIfInBounds_toArray, List.set_cons_zero, List.set_cons_succ])
            refine wpAnyH_get 9 (some 29) (.slice (some ad) l.length cL) rfl rfl (by kernel_rfl) (by kernel_rfl) (by kernel_rfl) (fun _ _ _ h => h) (by rfl) hHeld ?_ ?_
            · (intro w hSw; (try dsimp only at hSw); go_simp; all_goals (try with_reducible rfl))
            (try simp only [Act.put, List.setIfInBounds_toArray, List.set_cons_zero, List.set_cons_succ])
            refine wpAnyH_get 10 (some 30) (.int .i64 k) rfl rfl (by kernel_rfl) (by kernel_rfl) (by kernel_rfl) (fun _ _ _ h => h) (by rfl) hHeld ?_ ?_
            · (intro w hSw; (try dsimp only at hSw); go_simp; all_goals (try with_reducible rfl))
            (try simp only [Act.put, List.setIfInBounds_toArray, List.set_cons_zero, List.set_cons_succ])
            refine wpAnyH_get 11 (some 31) (.pointer (some (ad.add k))) rfl rfl (by kernel_rfl) (by kernel_rfl) (by kernel_rfl) (fun _ _ _ h => h) (by rfl) hHeld ?_ ?_
            · (intro w hSw; (try dsimp only at hSw); go_simp; all_goals (try with_reducible rfl))
            (try simp only [Act.put, List.setIfInBounds_toArray, List.set_cons_zero, List.set_cons_succ])
            refine wpAnyH_get 12 (some 32) (.slice E2 n ce2) rfl rfl (by kernel_rfl) (by kernel_rfl) (by kernel_rfl) (fun _ _ _ h => h) (by rfl) hHeld ?_ ?_
            · (intro w hSw; (try dsimp only at hSw); go_simp; all_goals (try with_reducible rfl))
            (try simp only [Act.put, List.setIfInBounds_toArray, List.set_cons_zero, List.set_cons_succ])
            refine wpAnyH_get 13 (some 33) (.slice (some ad) l.length cL) rfl rfl (by kernel_rfl) (by kernel_rfl) (by kernel_rfl) (fun _ _ _ h => h) (by rfl) hHeld ?_ ?_
            · (intro w hSw; (try dsimp only at hSw); go_simp; all_goals (try with_reducible rfl))
            (try simp only [Act.put, List.setIfInBounds_toArray, List.set_cons_zero, List.set_cons_succ])
            refine wpAnyH_get 14 (some 34) (.int .i64 i) rfl rfl (by kernel_rfl) (by kernel_rfl) (by kernel_rfl) (fun _ _ _ h => h) (by rfl) hHeld ?_ ?_
            · (intro w hSw; (try dsimp only at hSw); go_simp; all_goals (try with_reducible rfl))
            (try simp only [Act.put, List.setIfInBounds_toArray, List.set_cons_zero, List.set_cons_succ])
            refine wpAnyH_get 15 (some 35) (.pointer (some (ad.add i))) rfl rfl (by kernel_rfl) (by kernel_rfl) (by kernel_rfl) (fun _ _ _ h => h) (by rfl) hHeld ?_ ?_
            · (intro w hSw; (try dsimp only at hSw); go_simp; all_goals (try with_reducible rfl))
            (try simp only [Act.put, List.setIfInBounds_toArray, List.set_cons_zero, List.set_cons_succ])
            refine wpAnyH_get 16 (some 36) (.slice E1 n ce1) rfl rfl (by kernel_rfl) (by kernel_rfl) (by kernel_rfl) (fun _ _ _ h => h) (by rfl) hHeld ?_ ?_
            · (intro w hSw; (try dsimp only at hSw); go_simp; all_goals (try with_reducible rfl))
            (try simp only [Act.put, List.setIfInBounds_toArray, List.set_cons_zero, List.set_cons_succ])
            refine wpAnyH_ready (rs := [8]) (by kernel_rfl) (by simp) ?_
            refine AllReadyH.cons rfl (fun K hK => ?_) AllReadyH.nil
            go_simp
            refine (HPR1.out _ BZ).mono ?_
            rintro e w1 ⟨g1, rfl, hG1, hb1⟩
            (try go_simp)
            have BZ := below_all BZ hb1
            refine hK.out _ _ ⟨keep_cell BZ s1, keep_cell BZ s2⟩ (fun hHeld => ?_)
            clear hK K
            (try simp only [Act.put, List.setIfInBounds_toArray, List.set_cons_zero, List.set_cons_succ])
            refine wpAnyH_ready (rs := [17]) (by kernel_rfl) (by simp) ?_
            refine AllReadyH.cons rfl (fun K hK => ?_) AllReadyH.nil
            go_simp
            refine (HPR2.out _ BZ).mono ?_
            rintro e w3 ⟨g2, rfl, hG2, hb3⟩
            (try go_simp)
            have BZ := below_all BZ hb3
            have hG1 := hG1.keep hb3 hG1.lt
            refine hK.out _ _ ⟨keep_cell BZ s1, keep_cell BZ s2⟩ (fun hHeld => ?_)
            clear hK K
            (try simp only [Act.put, List.setIfInBounds_toArray, List.set_cons_zero, List.set_cons_succ])
            refine wpAnyH_ready (rs := [18]) (by kernel_rfl) (by simp) ?_
            refine AllReadyH.cons rfl (fun K hK => ?_) AllReadyH.nil
            go_simp
            refine (HEQ.out _ _ _ hG1 hG2).mono ?_
            rintro e w4 ⟨rfl, hb4⟩
            (try go_simp)
            have BZ := below_all BZ hb4
            refine hK.out _ _ ⟨keep_cell BZ s1, keep_cell BZ s2⟩ (fun hHeld => ?_)
            clear hK K
            (try simp only [Act.put, List.setIfInBounds_toArray, List.set_cons_zero, List.set_cons_succ])
            refine wpAnyH_get 19 (some 39) (.bool true) rfl rfl (by kernel_rfl) (by kernel_rfl) (by kernel_rfl) (fun _ _ _ h => h) (by rfl) hHeld ?_ ?_
            · (intro w hSw; (try dsimp only at hSw); go_simp; all_goals (try with_reducible rfl))
            (try simp only [Act.put, List.setIfInBounds_toArray, List.set_cons_zero, List.set_cons_succ])
            refine wpAnyH_done (by kernel_rfl) ?_ _
            go_wp2
            go_ret
            exact ⟨rfl, below_all hbi BZ⟩
        · obtain rfl : k = i := by omega
          have HI2 : Hid (∀ p q (h1 : p < l.length) (h2 : q < p), p < k + 1 → cmp l[p] l[q] = cmp l[q] l[p]) := Lib.hid (fun p q h1 h2 hp => by
            by_cases he : p = k
            · subst he; exact HK.out q h2 h2
            · exact HI.out p q h1 h2 (by omega))
          have dk : decide ((k : Int) < (k : Int)) = false := by simp
          go_wp2
          go_roundw
          case rel => exact ⟨k + 1, by go_num, by omega, HI2, hbi⟩
          case measure => simp [intOf]; omega
    · obtain rfl : i = l.length := by omega
      have dk : decide ((l.length : Int) < (l.length : Int)) = false := by simp
      by_cases hln : l.length ≤ n
      · have d1 : decide ((n : Int) < (l.length : Int)) = false := decide_eq_false (by omega)
        have d2 : decide (n < l.length) = false := decide_eq_false (by omega)
        have HPD : Hid (∀ V, Below w.heap.size w V → Calls Tryz.prog 58 #[.slice L l.length cL, .int .i64 n] V fun e w' => ∃ A c, e = .returned (.slice A (prods n l).length c) ∧ Lists w' A (prods n l) ∧ Below V.heap.size V w') := Lib.hid (fun V h => products_any L cL n l V (HL.out.keep h) HP.out hn (by omega))
        have HVN : Hid (v = true ↔ (prods n l).Nodup) := Lib.hid (by
          rw [HV.out]
          exact ⟨fun h => h.2.2, fun h => ⟨fun i k h1 h2 => HI.out i k h1 h2 h1, hln, h⟩⟩)
        have HPE := Lib.hid (prods_perm HP.out)
        have HPN : Hid ((prods n l).length ≤ 64) := Lib.hid (by
          rw [prods_len]
          have : 2 ^ l.length ≤ 2 ^ 6 := Nat.pow_le_pow_right (by omega) (by omega)
          exact this)
        clear HV HI
        generalize prods n l = P at *
        have hpn := HPN.out
        go_wp2_with (go_at_call 58; refine (HPD.out _ hbo).mono ?_; rintro e w2 ⟨A, c, rfl, hP, hb2⟩)
        have hbw := below_all hbo hb2
        have HPW := Lib.hid hP
        clear hP dk d1 d2 hbo
        go_loopw [8] (fun s8 wr => ∃ i : Nat, s8 = .int .i64 i ∧ i ≤ P.length ∧ Hid (∀ j (h : j < P.length), j < i → findI P P[j] = (j : Int)) ∧ Below w2.heap.size w2 wr) (fun s8 _ => P.length - (intOf s8).toNat)
        case atStart => exact ⟨0, rfl, Nat.zero_le _, Lib.hid (fun j _ h => absurd h (by omega)), Below.refl _ _⟩
        case round =>
          obtain ⟨wi, rfl⟩ : ∃ wi : World, wi = wr := ⟨_, rfl⟩
          obtain ⟨i, rfl, hi, HF, hbi⟩ := hrel
          by_cases hil : i < P.length
          · obtain ⟨ad, E, ce, rfl, hc, hE⟩ := (HPW.out.keep hbi).at hil
            have q0 : (0 : Int) ≤ (i : Int) := by omega
            have q1 : (i : Int) < (P.length : Int) := by omega
            have q3 : ((i : Int)).toNat = i := by omega
            have HFN := Lib.hid (find_any (some ad) c P E ce P[i] wi (HPW.out.keep hbi) hE (by omega) (fun x hx => by have := (HPE.out x hx).1; omega))
            by_cases hz : findI P P[i] = (i : Int)
            · have HF2 : Hid (∀ j (h : j < P.length), j < i + 1 → findI P P[j] = (j : Int)) := Lib.hid (fun j h hj => by
                by_cases he : j = i
                · subst he; exact hz
                · exact HF.out j h (by omega))
              have hne : ((i : Int) != (i : Int)) = false := by simp
              rw [hz] at HFN
              clear hz hE
              generalize P[i] = x at hc HFN
              go_wp2_with (go_at_call 38; refine HFN.out.mono ?_; rintro e w4 ⟨rfl, hb4⟩)
              go_roundw
              case rel => exact ⟨i + 1, by go_num, by omega, HF2, below_all hbi hb4⟩
              case measure => simp [intOf]; omega
            · obtain rfl : v = false := eq_false_of_ne_true (fun h => hz (findI_at (HVN.out.1 h) hil))
              have hne : (findI P P[i] != (i : Int)) = true := bne_iff_ne.2 hz
              clear hz hE
              generalize findI P P[i] = z at HFN hne
              generalize P[i] = x at hc HFN
              go_wp2_with (go_at_call 38; refine HFN.out.mono ?_; rintro e w4 ⟨rfl, hb4⟩)
              go_ret
              exact ⟨rfl, below_all hbw (below_all hbi hb4)⟩
          · obtain rfl : i = P.length := by omega
            obtain rfl : v = true := HVN.out.2 (nodup_find fun i hi => HF.out i hi hi)
            have dk : decide ((P.length : Int) < (P.length : Int)) = false := by simp
            go_wp2
            go_ret
            exact ⟨rfl, below_all hbw hbi⟩
      · have d1 : decide ((n : Int) < (l.length : Int)) = true := decide_eq_true (by omega)
        have d2 : decide (n < l.length) = true := decide_eq_true (by omega)
        obtain rfl : v = false := eq_false_of_ne_true (fun h => hln (HV.out.1 h).2.1)
        go_wp2
        go_ret
        exact ⟨rfl, hbo⟩
end Go.Proofs.Tg.Gp
end
