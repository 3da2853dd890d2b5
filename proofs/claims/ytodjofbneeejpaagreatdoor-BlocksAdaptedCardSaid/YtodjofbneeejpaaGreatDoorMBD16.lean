/- Parts of the proof: WGE. -/
import Derived.Deep.Cut
import Derived.Test.YtodjofbneeejpaaGreatDoorMBD13
import Derived.Test.YtodjofbneeejpaaGreatDoorMBD15
section
/- The reference 19: Involutions (printed by wip/tools/mk_rinvs.py). -/
namespace Go.Proofs.Tg.Gp
open Go.RowKit Go.Gr Go.Sp Go.Ev Go.Pm
open Go.Proofs.Tg.Sx (Rw cellR RowsK rows_lists)
set_option maxHeartbeats 4000000
set_option maxRecDepth 100000
theorem sl_blk1 {w : World} {g : Nat} {t : TypeId} {x : Value} (h : Blk w g t #[x]) : Sl w (some ⟨g, 0, none⟩) 1 1 [x] :=
  ⟨rfl, fun _ => ⟨_, rfl, h.lt, fun j u hu => by rw [add_lit, Nat.zero_add, h.cell j]; simpa using hu⟩⟩
theorem rows_of_sl {w V : World} {od : Addr} {rs : List Rw} {E : Option Addr} {ce n : Nat} {x : List Int} {P : List (List Int)} (hS : Sl V (some od) ([] ++ rs.map cellR ++ [Value.slice E n ce]).length 1 ([] ++ rs.map cellR ++ [Value.slice E n ce])) (hI : ∀ r ∈ rs ++ [(E, ce, x)], Ints w r.1 r.2.2) (hcr : cellR (E, ce, x) = .slice E n ce) (hb : Below w.heap.size w V) (he : (rs ++ [(E, ce, x)]).map (fun r => r.2.2) = P) : Lists V (some od) P := by
 have e : [] ++ rs.map cellR ++ [Value.slice E n ce] = (rs ++ [(E, ce, x)]).map cellR := by rw [List.map_append, List.map_singleton, hcr]; rfl
 rw [e, List.length_map] at hS
 have := rows_lists (c := 0) hS (fun r hr => .inl (hI r hr) : RowsK w V 0 _) hb
 rwa [he] at this
/-- What Involutions returns. -/
def RetInv (g : List (List Int)) (w : World) (e : Ending) (w' : World) : Prop := Below w.heap.size w w' ∧
  ((¬ IsG g ∧ e = .returned (.tuple #[.slice none 0 0, .int .i64 1])) ∨ (IsG g ∧ ∃ A c, e = .returned (.tuple #[.slice A (invs (g.headD []).length g).length c, .int .i64 0]) ∧ Lists w' A (invs (g.headD []).length g)))
/-- What the loop holds. -/
structure InSt (w : World) (P : List (List Int)) (wr : World) (A : Option Addr) (c : Nat) (rs : List Rw) : Prop where
  below : Below w.heap.size w wr
  eq : rs.map (fun r => r.2.2) = P
  own : wr.ownsRow w.heap.size 22 1 (.slice A rs.length c) rs.length (rs.map cellR)
  ints : ∀ r ∈ rs, Ints w r.1 r.2.2
theorem InSt.keep {w wr wz : World} {P : List (List Int)} {A : Option Addr} {c : Nat} {rs : List Rw} (h : InSt w P wr A c rs) (hb : Below wr.heap.size wr wz) : InSt w P wz A c rs := ⟨below_all h.below hb, h.eq, own_below h.own hb (Nat.le_refl _), h.ints⟩
theorem rinvs_any (L : Option Addr) (cL : Nat) (g : List (List Int)) (w : World) (hL : Lists w L g) (hl : g.length ≤ 720) (hll : ∀ x ∈ g, x.length ≤ 1000) (hr : IsG g → ∀ k, 2 ^ k ≤ g.length → k ≤ (g.headD []).length) :
    Calls Tryz.prog 10 #[.slice L g.length cL] w (RetInv g w) := by
  by_cases hG : IsG g
  ·have HI := Lib.hid (gp_risgroup L cL g true w hL hl hll ⟨fun _ => hG, fun _ => rfl⟩)
   have HGG := Lib.hid hG
   obtain ⟨n, hnE⟩ : ∃ n, (g.headD []).length = n := ⟨_, rfl⟩
   have hr := hr hG
   obtain ⟨hn6, hne, hpm, hasc, hgrp⟩ := hG
   rw [hnE] at hn6 hpm hgrp hr
   have HP := Lib.hid hpm
   have HGR := Lib.hid hgrp
   have HR := Lib.hid hr
   have HCO : Hid (∀ k, Coll n g (invs n (g.take k))) := Lib.hid (invs_coll hpm)
   have HL := Lib.hid hL
   have hpos : 0 < g.length := by
    cases g with
    | nil => exact absurd rfl hne
    | cons a g => simp
   have HCL : Hid (∀ k, (invs n (g.take k)).length ≤ k) := Lib.hid (fun k => by
    induction k with
    | zero => simp [invs]
    | succ k ih =>
      by_cases hk : k < g.length
      ·rw [List.take_succ_eq_append_getElem hk, invs_snoc]
       split
       ·simp; omega
       ·omega
      ·rw [List.take_of_length_le (by omega)]
       rw [List.take_of_length_le (by omega)] at ih
       omega)
   have HSN : Hid (∀ k (h : k < g.length), invs n (g.take (k + 1)) = if Take n (invs n (g.take k)) g[k] then invs n (g.take k) ++ [g[k]] else invs n (g.take k)) := Lib.hid (fun k h => by rw [List.take_succ_eq_append_getElem h, invs_snoc])
   obtain ⟨j0, hj0, hjz0, hjz1, hjz2⟩ := info_parts prow_info
   unfold RetInv
   rw [hnE]
   have HRET : Hid (IsG g) := HGG
   clear hL hll hr hne hpm hasc hgrp hnE
   obtain ⟨ad, E0, ce0, rfl, hc0, hE0⟩ := HL.out.at hpos
   have hp0 := HP.out g[0] (List.getElem_mem _)
   rw [hp0.1] at hc0
   have hc0' : w.cell? ad = some (.slice E0 n ce0) := by
    have e : ad.add 0 = ad := by unfold Addr.add; split <;> simp_all
    rwa [e] at hc0
   have HC0 := Lib.hid hc0'
   clear hp0 hc0 hc0' hE0
   go_enter Tryz.func10, Tryz.ntmps10
   go_wp2_with (go_at_call 27; refine HI.out.mono ?_; rintro e w1 ⟨rfl, hb1⟩)
   have p0 : (0 : Int) < (g.length : Int) := by omega
   go_loopw [5, 4] (fun s5 s4 wr => ∃ (k : Nat) (A : Option Addr) (c : Nat) (rs : List Rw), s5 = .int .i64 k ∧ k ≤ g.length ∧ s4 = .slice A rs.length c ∧ Hid (InSt w (invs n (g.take k)) wr A c rs)) (fun s5 _ _ => g.length - (intOf s5).toNat)
   case atStart => exact ⟨0, none, 0, [], rfl, Nat.zero_le _, rfl, Lib.hid ⟨hb1, by simp [invs], World.ownsRow_nil _ _ _ _, fun r h => absurd h (by simp)⟩⟩
   case round =>
    clear hb1 HI
    obtain ⟨wo, rfl⟩ : ∃ wo : World, wo = wr := ⟨_, rfl⟩
    obtain ⟨k, A, c, rs, rfl, hk, rfl, HST⟩ := hrel
    have hbo := HST.out.below
    by_cases hkl : k < g.length
    ·obtain ⟨ad', E, ce, had, hcw, hE⟩ := HL.out.at hkl
     injection had with had
     subst had
     have hpk := HP.out g[k] (List.getElem_mem _)
     rw [hpk.1] at hcw
     have s1 := keep_cell hbo hcw
     have s2 := keep_cell hbo HC0.out
     have q0 : (0 : Int) ≤ (k : Int) := by omega
     have q1 : (k : Int) < (g.length : Int) := by omega
     have q3 : ((k : Int)).toNat = k := by omega
     have HSK := Lib.hid (HSN.out k hkl)
     have HCK := Lib.hid (HCO.out k)
     have hlP := HCL.out k
     have hrl : rs.length ≤ 720 := by
      have := congrArg List.length HST.out.eq
      rw [List.length_map] at this
      omega
     have HIN : Hid (g[k] ∈ g) := Lib.hid (List.getElem_mem _)
     obtain ⟨v, hv⟩ : ∃ v : Bool, v = true ↔ Invo g[k] := by classical exact ⟨decide (Invo g[k]), decide_eq_true_iff⟩
     have HINV : Hid (∀ V, Below wo.heap.size wo V → Calls Tryz.prog 28 #[.slice E n ce] V fun e w' => e = .returned (.bool v) ∧ Below V.heap.size V w') := Lib.hid (fun V h => by
      have := rinvol_any E ce g[k] v V ((hE.keep hbo).keep h) (by have := hpk.1; omega) hv
      rwa [hpk.1] at this)
     have HVI : Hid (v = true ↔ g[k] ≠ unit n ∧ cmp g[k] g[k] = unit n) := Lib.hid (by
      rw [hv]
      unfold Invo
      rw [hpk.1]
      exact ⟨fun h => h.2.2, fun h => ⟨hn6, hpk, h⟩⟩)
     have HE := Lib.hid hE
     clear hv hE
     cases v with
     | false =>
       have HNX : Hid (invs n (g.take (k + 1)) = invs n (g.take k)) := Lib.hid (by
        rw [HSK.out, if_neg (fun h => by have := HVI.out.2 ⟨h.1, h.2.1⟩; cases this)])
       clear hpk
       go_upto_region 7 with (fail)
       have BZ : Below wo.heap.size wo wo.drew := (Below.refl _ _).drew
       refine wp_region_held_drew (S := (fun w' => w'.cell? (ad.add k) = some (.slice E n ce) ∧ w'.cell? ad = some (.slice E0 n ce0))) (by kernel_rfl) ⟨s1, s2⟩ (fun hHeld => ?_)
       generalize wo.drew = Z at *
       refine wpAnyH_get 0 (some 15) (.slice (some ad) g.length cL) rfl rfl (by kernel_rfl) (by kernel_rfl) (by kernel_rfl) (fun _ _ _ h => h) (by rfl) hHeld ?_ ?_
       ·(intro w hSw; (try dsimp only at hSw); go_simp; all_goals (try with_reducible rfl))
       (try simp only [Act.put, List.setIfInBounds_toArray, List.set_cons_zero, List.set_cons_succ])
       refine wpAnyH_get 1 (some 16) (.int .i64 k) rfl rfl (by kernel_rfl) (by kernel_rfl) (by kernel_rfl) (fun _ _ _ h => h) (by rfl) hHeld ?_ ?_
       ·(intro w hSw; (try dsimp only at hSw); go_simp; all_goals (try with_reducible rfl))
       (try simp only [Act.put, List.setIfInBounds_toArray, List.set_cons_zero, List.set_cons_succ])
       refine wpAnyH_get 2 (some 17) (.pointer (some (ad.add k))) rfl rfl (by kernel_rfl) (by kernel_rfl) (by kernel_rfl) (fun _ _ _ h => h) (by rfl) hHeld ?_ ?_
       ·(intro w hSw; (try dsimp only at hSw); go_simp; all_goals (try with_reducible rfl))
       (try simp only [Act.put, List.setIfInBounds_toArray, List.set_cons_zero, List.set_cons_succ])
       refine wpAnyH_get 3 (some 18) (.slice E n ce) rfl rfl (by kernel_rfl) (by kernel_rfl) (by kernel_rfl) (fun _ _ _ h => h) (by rfl) hHeld ?_ ?_
       ·(intro w hSw; (try dsimp only at hSw); go_simp; all_goals (try with_reducible rfl))
       (try simp only [Act.put, List.setIfInBounds_toArray, List.set_cons_zero, List.set_cons_succ])
       refine wpAnyH_ready (rs := [4]) (by kernel_rfl) (by simp) ?_
       refine AllReadyH.cons rfl (fun K hK => ?_) AllReadyH.nil
       go_simp
       refine (HINV.out _ BZ).mono ?_
       rintro e w4 ⟨rfl, hb1⟩
       (try go_simp)
       have BZ := below_all BZ hb1
       refine hK.out _ _ ⟨keep_cell BZ s1, keep_cell BZ s2⟩ (fun hHeld => ?_)
       clear hK K hb1
       (try simp only [Act.put, List.setIfInBounds_toArray, List.set_cons_zero, List.set_cons_succ])
       refine wpAnyH_get 5 (some 20) (.bool false) rfl rfl (by kernel_rfl) (by kernel_rfl) (by kernel_rfl) (fun _ _ _ h => h) (by rfl) hHeld ?_ ?_
       ·(intro w hSw; (try dsimp only at hSw); go_simp; all_goals (try with_reducible rfl))
       (try simp only [Act.put, List.setIfInBounds_toArray, List.set_cons_zero, List.set_cons_succ])
       refine wpAnyH_skip 6 (some 21) rfl rfl (by kernel_rfl) (by kernel_rfl) (by kernel_rfl) (fun _ _ _ h => h) (by rfl) hHeld ?_
       (try simp only [Act.put, List.setIfInBounds_toArray, List.set_cons_zero, List.set_cons_succ])
       refine wpAnyH_skip 7 (some 22) rfl rfl (by kernel_rfl) (by kernel_rfl) (by kernel_rfl) (fun _ _ _ h => h) (by rfl) hHeld ?_
       (try simp only [Act.put, List.setIfInBounds_toArray, List.set_cons_zero, List.set_cons_succ])
       refine wpAnyH_skip 8 (some 23) rfl rfl (by kernel_rfl) (by kernel_rfl) (by kernel_rfl) (fun _ _ _ h => h) (by rfl) hHeld ?_
       (try simp only [Act.put, List.setIfInBounds_toArray, List.set_cons_zero, List.set_cons_succ])
       refine wpAnyH_skip 9 (some 24) rfl rfl (by kernel_rfl) (by kernel_rfl) (by kernel_rfl) (fun _ _ _ h => h) (by rfl) hHeld ?_
       (try simp only [Act.put, List.setIfInBounds_toArray, List.set_cons_zero, List.set_cons_succ])
       refine wpAnyH_skip 10 (some 25) rfl rfl (by kernel_rfl) (by kernel_rfl) (by kernel_rfl) (fun _ _ _ h => h) (by rfl) hHeld ?_
       (try simp only [Act.put, List.setIfInBounds_toArray, List.set_cons_zero, List.set_cons_succ])
       refine wpAnyH_skip 11 (some 26) rfl rfl (by kernel_rfl) (by kernel_rfl) (by kernel_rfl) (fun _ _ _ h => h) (by rfl) hHeld ?_
       (try simp only [Act.put, List.setIfInBounds_toArray, List.set_cons_zero, List.set_cons_succ])
       refine wpAnyH_skip 12 (some 27) rfl rfl (by kernel_rfl) (by kernel_rfl) (by kernel_rfl) (fun _ _ _ h => h) (by rfl) hHeld ?_
       (try simp only [Act.put, List.setIfInBounds_toArray, List.set_cons_zero, List.set_cons_succ])
       refine wpAnyH_skip 13 (some 28) rfl rfl (by kernel_rfl) (by kernel_rfl) (by kernel_rfl) (fun _ _ _ h => h) (by rfl) hHeld ?_
       (try simp only [Act.put, List.setIfInBounds_toArray, List.set_cons_zero, List.set_cons_succ])
       refine wpAnyH_skip 14 (some 29) rfl rfl (by kernel_rfl) (by kernel_rfl) (by kernel_rfl) (fun _ _ _ h => h) (by rfl) hHeld ?_
       (try simp only [Act.put, List.setIfInBounds_toArray, List.set_cons_zero, List.set_cons_succ])
       refine wpAnyH_skip 15 (some 30) rfl rfl (by kernel_rfl) (by kernel_rfl) (by kernel_rfl) (fun _ _ _ h => h) (by rfl) hHeld ?_
       (try simp only [Act.put, List.setIfInBounds_toArray, List.set_cons_zero, List.set_cons_succ])
       refine wpAnyH_skip 16 (some 31) rfl rfl (by kernel_rfl) (by kernel_rfl) (by kernel_rfl) (fun _ _ _ h => h) (by rfl) hHeld ?_
       (try simp only [Act.put, List.setIfInBounds_toArray, List.set_cons_zero, List.set_cons_succ])
       refine wpAnyH_skip 17 (some 32) rfl rfl (by kernel_rfl) (by kernel_rfl) (by kernel_rfl) (fun _ _ _ h => h) (by rfl) hHeld ?_
       (try simp only [Act.put, List.setIfInBounds_toArray, List.set_cons_zero, List.set_cons_succ])
       refine wpAnyH_skip 18 (some 33) rfl rfl (by kernel_rfl) (by kernel_rfl) (by kernel_rfl) (fun _ _ _ h => h) (by rfl) hHeld ?_
       (try simp only [Act.put, List.setIfInBounds_toArray, List.set_cons_zero, List.set_cons_succ])
       refine wpAnyH_skip 19 (some 34) rfl rfl (by kernel_rfl) (by kernel_rfl) (by kernel_rfl) (fun _ _ _ h => h) (by rfl) hHeld ?_
       (try simp only [Act.put, List.setIfInBounds_toArray, List.set_cons_zero, List.set_cons_succ])
       refine wpAnyH_get 20 (some 35) (.bool false) rfl rfl (by kernel_rfl) (by kernel_rfl) (by kernel_rfl) (fun _ _ _ h => h) (by rfl) hHeld ?_ ?_
       ·(intro w hSw; (try dsimp only at hSw); go_simp; all_goals (try with_reducible rfl))
       (try simp only [Act.put, List.setIfInBounds_toArray, List.set_cons_zero, List.set_cons_succ])
       refine wpAnyH_done (by kernel_rfl) ?_ _
       go_wp2
       go_roundw
       case rel => exact ⟨k + 1, A, c, rs, by go_num, by omega, rfl, Lib.hid (by rw [HNX.out]; exact HST.out.keep BZ)⟩
       case measure => simp [intOf]; omega
     | true =>
       obtain ⟨q, hq⟩ : ∃ q : Bool, q = true ↔ Indep n (invs n (g.take k) ++ [g[k]]) := by classical exact ⟨decide (Indep n (invs n (g.take k) ++ [g[k]])), decide_eq_true_iff⟩
       have HQT : Hid (q = true ↔ Take n (invs n (g.take k)) g[k]) := Lib.hid (by
        rw [hq, ← HCK.out.iff HGR.out HP.out HR.out HIN.out (HVI.out.1 rfl).2]
        exact ⟨fun h => ⟨(HVI.out.1 rfl).1, (HVI.out.1 rfl).2, h⟩, fun h => h.2.2⟩)
       have HPP : Hid (∀ a ∈ invs n (g.take k) ++ [g[k]], Perm n a) := Lib.hid (fun a ha => by
        rcases List.mem_append.1 ha with h | h
        ·exact HCK.out.sub.perm a h
        ·rw [List.mem_singleton.1 h]; exact hpk)
       have HIND : Hid (∀ V O cO, Lists V O (invs n (g.take k) ++ [g[k]]) → Calls Tryz.prog 29 #[.slice O (rs.length + 1) cO, .int .i64 n] V fun e w' => e = .returned (.bool q) ∧ Below V.heap.size V w') := Lib.hid (fun V O cO h => by
        have := indep_any O cO n _ q V h HPP.out hn6 (by simp; omega) hq
        have hlen : (invs n (g.take k) ++ [g[k]]).length = rs.length + 1 := by
         have := congrArg List.length HST.out.eq
         rw [List.length_map] at this
         simp; omega
        rwa [hlen] at this)
       have HCR : Hid (cellR (E, ce, g[k]) = .slice E n ce) := Lib.hid (by simp [cellR, hpk.1])
       have HRI : Hid (∀ r ∈ rs ++ [(E, ce, g[k])], Ints w r.1 r.2.2) := Lib.hid (fun r hr => by
        rcases List.mem_append.1 hr with h | h
        ·exact HST.out.ints r h
        ·rw [List.mem_singleton.1 h]; exact HE.out)
       have HEQ : Hid ((rs ++ [(E, ce, g[k])]).map (fun r => r.2.2) = invs n (g.take k) ++ [g[k]]) := Lib.hid (by rw [List.map_append, HST.out.eq]; rfl)
       have hone : ∀ u ∈ rs.map cellR, u.oneCell' = true := fun u hu => by
        obtain ⟨r, _, rfl⟩ := List.mem_map.1 hu
        rfl
       have HONE := Lib.hid hone
       clear hq hpk hone
       generalize g[k] = x at *
       generalize invs n (g.take k) = P at *
       go_upto_region 7 with (fail)
       go_cut [35] (fun s35 wx => s35 = .bool q ∧ Below wo.heap.size wo wx)
       case first =>
        clear HSN HCO HCL HL HP HR HGR HSK HCK HIN HVI HQT HPP HRET HGG
        have BZ : Below wo.heap.size wo wo.drew := (Below.refl _ _).drew
        refine wp_region_held_drew (S := (fun w' => w'.cell? (ad.add k) = some (.slice E n ce) ∧ w'.cell? ad = some (.slice E0 n ce0))) (by kernel_rfl) ⟨s1, s2⟩ (fun hHeld => ?_)
        generalize wo.drew = Z at *
        refine wpAnyH_get 0 (some 15) (.slice (some ad) g.length cL) rfl rfl (by kernel_rfl) (by kernel_rfl) (by kernel_rfl) (fun _ _ _ h => h) (by rfl) hHeld ?_ ?_
        ·(intro w hSw; (try dsimp only at hSw); go_simp; all_goals (try with_reducible rfl))
        (try simp only [Act.put, List.setIfInBounds_toArray, List.set_cons_zero, List.set_cons_succ])
        refine wpAnyH_get 1 (some 16) (.int .i64 k) rfl rfl (by kernel_rfl) (by kernel_rfl) (by kernel_rfl) (fun _ _ _ h => h) (by rfl) hHeld ?_ ?_
        ·(intro w hSw; (try dsimp only at hSw); go_simp; all_goals (try with_reducible rfl))
        (try simp only [Act.put, List.setIfInBounds_toArray, List.set_cons_zero, List.set_cons_succ])
        refine wpAnyH_get 2 (some 17) (.pointer (some (ad.add k))) rfl rfl (by kernel_rfl) (by kernel_rfl) (by kernel_rfl) (fun _ _ _ h => h) (by rfl) hHeld ?_ ?_
        ·(intro w hSw; (try dsimp only at hSw); go_simp; all_goals (try with_reducible rfl))
        (try simp only [Act.put, List.setIfInBounds_toArray, List.set_cons_zero, List.set_cons_succ])
        refine wpAnyH_get 3 (some 18) (.slice E n ce) rfl rfl (by kernel_rfl) (by kernel_rfl) (by kernel_rfl) (fun _ _ _ h => h) (by rfl) hHeld ?_ ?_
        ·(intro w hSw; (try dsimp only at hSw); go_simp; all_goals (try with_reducible rfl))
        (try simp only [Act.put, List.setIfInBounds_toArray, List.set_cons_zero, List.set_cons_succ])
        refine wpAnyH_ready (rs := [4]) (by kernel_rfl) (by simp) ?_
        refine AllReadyH.cons rfl (fun K hK => ?_) AllReadyH.nil
        go_simp
        refine (HINV.out _ BZ).mono ?_
        rintro e Z1 ⟨rfl, hb1⟩
        (try go_simp)
        have BZ1 := below_all BZ hb1
        refine hK.out _ _ ⟨keep_cell BZ1 s1, keep_cell BZ1 s2⟩ (fun hHeld => ?_)
        clear hK K hb1
        (try simp only [Act.put, List.setIfInBounds_toArray, List.set_cons_zero, List.set_cons_succ])
        refine wpAnyH_get 5 (some 20) (.bool true) rfl rfl (by kernel_rfl) (by kernel_rfl) (by kernel_rfl) (fun _ _ _ h => h) (by rfl) hHeld ?_ ?_
        ·(intro w hSw; (try dsimp only at hSw); go_simp; all_goals (try with_reducible rfl))
        (try simp only [Act.put, List.setIfInBounds_toArray, List.set_cons_zero, List.set_cons_succ])
        refine wpAnyH_get 7 (some 22) (.slice A rs.length c) rfl rfl (by kernel_rfl) (by kernel_rfl) (by kernel_rfl) (fun _ _ _ h => h) (by rfl) hHeld ?_ ?_
        ·(intro w hSw; (try dsimp only at hSw); go_simp; all_goals (try with_reducible rfl))
        (try simp only [Act.put, List.setIfInBounds_toArray, List.set_cons_zero, List.set_cons_succ])
        refine wpAnyH_get 9 (some 24) (.slice (some ad) g.length cL) rfl rfl (by kernel_rfl) (by kernel_rfl) (by kernel_rfl) (fun _ _ _ h => h) (by rfl) hHeld ?_ ?_
        ·(intro w hSw; (try dsimp only at hSw); go_simp; all_goals (try with_reducible rfl))
        (try simp only [Act.put, List.setIfInBounds_toArray, List.set_cons_zero, List.set_cons_succ])
        refine wpAnyH_get 10 (some 25) (.int .i64 k) rfl rfl (by kernel_rfl) (by kernel_rfl) (by kernel_rfl) (fun _ _ _ h => h) (by rfl) hHeld ?_ ?_
        ·(intro w hSw; (try dsimp only at hSw); go_simp; all_goals (try with_reducible rfl))
        (try simp only [Act.put, List.setIfInBounds_toArray, List.set_cons_zero, List.set_cons_succ])
        refine wpAnyH_get 11 (some 26) (.pointer (some (ad.add k))) rfl rfl (by kernel_rfl) (by kernel_rfl) (by kernel_rfl) (fun _ _ _ h => h) (by rfl) hHeld ?_ ?_
        ·(intro w hSw; (try dsimp only at hSw); go_simp; all_goals (try with_reducible rfl))
        (try simp only [Act.put, List.setIfInBounds_toArray, List.set_cons_zero, List.set_cons_succ])
        refine wpAnyH_get 12 (some 27) (.slice E n ce) rfl rfl (by kernel_rfl) (by kernel_rfl) (by kernel_rfl) (fun _ _ _ h => h) (by rfl) hHeld ?_ ?_
        ·(intro w hSw; (try dsimp only at hSw); go_simp; all_goals (try with_reducible rfl))
        (try simp only [Act.put, List.setIfInBounds_toArray, List.set_cons_zero, List.set_cons_succ])
        refine wpAnyH_get 15 (some 30) (.slice (some ad) g.length cL) rfl rfl (by kernel_rfl) (by kernel_rfl) (by kernel_rfl) (fun _ _ _ h => h) (by rfl) hHeld ?_ ?_
        ·(intro w hSw; (try dsimp only at hSw); go_simp; all_goals (try with_reducible rfl))
        (try simp only [Act.put, List.setIfInBounds_toArray, List.set_cons_zero, List.set_cons_succ])
        refine wpAnyH_get 16 (some 31) (.pointer (some ad)) rfl rfl (by kernel_rfl) (by kernel_rfl) (by kernel_rfl) (fun _ _ _ h => h) (by rfl) hHeld ?_ ?_
        ·(intro w hSw; (try dsimp only at hSw); go_simp; all_goals (try with_reducible rfl))
        (try simp only [Act.put, List.setIfInBounds_toArray, List.set_cons_zero, List.set_cons_succ])
        refine wpAnyH_get 17 (some 32) (.slice E0 n ce0) rfl rfl (by kernel_rfl) (by kernel_rfl) (by kernel_rfl) (fun _ _ _ h => h) (by rfl) hHeld ?_ ?_
        ·(intro w hSw; (try dsimp only at hSw); go_simp; all_goals (try with_reducible rfl))
        (try simp only [Act.put, List.setIfInBounds_toArray, List.set_cons_zero, List.set_cons_succ])
        refine wpAnyH_get 18 (some 33) (.int .i64 n) rfl rfl (by kernel_rfl) (by kernel_rfl) (by kernel_rfl) (fun _ _ _ h => h) (by rfl) hHeld ?_ ?_
        ·(intro w hSw; (try dsimp only at hSw); go_simp; all_goals (try with_reducible rfl))
        (try simp only [Act.put, List.setIfInBounds_toArray, List.set_cons_zero, List.set_cons_succ])
        refine wpAnyH_ready (rs := [6, 13]) (by kernel_rfl) (by simp) ?_
        refine AllReadyH.cons rfl (fun K hK => ?_) (AllReadyH.cons rfl (fun K hK => ?_) AllReadyH.nil)
        ·go_simp
         have hba : Below Z1.heap.size Z1 (Z1.alloc (.cells #[] 22)) := (Below.refl _ _).alloc (Nat.le_refl _) _
         have BZ2 := below_all BZ1 hba
         have Q6 := Que.of_blk (base := wo.heap.size) (xs := []) (Blk.new Z1 22 #[]) BZ1.size (by simp [maxLen])
         refine hK.out _ _ ⟨keep_cell BZ2 s1, keep_cell BZ2 s2⟩ (fun hHeld => ?_)
         clear hK K hba
         (try simp only [Act.put, List.setIfInBounds_toArray, List.set_cons_zero, List.set_cons_succ])
         generalize Z1.alloc (.cells #[] 22) = Z2 at *
         generalize Z1.heap.size = g6 at *
         (try simp only [Act.put, List.setIfInBounds_toArray, List.set_cons_zero, List.set_cons_succ])
         refine wpAnyH_ready (rs := [8, 13]) (by kernel_rfl) (by simp) ?_
         refine AllReadyH.cons rfl (fun K hK => ?_) (AllReadyH.cons rfl (fun K hK => ?_) AllReadyH.nil)
         ·have hSl := Sl.own (own_below HST.out.own BZ2 (Nat.le_refl _))
          refine step_que_appends _ (.inr ⟨_, _, rfl, by rfl⟩) _ _ 23 (by rfl) wo.heap.size 22 j0 (.slice none 0 0) 24 Tryz.underlying23 hj0 hjz0 hjz1 hjz2 rfl (.slice (some ⟨g6, 0, none⟩) 0 0) [] (by simp [Act.eval]) Q6 (.slice A rs.length c) rs.length (rs.map cellR) (by simp [Act.eval]) (src_sl Tryz.underlying23 hSl HONE.out) (by simp [maxLen]; omega) (by simp; omega) BZ2.size ?_
          intro v8 Z3 Q8 hg8 _
          have BZ3 := BZ2.grown hg8 BZ2.size (fun q hq => by
           obtain ⟨_, h1, h2, _⟩ := Q6.blk
           have h3 := h1.symm.trans hq
           injection h3 with h3
           omega)
          refine hK.out _ _ ⟨keep_cell BZ3 s1, keep_cell BZ3 s2⟩ (fun hHeld => ?_)
          clear hK K hSl
          (try simp only [Act.put, List.setIfInBounds_toArray, List.set_cons_zero, List.set_cons_succ])
          refine wpAnyH_ready (rs := [13]) (by kernel_rfl) (by simp) ?_
          refine AllReadyH.cons rfl (fun K hK => ?_) AllReadyH.nil
          go_simp
          have hba : Below Z3.heap.size Z3 (Z3.alloc (.cells #[.slice E n ce] 22)) := (Below.refl _ _).alloc (Nat.le_refl _) _
          have BZ4 := below_all BZ3 hba
          have Q8 := Q8.below hba
          have G13 := Blk.new Z3 22 #[.slice E n ce]
          refine hK.out _ _ ⟨keep_cell BZ4 s1, keep_cell BZ4 s2⟩ (fun hHeld => ?_)
          clear hK K hba
          (try simp only [Act.put, List.setIfInBounds_toArray, List.set_cons_zero, List.set_cons_succ])
          generalize Z3.alloc (.cells #[.slice E n ce] 22) = Z4 at *
          generalize Z3.heap.size = g13 at *
          (try simp only [Act.put, List.setIfInBounds_toArray, List.set_cons_zero, List.set_cons_succ])
          refine wpAnyH_ready (rs := [14]) (by kernel_rfl) (by simp) ?_
          refine AllReadyH.cons rfl (fun K hK => ?_) AllReadyH.nil
          obtain ⟨od8, c8, hv8, _⟩ := Q8.sl
          refine step_que_appends _ (.inr ⟨_, _, rfl, by rfl⟩) _ _ 23 (by rfl) wo.heap.size 22 j0 (.slice none 0 0) 24 Tryz.underlying23 hj0 hjz0 hjz1 hjz2 rfl v8 ([] ++ rs.map cellR) (by simp [Act.eval]) Q8 (.slice (some ⟨g13, 0, none⟩) 1 1) 1 [.slice E n ce] (by simp [Act.eval]) (src_sl Tryz.underlying23 (sl_blk1 G13) (by simp [Value.oneCell'])) (by simp [maxLen]; omega) (by simp; omega) BZ4.size ?_
          intro v14 Z5 Q14 hg14 _
          have BZ5 := BZ4.grown hg14 BZ4.size (fun q hq => by
           obtain ⟨_, h1, h2, _⟩ := Q8.blk
           have h3 := h1.symm.trans hq
           injection h3 with h3
           omega)
          refine hK.out _ _ ⟨keep_cell BZ5 s1, keep_cell BZ5 s2⟩ (fun hHeld => ?_)
          clear hK K hv8
          (try simp only [Act.put, List.setIfInBounds_toArray, List.set_cons_zero, List.set_cons_succ])
          refine wpAnyH_ready (rs := [19]) (by kernel_rfl) (by simp) ?_
          refine AllReadyH.cons rfl (fun K hK => ?_) AllReadyH.nil
          obtain ⟨od, cq, hv14, hSl14, _⟩ := Q14.sl
          have hLs := rows_of_sl hSl14 HRI.out HCR.out (below_all hbo BZ5) HEQ.out
          subst hv14
          go_simp
          refine (HIND.out _ _ _ hLs).mono ?_
          rintro e Z6 ⟨rfl, hb2⟩
          (try go_simp)
          have BZ6 := below_all BZ5 hb2
          refine hK.out _ _ ⟨keep_cell BZ6 s1, keep_cell BZ6 s2⟩ (fun hHeld => ?_)
          clear hK K hb2
          (try simp only [Act.put, List.setIfInBounds_toArray, List.set_cons_zero, List.set_cons_succ])
          refine wpAnyH_get 20 (some 35) (.bool q) rfl rfl (by kernel_rfl) (by kernel_rfl) (by kernel_rfl) (fun _ _ _ h => h) (by rfl) hHeld ?_ ?_
          ·(intro w hSw; (try dsimp only at hSw); go_simp; all_goals (try with_reducible rfl))
          (try simp only [Act.put, List.setIfInBounds_toArray, List.set_cons_zero, List.set_cons_succ])
          refine wpAnyH_done (by kernel_rfl) ?_ _
          go_wp2
          go_meet
          exact ⟨rfl, BZ6⟩
         ·go_simp
          have hne613 : Z2.heap.size ≠ g6 := by
           obtain ⟨_, h1, _, h3⟩ := Q6.blk
           injection h1 with h1
           change g6 = _ at h1
           omega
          have hba : Below Z2.heap.size Z2 (Z2.alloc (.cells #[.slice E n ce] 22)) := (Below.refl _ _).alloc (Nat.le_refl _) _
          have BZ7 := below_all BZ2 hba
          have Q6 := Q6.below hba
          have G13 := Blk.new Z2 22 #[.slice E n ce]
          refine hK.out _ _ ⟨keep_cell BZ7 s1, keep_cell BZ7 s2⟩ (fun hHeld => ?_)
          clear hK K hba
          (try simp only [Act.put, List.setIfInBounds_toArray, List.set_cons_zero, List.set_cons_succ])
          generalize Z2.alloc (.cells #[.slice E n ce] 22) = Z7 at *
          generalize Z2.heap.size = g13 at *
          (try simp only [Act.put, List.setIfInBounds_toArray, List.set_cons_zero, List.set_cons_succ])
          refine wpAnyH_ready (rs := [8]) (by kernel_rfl) (by simp) ?_
          refine AllReadyH.cons rfl (fun K hK => ?_) AllReadyH.nil
          have hSl := Sl.own (own_below HST.out.own BZ7 (Nat.le_refl _))
          refine step_que_appends _ (.inr ⟨_, _, rfl, by rfl⟩) _ _ 23 (by rfl) wo.heap.size 22 j0 (.slice none 0 0) 24 Tryz.underlying23 hj0 hjz0 hjz1 hjz2 rfl (.slice (some ⟨g6, 0, none⟩) 0 0) [] (by simp [Act.eval]) Q6 (.slice A rs.length c) rs.length (rs.map cellR) (by simp [Act.eval]) (src_sl Tryz.underlying23 hSl HONE.out) (by simp [maxLen]; omega) (by simp; omega) BZ7.size ?_
          intro v8 Z8 Q8 hg8 _
          have BZ8 := BZ7.grown hg8 BZ7.size (fun q hq => by
           obtain ⟨_, h1, h2, _⟩ := Q6.blk
           have h3 := h1.symm.trans hq
           injection h3 with h3
           omega)
          have G13 := G13.grown hg8 (by simpa [Value.ownBlock] using hne613)
          refine hK.out _ _ ⟨keep_cell BZ8 s1, keep_cell BZ8 s2⟩ (fun hHeld => ?_)
          clear hK K hSl
          (try simp only [Act.put, List.setIfInBounds_toArray, List.set_cons_zero, List.set_cons_succ])
          refine wpAnyH_ready (rs := [14]) (by kernel_rfl) (by simp) ?_
          refine AllReadyH.cons rfl (fun K hK => ?_) AllReadyH.nil
          obtain ⟨od8, c8, hv8, _⟩ := Q8.sl
          refine step_que_appends _ (.inr ⟨_, _, rfl, by rfl⟩) _ _ 23 (by rfl) wo.heap.size 22 j0 (.slice none 0 0) 24 Tryz.underlying23 hj0 hjz0 hjz1 hjz2 rfl v8 ([] ++ rs.map cellR) (by simp [Act.eval]) Q8 (.slice (some ⟨g13, 0, none⟩) 1 1) 1 [.slice E n ce] (by simp [Act.eval]) (src_sl Tryz.underlying23 (sl_blk1 G13) (by simp [Value.oneCell'])) (by simp [maxLen]; omega) (by simp; omega) BZ8.size ?_
          intro v14 Z9 Q14 hg14 _
          have BZ9 := BZ8.grown hg14 BZ8.size (fun q hq => by
           obtain ⟨_, h1, h2, _⟩ := Q8.blk
           have h3 := h1.symm.trans hq
           injection h3 with h3
           omega)
          refine hK.out _ _ ⟨keep_cell BZ9 s1, keep_cell BZ9 s2⟩ (fun hHeld => ?_)
          clear hK K hv8
          (try simp only [Act.put, List.setIfInBounds_toArray, List.set_cons_zero, List.set_cons_succ])
          refine wpAnyH_ready (rs := [19]) (by kernel_rfl) (by simp) ?_
          refine AllReadyH.cons rfl (fun K hK => ?_) AllReadyH.nil
          obtain ⟨od, cq, hv14, hSl14, _⟩ := Q14.sl
          have hLs := rows_of_sl hSl14 HRI.out HCR.out (below_all hbo BZ9) HEQ.out
          subst hv14
          go_simp
          refine (HIND.out _ _ _ hLs).mono ?_
          rintro e Z10 ⟨rfl, hb2⟩
          (try go_simp)
          have BZ10 := below_all BZ9 hb2
          refine hK.out _ _ ⟨keep_cell BZ10 s1, keep_cell BZ10 s2⟩ (fun hHeld => ?_)
          clear hK K hb2
          (try simp only [Act.put, List.setIfInBounds_toArray, List.set_cons_zero, List.set_cons_succ])
          refine wpAnyH_get 20 (some 35) (.bool q) rfl rfl (by kernel_rfl) (by kernel_rfl) (by kernel_rfl) (fun _ _ _ h => h) (by rfl) hHeld ?_ ?_
          ·(intro w hSw; (try dsimp only at hSw); go_simp; all_goals (try with_reducible rfl))
          (try simp only [Act.put, List.setIfInBounds_toArray, List.set_cons_zero, List.set_cons_succ])
          refine wpAnyH_done (by kernel_rfl) ?_ _
          go_wp2
          go_meet
          exact ⟨rfl, BZ10⟩
        ·go_simp
         have hba : Below Z1.heap.size Z1 (Z1.alloc (.cells #[.slice E n ce] 22)) := (Below.refl _ _).alloc (Nat.le_refl _) _
         have BZ11 := below_all BZ1 hba
         have G13 := Blk.new Z1 22 #[.slice E n ce]
         refine hK.out _ _ ⟨keep_cell BZ11 s1, keep_cell BZ11 s2⟩ (fun hHeld => ?_)
         clear hK K hba
         (try simp only [Act.put, List.setIfInBounds_toArray, List.set_cons_zero, List.set_cons_succ])
         generalize Z1.alloc (.cells #[.slice E n ce] 22) = Z11 at *
         generalize Z1.heap.size = g13 at *
         (try simp only [Act.put, List.setIfInBounds_toArray, List.set_cons_zero, List.set_cons_succ])
         refine wpAnyH_ready (rs := [6]) (by kernel_rfl) (by simp) ?_
         refine AllReadyH.cons rfl (fun K hK => ?_) AllReadyH.nil
         go_simp
         have hne613 : g13 ≠ Z11.heap.size := by have := G13.lt; omega
         have hba : Below Z11.heap.size Z11 (Z11.alloc (.cells #[] 22)) := (Below.refl _ _).alloc (Nat.le_refl _) _
         have BZ12 := below_all BZ11 hba
         have G13 := G13.keep hba G13.lt
         have Q6 := Que.of_blk (base := wo.heap.size) (xs := []) (Blk.new Z11 22 #[]) BZ11.size (by simp [maxLen])
         refine hK.out _ _ ⟨keep_cell BZ12 s1, keep_cell BZ12 s2⟩ (fun hHeld => ?_)
         clear hK K hba
         (try simp only [Act.put, List.setIfInBounds_toArray, List.set_cons_zero, List.set_cons_succ])
         generalize Z11.alloc (.cells #[] 22) = Z12 at *
         generalize Z11.heap.size = g6 at *
         (try simp only [Act.put, List.setIfInBounds_toArray, List.set_cons_zero, List.set_cons_succ])
         refine wpAnyH_ready (rs := [8]) (by kernel_rfl) (by simp) ?_
         refine AllReadyH.cons rfl (fun K hK => ?_) AllReadyH.nil
         have hSl := Sl.own (own_below HST.out.own BZ12 (Nat.le_refl _))
         refine step_que_appends _ (.inr ⟨_, _, rfl, by rfl⟩) _ _ 23 (by rfl) wo.heap.size 22 j0 (.slice none 0 0) 24 Tryz.underlying23 hj0 hjz0 hjz1 hjz2 rfl (.slice (some ⟨g6, 0, none⟩) 0 0) [] (by simp [Act.eval]) Q6 (.slice A rs.length c) rs.length (rs.map cellR) (by simp [Act.eval]) (src_sl Tryz.underlying23 hSl HONE.out) (by simp [maxLen]; omega) (by simp; omega) BZ12.size ?_
         intro v8 Z13 Q8 hg8 _
         have BZ13 := BZ12.grown hg8 BZ12.size (fun q hq => by
          obtain ⟨_, h1, h2, _⟩ := Q6.blk
          have h3 := h1.symm.trans hq
          injection h3 with h3
          omega)
         have G13 := G13.grown hg8 (by simpa [Value.ownBlock] using hne613)
         refine hK.out _ _ ⟨keep_cell BZ13 s1, keep_cell BZ13 s2⟩ (fun hHeld => ?_)
         clear hK K hSl
         (try simp only [Act.put, List.setIfInBounds_toArray, List.set_cons_zero, List.set_cons_succ])
         refine wpAnyH_ready (rs := [14]) (by kernel_rfl) (by simp) ?_
         refine AllReadyH.cons rfl (fun K hK => ?_) AllReadyH.nil
         obtain ⟨od8, c8, hv8, _⟩ := Q8.sl
         refine step_que_appends _ (.inr ⟨_, _, rfl, by rfl⟩) _ _ 23 (by rfl) wo.heap.size 22 j0 (.slice none 0 0) 24 Tryz.underlying23 hj0 hjz0 hjz1 hjz2 rfl v8 ([] ++ rs.map cellR) (by simp [Act.eval]) Q8 (.slice (some ⟨g13, 0, none⟩) 1 1) 1 [.slice E n ce] (by simp [Act.eval]) (src_sl Tryz.underlying23 (sl_blk1 G13) (by simp [Value.oneCell'])) (by simp [maxLen]; omega) (by simp; omega) BZ13.size ?_
         intro v14 Z14 Q14 hg14 _
         have BZ14 := BZ13.grown hg14 BZ13.size (fun q hq => by
          obtain ⟨_, h1, h2, _⟩ := Q8.blk
          have h3 := h1.symm.trans hq
          injection h3 with h3
          omega)
         refine hK.out _ _ ⟨keep_cell BZ14 s1, keep_cell BZ14 s2⟩ (fun hHeld => ?_)
         clear hK K hv8
         (try simp only [Act.put, List.setIfInBounds_toArray, List.set_cons_zero, List.set_cons_succ])
         refine wpAnyH_ready (rs := [19]) (by kernel_rfl) (by simp) ?_
         refine AllReadyH.cons rfl (fun K hK => ?_) AllReadyH.nil
         obtain ⟨od, cq, hv14, hSl14, _⟩ := Q14.sl
         have hLs := rows_of_sl hSl14 HRI.out HCR.out (below_all hbo BZ14) HEQ.out
         subst hv14
         go_simp
         refine (HIND.out _ _ _ hLs).mono ?_
         rintro e Z15 ⟨rfl, hb2⟩
         (try go_simp)
         have BZ15 := below_all BZ14 hb2
         refine hK.out _ _ ⟨keep_cell BZ15 s1, keep_cell BZ15 s2⟩ (fun hHeld => ?_)
         clear hK K hb2
         (try simp only [Act.put, List.setIfInBounds_toArray, List.set_cons_zero, List.set_cons_succ])
         refine wpAnyH_get 20 (some 35) (.bool q) rfl rfl (by kernel_rfl) (by kernel_rfl) (by kernel_rfl) (fun _ _ _ h => h) (by rfl) hHeld ?_ ?_
         ·(intro w hSw; (try dsimp only at hSw); go_simp; all_goals (try with_reducible rfl))
         (try simp only [Act.put, List.setIfInBounds_toArray, List.set_cons_zero, List.set_cons_succ])
         refine wpAnyH_done (by kernel_rfl) ?_ _
         go_wp2
         go_meet
         exact ⟨rfl, BZ15⟩
       case rest =>
        obtain ⟨rfl, hbx⟩ := hcut
        obtain ⟨wx, rfl⟩ : ∃ wx : World, wx = wc := ⟨_, rfl⟩
        have s1 := keep_cell hbx s1
        have HSX := Lib.hid (HST.out.keep hbx)
        have hbX := below_all hbo hbx
        cases q with
        | false =>
          have HNX : Hid (invs n (g.take (k + 1)) = P) := Lib.hid (by
           rw [HSK.out, if_neg (fun h => by have := HQT.out.2 h; cases this)])
          go_wp2
          go_roundw
          case rel => exact ⟨k + 1, A, c, rs, by go_num, by omega, rfl, Lib.hid (by rw [HNX.out]; exact HSX.out)⟩
          case measure => simp [intOf]; omega
        | true =>
          have HNX : Hid (invs n (g.take (k + 1)) = P ++ [x]) := Lib.hid (by rw [HSK.out, if_pos (HQT.out.1 rfl)])
          go_wp2_with (at_builtin
                       have hown4 := HSX.out.own
                       refine wpList_append_own _ rfl _ _ 23 rfl w.heap.size 22 j0 (.slice none 0 0) 1 24 Tryz.underlying23 hj0 hjz0 hjz1 hjz2 rfl (by decide) (.slice A rs.length c) rs.length (rs.map cellR) rfl (hown4.alloc _) ⟨wx.heap.size, 0, none⟩ 1 1 [.slice E n ce] rfl rfl (cell_one_new _ _ _) (by simp [Value.oneCell']) (by simp only [maxLen]; omega) (by omega) (by have := hbX.size; simp; omega) ?_
                       intro v' w5 hown5 hg5 _
                       obtain ⟨A5, c5, hv5, _, _⟩ := Sl.of_own hown5
                       subst hv5
                       have hb5 := (hbX.alloc hbX.size (.cells #[.slice E n ce] 22)).grown hg5 (by have := hbX.size; simp; omega) (fun j hj => (hown4.lt j hj).1)
                       have hown6 : w5.ownsRow w.heap.size 22 1 (.slice A5 (rs ++ [(E, ce, x)]).length c5) (rs ++ [(E, ce, x)]).length ((rs ++ [(E, ce, x)]).map cellR) := by
                        rw [List.length_append, List.map_append, List.map_singleton, HCR.out]; exact hown5)
          go_roundw
          case rel => exact ⟨k + 1, A5, c5, rs ++ [(E, ce, x)], by go_num, by omega, by simp, Lib.hid ⟨hb5, by rw [HNX.out]; exact HEQ.out, hown6, HRI.out⟩⟩
          case measure => simp [intOf]; omega
    ·obtain rfl : k = g.length := by omega
     rw [List.take_length] at HST
     have hLs := rows_lists (c := c) (Sl.own HST.out.own) (fun r hr => .inl (HST.out.ints r hr) : RowsK w wo w.heap.size rs) hbo
     rw [HST.out.eq] at hLs
     have hlen : rs.length = (invs n g).length := by rw [← HST.out.eq, List.length_map]
     have HF : Hid (∃ A' c', Value.slice A rs.length c = .slice A' (invs n g).length c' ∧ Lists wo A' (invs n g)) := Lib.hid ⟨A, c, by rw [hlen], hLs⟩
     have dk : decide ((g.length : Int) < (g.length : Int)) = false := by simp
     clear hLs hlen
     go_wp2
     go_ret2
     obtain ⟨A', c', h1, h2⟩ := HF.out
     exact ⟨hbo, .inr ⟨HRET.out, A', c', (by rw [← h1]; rfl), h2⟩⟩
  ·have HI := Lib.hid (gp_risgroup L cL g false w hL hl hll (Iff.intro (fun h => by cases h) (fun h => absurd h hG)))
   have HNG := Lib.hid hG
   clear hL hll hr hG
   go_enter Tryz.func10, Tryz.ntmps10
   go_wp2_with (go_at_call 27; refine HI.out.mono ?_; rintro e w1 ⟨rfl, hb1⟩)
   go_ret2
   exact ⟨hb1, .inl ⟨HNG.out, rfl⟩⟩
end Go.Proofs.Tg.Gp
end
