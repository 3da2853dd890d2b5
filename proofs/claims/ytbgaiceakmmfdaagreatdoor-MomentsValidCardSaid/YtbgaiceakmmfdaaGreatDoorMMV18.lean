/- Parts of the proof: IM8, IM9, IM10. -/
import Derived.Test.YtbgaiceakmmfdaaGreatDoorMMV9
import Derived.Test.YtbgaiceakmmfdaaGreatDoorMMV17
section
/- Walks: the program's words: a shift to the right by less than a word. -/
namespace Go.Proofs.Tg.Iw
open Go.RowKit Go.Bw Go.Gr Go.Proofs.Tg
set_option maxHeartbeats 4000000
set_option maxRecDepth 100000
structure ShR (w0 : World) (g n : Nat) (D : List Nat) (wr : World) (i : Nat) : Prop where
  blk : Blk wr g 118 (warr (D.take i ++ List.replicate (n - i) 0))
  below : Below w0.heap.size w0 wr
theorem shr_list {D : List Nat} {n i d : Nat} (hl : D.length = n) (hi : i < n) (hd : D[i]? = some d) : (D.take i ++ List.replicate (n - i) 0).set i d = D.take (i + 1) ++ List.replicate (n - (i + 1)) 0 := by
 obtain ⟨m, hm⟩ : ∃ m, n - i = m + 1 := ⟨n - i - 1, by omega⟩
 have h1 : (D.take i).length = i := by rw [List.length_take]; omega
 have hi2 : i < D.length := by omega
 have e : D[i] = d := by
  rw [List.getElem?_eq_getElem hi2] at hd
  injection hd
 rw [List.set_append_right _ _ (by omega), h1, Nat.sub_self, hm, List.replicate_succ, List.set_cons_zero, show n - (i + 1) = m by omega, List.take_succ_eq_append_getElem hi2, e, List.append_assoc]
 rfl
theorem shr_w (X : Option Addr) (cx a s : Nat) (w : World) (hX : NW w X cx a) (hs : s < 64) (hn : (dg a).length ≤ 500000) :
    Calls Tryz.prog 131 #[.slice X (dg a).length cx, .int .u64 (s : Nat)] w (RetW (a / 2 ^ s) w) := by
  obtain ⟨Q, hQ⟩ : ∃ Q, RetW (a / 2 ^ s) w = Q := ⟨_, rfl⟩
  have HX := Lib.hid hX
  have s1 : (s : Int) / 64 = 0 := by omega
  have s2 : (s : Int) % 64 = (s : Int) := by omega
  have s3 : (s : Int).tdiv 64 = 0 := by rw [Int.tdiv_eq_ediv_of_nonneg (by omega)]; exact s1
  have s4 : (s : Int).tmod 64 = (s : Int) := by rw [Int.tmod_eq_emod_of_nonneg (by omega)]; exact s2
  by_cases h0 : (dg a).length = 0
  ·have HRET : Hid (Q (.returned (.slice none 0 0)) w) := Lib.hid (by
    have := len_zero h0
    subst this
    rw [← hQ, Nat.zero_div]
    refine ⟨none, 0, ?_, NW.zero _ _ _, Below.refl _ _⟩
    rw [dg_zero]; rfl)
   rw [hQ, h0]
   have w0 : IntKind.u64.wrap (((0 : Nat) : Int)) = 0 := rfl
   clear hQ hX h0
   go_enter Tryz.func131, Tryz.ntmps131
   go_wp2
   exact HRET.out
  ·have HRET : Hid (∀ zs w', zs.length = (dg a).length → Dig zs → val zs = a / 2 ^ s → Sets w' (some ⟨w.heap.size, 0, none⟩) zs → Below w.heap.size w w' → Calls Tryz.prog 88 #[.slice (some ⟨w.heap.size, 0, none⟩) (dg a).length (dg a).length] w' fun e w'' => Q e w'' ∧ ∃ v, e = .returned v) := Lib.hid (fun zs w' h1 h2 h3 h4 h5 => by
    have := trim_n (some ⟨w.heap.size, 0, none⟩) (dg a).length zs w' h4 h2 (by omega) (by omega)
    rw [h1, h3] at this
    refine this.mono ?_
    rintro e w'' ⟨rfl, rfl, hN⟩
    exact ⟨by rw [← hQ]; exact ⟨_, _, rfl, hN, h5⟩, _, rfl⟩)
   have hmk := make_words (dg a).length (by omega) w
   have hwr : IntKind.u64.wrap ((dg a).length : Int) = ((dg a).length : Int) := Go.Proofs.Mul64.wrapN _ (by omega)
   have z1 : decide (((dg a).length : Int) ≤ 0) = false := decide_eq_false (by omega)
   have z2 : decide ((dg a).length ≤ 0) = false := decide_eq_false (by omega)
   have z3 : ((dg a).length = 0) = False := eq_false h0
   have z4 : decide ((dg a).length = 0) = false := decide_eq_false h0
   obtain ⟨W, hW⟩ : ∃ W, w.alloc (.cells (madeCells #[.int .u64 0] (dg a).length) 118) = W := ⟨_, rfl⟩
   have H0 : Hid (ShR w w.heap.size (dg a).length (shrD s (dg a)) W 0) := Lib.hid (by
    refine ⟨?_, ?_⟩
    ·rw [← hW, List.take_zero, List.nil_append, Nat.sub_zero, ← warr_made]; exact Blk.new _ _ _
    ·rw [← hW]; exact (Below.refl _ _).alloc (Nat.le_refl _) _)
   rw [hW] at hmk
   have HVA : Hid (val (shrD s (dg a)) = a / 2 ^ s) := Lib.hid (by rw [shrD_val hs, val_dg])
   have HDA := Lib.hid (dg_dig a)
   have HDD := Lib.hid (shrD_dig hs (dg_dig a))
   have HWD := Lib.hid hX.wds
   rw [hQ]
   obtain ⟨n, hnn⟩ : ∃ n, (dg a).length = n := ⟨_, rfl⟩
   have HNN := Lib.hid hnn
   have HDL : Hid ((shrD s (dg a)).length = n) := Lib.hid (by rw [shrD_len, hnn])
   rw [hnn] at hn z1 z2 z3 z4 HRET hmk hwr H0 ⊢
   clear hQ hX hW h0 hnn HX
   generalize dg a = xs at *
   have HAT := Lib.hid (fun i x (h : xs[i]? = some x) => shrD_at (k := s) h)
   generalize shrD s xs = D at *
   go_enter Tryz.func131, Tryz.ntmps131
   go_wp2
   clear hmk
   go_loopw [27] (fun s27 wr => ∃ i : Nat, s27 = .int .i64 i ∧ i ≤ n ∧ Hid (ShR w w.heap.size n D wr i)) (fun s27 _ => n - (intOf s27).toNat)
   case atStart => exact ⟨0, rfl, Nat.zero_le _, H0⟩
   case round =>
    clear H0
    obtain ⟨wo, rfl⟩ : ∃ wo : World, wo = wr := ⟨_, rfl⟩
    obtain ⟨i, rfl, hi, HS⟩ := hrel
    by_cases hin : i < n
    ·have hix : i < xs.length := by rw [HNN.out]; exact hin
     obtain ⟨ad, hX2, hcx⟩ := Sets.at' (Sl.keep HWD.out HS.out.below) hix
     subst hX2
     have hablt : ad.block < w.heap.size := by
      obtain ⟨ad', e, h, _⟩ := Sl.lies HWD.out (show 0 < xs.length by omega)
      injection e with e
      subst e
      exact h
     have hxB := HDA.out xs[i] (List.getElem_mem _)
     have c0 := HS.out.blk.cell i
     have f0 := HS.out.blk.frozen i
     have e0 : (D.take i ++ List.replicate (n - i) 0)[i]? = some 0 := by
      obtain ⟨m, hm⟩ : ∃ m, n - i = m + 1 := ⟨n - i - 1, by omega⟩
      rw [List.getElem?_append_right (by rw [List.length_take]; omega), List.length_take, HDL.out, Nat.min_eq_left hi, Nat.sub_self, hm, List.replicate_succ]; rfl
     rw [warr_at e0] at c0
     have HA := HAT.out i xs[i] (List.getElem?_eq_getElem hix)
     obtain ⟨x, hx⟩ : ∃ x, xs[i] = x := ⟨_, rfl⟩
     rw [hx] at hcx hxB HA
     obtain ⟨u, hu⟩ : ∃ u, x / 2 ^ s = u := ⟨_, rfl⟩
     have W2 : (x : Int) / 2 ^ s = (u : Int) := by
      have e : (x : Int) / 2 ^ s = ((x / 2 ^ s : Nat) : Int) := by simp
      rw [e, hu]
     have huB : u < 18446744073709551616 := by rw [← hu]; exact Nat.lt_of_le_of_lt (Nat.div_le_self _ _) hxB
     have q0 : (0 : Int) ≤ (i : Int) := by omega
     have q1 : (i : Int) < (n : Int) := by omega
     have q3 : ((i : Int)).toNat = i := by omega
     have q6 : ((i : Int) + 1).toNat = i + 1 := by omega
     have q7 : (0 : Int) ≤ (i : Int) + 1 := by omega
     have d1 : decide ((i : Int) < (n : Int)) = true := decide_eq_true q1
     have d2 : decide (i < n) = true := decide_eq_true hin
     have y4 : IntKind.i64.wrap ((i : Int) + 1) = (i : Int) + 1 := IntWalk.i64_in _ (by omega)
     have y5 : IntKind.i64.wrap (i : Int) = (i : Int) := IntWalk.i64_in _ (by omega)
     have y6 : IntKind.u64.wrap (64 - (s : Int)) = 64 - (s : Int) := by rw [IntKind.wrap_u64]; omega
     have y7 : (64 - (s : Int)).toNat = 64 - s := by omega
     have y8 : (0 : Int) ≤ 64 - (s : Int) := by omega
     have HNX : Hid (∀ d, D[i]? = some d → ∀ V, Blk V w.heap.size 118 (warr ((D.take i ++ List.replicate (n - i) 0).set i d)) → Below w.heap.size w V → ShR w w.heap.size n D V (i + 1)) := Lib.hid (fun d hd V hB hb => ⟨by rw [← shr_list HDL.out hin hd]; exact hB, hb⟩)
     by_cases hi1 : i + 1 < n
     ·obtain ⟨j, hj⟩ : ∃ j, i + 1 = j := ⟨_, rfl⟩
      rw [hj] at HA hi1
      have hix1 : j < xs.length := by rw [HNN.out]; exact hi1
      obtain ⟨ad2, hX2, hcy⟩ := Sets.at' (Sl.keep HWD.out HS.out.below) hix1
      injection hX2 with hX2
      subst hX2
      have hyB := HDA.out xs[j] (List.getElem_mem _)
      rw [List.getElem?_eq_getElem hix1] at HA
      generalize xs[j] = y at *
      simp only at HA
      obtain ⟨v, hv⟩ : ∃ v, y * 2 ^ (64 - s) % B = v := ⟨_, rfl⟩
      have hvB : v < 18446744073709551616 := by rw [← hv]; exact Nat.mod_lt _ (by decide)
      have W1 : IntKind.u64.wrap ((y : Int) * 2 ^ (64 - s)) = (v : Int) := by
       have e : (y : Int) * 2 ^ (64 - s) = ((y * 2 ^ (64 - s) : Nat) : Int) := by simp
       rw [e, ← hv]
       exact Go.Proofs.Mul64.wrapM _
      have hor := shr_or (y := y) hs hxB
      rw [hv, hu] at hor
      rw [hv, hu] at HA
      obtain ⟨d, hd⟩ : ∃ d, u + v = d := ⟨_, rfl⟩
      rw [hd] at hor HA
      have W3 : bits .or .u64 (u : Int) (v : Int) = (d : Int) := by rw [u64_or_nat u v huB hvB, hor]
      have HD := Lib.hid HA
      have q8 : (j : Int) < (n : Int) := by omega
      have d3 : decide ((j : Int) < (n : Int)) = true := decide_eq_true q8
      have d4 : decide (j < n) = true := decide_eq_true hi1
      have q9 : (i : Int) + 1 = (j : Int) := by omega
      have q10 : (0 : Int) ≤ (j : Int) := by omega
      have q11 : ((j : Int)).toNat = j := by omega
      have y9 : IntKind.i64.wrap ((i : Int) + 1) = (j : Int) := y4.trans q9
      have y10 : IntKind.i64.wrap (j : Int) = (j : Int) := IntWalk.i64_in _ (by omega)
      clear y4 q6 q7 hj
      have hB1 := HS.out.blk.set i (.int .u64 (u : Nat))
      rw [warr_set] at hB1
      have hB2 := hB1.set i (.int .u64 (d : Nat))
      rw [warr_set, List.set_set] at hB2
      have hb1 := below_far HS.out.below (show w.heap.size ≤ w.heap.size from Nat.le_refl _) i (.int .u64 (u : Nat))
      have hne : ad.block ≠ w.heap.size := by omega
      clear HA hor hd hv hu hx hxB hyB huB hvB e0 hix hix1 HAT
      go_upto_region 9 with (fail)
      have c1 := hB1.cell i
      rw [warr_at (v := u) (List.getElem?_set_self (by rw [List.length_append, List.length_take, List.length_replicate, HDL.out]; omega))] at c1
      have f1 := hB1.frozen i
      have hcy2 : (wo.setCell ⟨w.heap.size, i, none⟩ (.int .u64 (u : Nat))).cell? (ad.add j) = some (.int .u64 (y : Nat)) := by
       rw [World.cell?_setCell_other _ _ _ _ (fun e => hne (by have := congrArg Addr.block e; rw [add_block] at this; exact this.symm))]
       exact hcy
      generalize hW1 : wo.setCell ⟨w.heap.size, i, none⟩ (.int .u64 (u : Nat)) = W1 at *
      clear hcx hcy c0 f0 hW1
      go_upto_region 10 with (fail)
      have HY := Lib.hid (fun V (hB : Blk V w.heap.size 118 (warr ((D.take i ++ List.replicate (n - i) 0).set i d))) (hb : Below w.heap.size w V) => HNX.out d HD.out V hB hb)
      have HB2 : Hid (∀ V, Below W1.heap.size W1 V → Blk (V.setCell ⟨w.heap.size, i, none⟩ (.int .u64 (d : Nat))) w.heap.size 118 (warr ((D.take i ++ List.replicate (n - i) 0).set i d)) ∧ Below w.heap.size w (V.setCell ⟨w.heap.size, i, none⟩ (.int .u64 (d : Nat)))) := Lib.hid (fun V h => by
       have h1 := (hB1.keep h hB1.lt).set i (.int .u64 (d : Nat))
       rw [warr_set, List.set_set] at h1
       exact ⟨h1, below_far (below_all hb1 h) (Nat.le_refl _) _ _⟩)
      clear hB2 HNX
      have BZ : Below W1.heap.size W1 W1.drew := (Below.refl _ _).drew
      refine wp_region_held_drew (S := (fun w' => w'.cell? (ad.add j) = some (.int .u64 (y : Nat)))) (by kernel_rfl) (keep_cell BZ hcy2) (fun hHeld => ?_)
      generalize W1.drew = Z at *
      refine wpAnyH_get 0 (some 48) (.slice (some ⟨w.heap.size, 0, none⟩) n n) rfl rfl (by kernel_rfl) (by kernel_rfl) (by kernel_rfl) (fun _ _ _ h => h) (by rfl) hHeld ?_ ?_
      ·(intro w hSw; (try dsimp only at hSw); go_simp; all_goals (try with_reducible rfl))
      (try simp only [Act.put, List.setIfInBounds_toArray, List.set_cons_zero, List.set_cons_succ])
      refine wpAnyH_get 1 (some 49) (.int .i64 i) rfl rfl (by kernel_rfl) (by kernel_rfl) (by kernel_rfl) (fun _ _ _ h => h) (by rfl) hHeld ?_ ?_
      ·(intro w hSw; (try dsimp only at hSw); go_simp; all_goals (try with_reducible rfl))
      (try simp only [Act.put, List.setIfInBounds_toArray, List.set_cons_zero, List.set_cons_succ])
      refine wpAnyH_get 2 (some 50) (.pointer (some ⟨w.heap.size, i, none⟩)) rfl rfl (by kernel_rfl) (by kernel_rfl) (by kernel_rfl) (fun _ _ _ h => h) (by rfl) hHeld ?_ ?_
      ·(intro w hSw; (try dsimp only at hSw); go_simp; all_goals (try with_reducible rfl))
      (try simp only [Act.put, List.setIfInBounds_toArray, List.set_cons_zero, List.set_cons_succ])
      refine wpAnyH_get 4 (some 52) (.slice (some ad) n cx) rfl rfl (by kernel_rfl) (by kernel_rfl) (by kernel_rfl) (fun _ _ _ h => h) (by rfl) hHeld ?_ ?_
      ·(intro w hSw; (try dsimp only at hSw); go_simp; all_goals (try with_reducible rfl))
      (try simp only [Act.put, List.setIfInBounds_toArray, List.set_cons_zero, List.set_cons_succ])
      refine wpAnyH_get 5 (some 53) (.int .i64 i) rfl rfl (by kernel_rfl) (by kernel_rfl) (by kernel_rfl) (fun _ _ _ h => h) (by rfl) hHeld ?_ ?_
      ·(intro w hSw; (try dsimp only at hSw); go_simp; all_goals (try with_reducible rfl))
      (try simp only [Act.put, List.setIfInBounds_toArray, List.set_cons_zero, List.set_cons_succ])
      refine wpAnyH_get 6 (some 54) (.int .i64 0) rfl rfl (by kernel_rfl) (by kernel_rfl) (by kernel_rfl) (fun _ _ _ h => h) (by rfl) hHeld ?_ ?_
      ·(intro w hSw; (try dsimp only at hSw); go_simp; all_goals (try with_reducible rfl))
      (try simp only [Act.put, List.setIfInBounds_toArray, List.set_cons_zero, List.set_cons_succ])
      refine wpAnyH_get 7 (some 55) (.int .i64 i) rfl rfl (by kernel_rfl) (by kernel_rfl) (by kernel_rfl) (fun _ _ _ h => h) (by rfl) hHeld ?_ ?_
      ·(intro w hSw; (try dsimp only at hSw); go_simp; all_goals (try with_reducible rfl))
      (try simp only [Act.put, List.setIfInBounds_toArray, List.set_cons_zero, List.set_cons_succ])
      refine wpAnyH_get 8 (some 56) (.int .i64 (j : Nat)) rfl rfl (by kernel_rfl) (by kernel_rfl) (by kernel_rfl) (fun _ _ _ h => h) (by rfl) hHeld ?_ ?_
      ·(intro w hSw; (try dsimp only at hSw); go_simp; all_goals (try with_reducible rfl))
      (try simp only [Act.put, List.setIfInBounds_toArray, List.set_cons_zero, List.set_cons_succ])
      refine wpAnyH_get 9 (some 57) (.pointer (some (ad.add j))) rfl rfl (by kernel_rfl) (by kernel_rfl) (by kernel_rfl) (fun _ _ _ h => h) (by rfl) hHeld ?_ ?_
      ·(intro w hSw; (try dsimp only at hSw); go_simp; all_goals (try with_reducible rfl))
      (try simp only [Act.put, List.setIfInBounds_toArray, List.set_cons_zero, List.set_cons_succ])
      refine wpAnyH_get 10 (some 58) (.int .u64 (y : Nat)) rfl rfl (by kernel_rfl) (by kernel_rfl) (by kernel_rfl) (fun _ _ _ h => h) (by rfl) hHeld ?_ ?_
      ·(intro w hSw; (try dsimp only at hSw); go_simp; all_goals (try with_reducible rfl))
      (try simp only [Act.put, List.setIfInBounds_toArray, List.set_cons_zero, List.set_cons_succ])
      refine wpAnyH_get 11 (some 59) (.int .u64 (s : Nat)) rfl rfl (by kernel_rfl) (by kernel_rfl) (by kernel_rfl) (fun _ _ _ h => h) (by rfl) hHeld ?_ ?_
      ·(intro w hSw; (try dsimp only at hSw); go_simp; all_goals (try with_reducible rfl))
      (try simp only [Act.put, List.setIfInBounds_toArray, List.set_cons_zero, List.set_cons_succ])
      refine wpAnyH_get 12 (some 60) (.int .u64 (64 - (s : Int))) rfl rfl (by kernel_rfl) (by kernel_rfl) (by kernel_rfl) (fun _ _ _ h => h) (by rfl) hHeld ?_ ?_
      ·(intro w hSw; (try dsimp only at hSw); go_simp; all_goals (try with_reducible rfl))
      (try simp only [Act.put, List.setIfInBounds_toArray, List.set_cons_zero, List.set_cons_succ])
      refine wpAnyH_get 13 (some 61) (.int .u64 (v : Nat)) rfl rfl (by kernel_rfl) (by kernel_rfl) (by kernel_rfl) (fun _ _ _ h => h) (by rfl) hHeld ?_ ?_
      ·(intro w hSw; (try dsimp only at hSw); go_simp; all_goals (try with_reducible rfl))
      (try simp only [Act.put, List.setIfInBounds_toArray, List.set_cons_zero, List.set_cons_succ])
      refine wpAnyH_ready (rs := [3]) (by kernel_rfl) (by simp) ?_
      refine AllReadyH.cons rfl (fun K hK => ?_) AllReadyH.nil
      have cz := keep_cell BZ c1
      go_simp
      refine hK.out _ _ (keep_cell BZ hcy2) (fun hHeld => ?_)
      clear hK K cz
      have BZ1 := BZ
      generalize Z = Z1 at *
      (try simp only [Act.put, List.setIfInBounds_toArray, List.set_cons_zero, List.set_cons_succ])
      refine wpAnyH_get 14 (some 62) (.int .u64 (d : Nat)) rfl rfl (by kernel_rfl) (by kernel_rfl) (by kernel_rfl) (fun _ _ _ h => h) (by rfl) hHeld ?_ ?_
      ·(intro w hSw; (try dsimp only at hSw); go_simp; all_goals (try with_reducible rfl))
      (try simp only [Act.put, List.setIfInBounds_toArray, List.set_cons_zero, List.set_cons_succ])
      refine wpAnyH_get 15 (some 63) (.pointer (some ⟨w.heap.size, i, none⟩)) rfl rfl (by kernel_rfl) (by kernel_rfl) (by kernel_rfl) (fun _ _ _ h => h) (by rfl) hHeld ?_ ?_
      ·(intro w hSw; (try dsimp only at hSw); go_simp; all_goals (try with_reducible rfl))
      (try simp only [Act.put, List.setIfInBounds_toArray, List.set_cons_zero, List.set_cons_succ])
      refine wpAnyH_ready (rs := [16]) (by kernel_rfl) (by simp) ?_
      refine AllReadyH.cons rfl (fun K hK => ?_) AllReadyH.nil
      have cz := keep_cell BZ1 c1
      have fz := (hB1.keep BZ1 hB1.lt).frozen i
      obtain ⟨hB3, hb3⟩ := HB2.out _ BZ1
      have HY2 := Lib.hid (HY.out _ hB3 hb3)
      have hcz : (Z1.setCell ⟨w.heap.size, i, none⟩ (.int .u64 (d : Nat))).cell? (ad.add j) = some (.int .u64 (y : Nat)) := by
       rw [World.cell?_setCell_other _ _ _ _ (fun e => hne (by have := congrArg Addr.block e; rw [add_block] at this; exact this.symm))]
       exact keep_cell BZ1 hcy2
      clear hB3 hb3
      go_simp
      refine hK.out _ _ hcz (fun hHeld => ?_)
      clear hK K cz fz
      (try simp only [Act.put, List.setIfInBounds_toArray, List.set_cons_zero, List.set_cons_succ])
      refine wpAnyH_done (by kernel_rfl) ?_ _
      go_wp2
      go_roundw
      case rel => exact ⟨i + 1, by go_num, by omega, HY2⟩
      case measure => simp [intOf]; omega
     ·rw [List.getElem?_eq_none (l := xs) (i := i + 1) (by rw [HNN.out]; omega)] at HA
      simp only at HA
      rw [hu] at HA
      have HD := Lib.hid HA
      have d3 : decide ((i : Int) + 1 < (n : Int)) = false := decide_eq_false (by omega)
      have hB1 := HS.out.blk.set i (.int .u64 (u : Nat))
      rw [warr_set] at hB1
      have HY := Lib.hid (HNX.out u HA _ hB1 (below_far HS.out.below (Nat.le_refl _) i (.int .u64 (u : Nat))))
      clear HA hu hx hxB huB e0 hix HAT hB1 HNX
      go_wp2
      go_roundw
      case rel => exact ⟨i + 1, by go_num, by omega, HY⟩
      case measure => simp [intOf]; omega
    ·obtain rfl : i = n := by omega
     have d1 : decide ((i : Int) < (i : Int)) = false := by simp
     have HT : Hid (Calls Tryz.prog 88 #[.slice (some ⟨w.heap.size, 0, none⟩) i i] wo fun e w'' => Q e w'' ∧ ∃ v, e = .returned v) := Lib.hid (by
      have h := HS.out
      have hb := h.blk
      rw [Nat.sub_self, List.replicate_zero, List.append_nil, List.take_of_length_le (by have := HDL.out; omega)] at hb
      exact HRET.out D wo HDL.out HDD.out HVA.out (sets_blk hb rfl) h.below)
     clear HS HRET
     go_wp2_with (go_at_call 88; refine HT.out.mono ?_; rintro e w4 ⟨hq4, v4, rfl⟩; have HQ4 := Lib.hid hq4; clear hq4)
     exact HQ4.out
end Go.Proofs.Tg.Iw
end
section
/- Walks: the program's words: division by one word (printed by wip/tools/mk_im9.py). -/
namespace Go.Bw
theorem dw_step {xs qs : List Nat} {j h r : Nat} (hj : j < xs.length) (hh : 0 < h) (he : val (xs.drop (j + 1)) = h * val qs + r) : val (xs.drop j) = h * val ((r * B + xs[j]) / h :: qs) + (r * B + xs[j]) % h := by
 rw [val_drop hj, he]
 have := Nat.div_add_mod (r * B + xs[j]) h
 show _ = h * ((r * B + xs[j]) / h + B * val qs) + _
 rw [Nat.mul_add, Nat.mul_add, Nat.mul_left_comm h B]
 generalize h * val qs = a at *
 generalize h * ((r * B + xs[j]) / h) = b at *
 rw [Nat.mul_comm B r]
 omega
theorem dw_fit {x h r : Nat} (hr : r < h) (hx : x < B) : (r * B + x) / h < B := by
 have h1 := Nat.mul_le_mul_right B (show r + 1 ≤ h from hr)
 rw [Nat.add_mul, Nat.one_mul] at h1
 exact Nat.div_lt_of_lt_mul (by omega)
end Go.Bw
namespace Go.Proofs.Tg.Iw
open Go.RowKit Go.Bw Go.Gr Go.Proofs.Tg
set_option maxHeartbeats 4000000
set_option maxRecDepth 100000
structure DwM (w0 : World) (g h : Nat) (xs : List Nat) (wr : World) (i r : Nat) (qs : List Nat) : Prop where
  len : qs.length + i = xs.length
  dig : Dig qs
  lt : r < h
  eq : val (xs.drop i) = h * val qs + r
  blk : Blk wr g 118 (warr (List.replicate i 0 ++ qs))
  below : Below w0.heap.size w0 wr
structure RwM (w0 : World) (h : Nat) (xs : List Nat) (wr : World) (i r : Nat) (qs : List Nat) : Prop where
  len : qs.length + i = xs.length
  lt : r < h
  eq : val (xs.drop i) = h * val qs + r
  below : Below w0.heap.size w0 wr
theorem qset_w (j q : Nat) (qs : List Nat) : (List.replicate (j + 1) 0 ++ qs).set j q = List.replicate j 0 ++ (q :: qs) := by
 rw [List.set_append_left _ _ (by simp), List.replicate_succ', List.set_append_right _ _ (by simp), List.length_replicate, Nat.sub_self, List.set_cons_zero]
 simp
theorem DwM.next {w0 wr : World} {g h j r : Nat} {xs qs : List Nat} (s : DwM w0 g h xs wr (j + 1) r qs) (hj : j < xs.length) (hg : w0.heap.size ≤ g) (hx : xs[j] < B) :
    DwM w0 g h xs (wr.setCell ⟨g, j, none⟩ (.int .u64 ((r * B + xs[j]) / h : Nat))) j ((r * B + xs[j]) % h) ((r * B + xs[j]) / h :: qs) := by
  have hb := s.blk.set j (.int .u64 ((r * B + xs[j]) / h : Nat))
  rw [warr_set, qset_w] at hb
  have hh : 0 < h := Nat.lt_of_le_of_lt (Nat.zero_le _) s.lt
  refine ⟨by have := s.len; simp only [List.length_cons]; omega, dig_cons (dw_fit s.lt hx) s.dig, Nat.mod_lt _ hh, dw_step hj hh s.eq, hb, below_far s.below hg _ _⟩
theorem DwM.keep {w0 wr wz : World} {g h i r : Nat} {xs qs : List Nat} (s : DwM w0 g h xs wr i r qs) (hb : Below wr.heap.size wr wz) : DwM w0 g h xs wz i r qs := ⟨s.len, s.dig, s.lt, s.eq, s.blk.keep hb s.blk.lt, below_all s.below hb⟩
theorem dw_out {h n r : Nat} {qs : List Nat} (hr : r < h) (he : n = h * val qs + r) : val qs = n / h ∧ r = n % h := by
 have hh : 0 < h := Nat.lt_of_le_of_lt (Nat.zero_le _) hr
 subst he
 constructor
 ·rw [Nat.mul_add_div hh, Nat.div_eq_of_lt hr, Nat.add_zero]
 ·rw [Nat.mul_add_mod, Nat.mod_eq_of_lt hr]
def RetDw (h : Nat) (xs : List Nat) (w : World) (e : Ending) (w' : World) : Prop := ∃ R c, e = .returned (.tuple #[.slice R (dg (val xs / h)).length c, .int .u64 (val xs % h : Nat)]) ∧ NW w' R c (val xs / h) ∧ Below w.heap.size w w'
theorem dw_any (X : Option Addr) (cx h : Nat) (xs : List Nat) (w : World) (hX : Sets w X xs) (hd : Dig xs) (h0 : 0 < h) (hB : h < 18446744073709551616) (hn : xs.length ≤ 900000) :
    Calls Tryz.prog 132 #[.slice X xs.length cx, .int .u64 (h : Nat)] w (RetDw h xs w) := by
  obtain ⟨Q, hQ⟩ : ∃ Q, RetDw h xs w = Q := ⟨_, rfl⟩
  have HRET : Hid (∀ r qs wr, DwM w w.heap.size h xs wr 0 r qs → Calls Tryz.prog 88 #[.slice (some ⟨w.heap.size, 0, none⟩) xs.length xs.length] wr fun e w'' => ∃ R c m, e = .returned (.slice R m c) ∧ Q (.returned (.tuple #[.slice R m c, .int .u64 (r : Nat)])) w'') := Lib.hid (fun r qs wr s => by
   have hl : qs.length = xs.length := by have := s.len; omega
   have he := s.eq
   rw [List.drop_zero] at he
   obtain ⟨g1, g2⟩ := dw_out s.lt he
   have := trim_n (some ⟨w.heap.size, 0, none⟩) xs.length qs wr (sets_blk s.blk rfl) s.dig (by omega) (by omega)
   rw [hl, g1] at this
   refine this.mono ?_
   rintro e w'' ⟨rfl, rfl, hN⟩
   exact ⟨_, _, _, rfl, by rw [← hQ, g2]; exact ⟨_, _, rfl, hN, s.below⟩⟩)
  have hmk := make_words xs.length (by omega) w
  obtain ⟨W, hW⟩ : ∃ W, w.alloc (.cells (madeCells #[.int .u64 0] xs.length) 118) = W := ⟨_, rfl⟩
  have H0 : Hid (DwM w w.heap.size h xs W xs.length 0 []) := Lib.hid (by
   refine ⟨by simp, fun _ hx => absurd hx (by simp), h0, by rw [List.drop_length]; simp [val], ?_, ?_⟩
   ·rw [← hW, List.append_nil, ← warr_made]; exact Blk.new _ _ _
   ·rw [← hW]; exact (Below.refl _ _).alloc (Nat.le_refl _) _)
  rw [hW] at hmk
  have HWD := Lib.hid hX
  have HDG := Lib.hid hd
  rw [hQ]
  obtain ⟨n, hnn⟩ : ∃ n, xs.length = n := ⟨_, rfl⟩
  have HNN := Lib.hid hnn
  rw [hnn] at hn hmk HRET H0 ⊢
  clear hQ hX hd hnn hW
  go_enter Tryz.func132, Tryz.ntmps132
  go_wp2
  clear hmk
  go_loopw [7, 8] (fun sr si wr => ∃ (i r : Nat) (qs : List Nat), si = .int .i64 ((i : Int) - 1) ∧ i ≤ n ∧ sr = .int .u64 (r : Nat) ∧ Hid (DwM w w.heap.size h xs wr i r qs)) (fun _ si _ => (intOf si + 1).toNat)
  case atStart => exact ⟨n, 0, [], rfl, Nat.le_refl _, rfl, H0⟩
  case round =>
   clear H0
   obtain ⟨wo, rfl⟩ : ∃ wo : World, wo = wr := ⟨_, rfl⟩
   obtain ⟨i, r, qs, rfl, hi, rfl, HS⟩ := hrel
   cases i with
   | zero =>
     have dd : decide ((0 : Int) ≤ ((0 : Nat) : Int) - 1) = false := by decide
     have HT := Lib.hid (HRET.out r qs wo HS.out)
     clear HRET HS
     go_wp2_with (go_at_call 88; refine HT.out.mono ?_; rintro e w4 ⟨R, c, m, rfl, hq4⟩; have HQ4 := Lib.hid hq4; clear hq4)
     exact HQ4.out
   | succ j =>
     have hjx : j < xs.length := by rw [HNN.out]; omega
     have e : (((j + 1 : Nat) : Int) - 1) = (j : Int) := by omega
     rw [e]
     clear e
     obtain ⟨ad, hX2, hcx⟩ := Sets.at' (Sl.keep HWD.out HS.out.below) hjx
     subst hX2
     have hxB := HDG.out xs[j] (List.getElem_mem _)
     have HNX : Hid (∀ V, Below wo.heap.size wo V → DwM w w.heap.size h xs (V.setCell ⟨w.heap.size, j, none⟩ (.int .u64 ((r * B + xs[j]) / h : Nat))) j ((r * B + xs[j]) % h) ((r * B + xs[j]) / h :: qs)) := Lib.hid (fun V hV => (HS.out.keep hV).next hjx (Nat.le_refl _) hxB)
     have HCB : Hid (∀ V, Below wo.heap.size wo V → V.cell? ⟨w.heap.size, j, none⟩ = some (.int .u64 ((0 : Nat) : Int)) ∧ V.frozen? ⟨w.heap.size, j, none⟩ = false) := Lib.hid (fun V hV => by
      have hb := (HS.out.keep hV).blk
      refine ⟨(hb.cell j).trans (warr_at ?_), hb.frozen j⟩
      rw [List.getElem?_append_left (by simp), List.getElem?_replicate, if_pos (by omega)])
     have hrh := HS.out.lt
     generalize xs[j] = x at *
     have hD := div64 r x h hrh hxB hB
     obtain ⟨q, hq⟩ : ∃ q, (r * B + x) / h = q := ⟨_, rfl⟩
     obtain ⟨r2, hr2⟩ : ∃ q, (r * B + x) % h = q := ⟨_, rfl⟩
     rw [hq, hr2] at hD HNX
     have HD := Lib.hid hD
     clear hq hr2 hD
     have q0 : (0 : Int) ≤ (j : Int) := by omega
     have q1 : (j : Int) < (n : Int) := by omega
     have q3 : ((j : Int)).toNat = j := by omega
     have d1 : decide ((0 : Int) ≤ (j : Int)) = true := decide_eq_true q0
     have y1 : IntKind.i64.wrap ((j : Int) - 1) = (j : Int) - 1 := IntWalk.i64_in _ (by omega)
     go_wp2_with (go_at_call 115; refine (HD.out _).mono ?_; rintro e w2 ⟨rfl, hb2⟩; obtain ⟨c2, f2⟩ := HCB.out w2 hb2)
     go_roundw
     case rel => exact ⟨j, r2, _, rfl, by omega, rfl, Lib.hid (HNX.out _ hb2)⟩
     case measure => simp [intOf]
def RetRw (h : Nat) (xs : List Nat) (w : World) (e : Ending) (w' : World) : Prop := e = .returned (.int .u64 (val xs % h : Nat)) ∧ Below w.heap.size w w'
theorem rw_any (X : Option Addr) (cx h : Nat) (xs : List Nat) (w : World) (hX : Sets w X xs) (hd : Dig xs) (h0 : 0 < h) (hB : h < 18446744073709551616) (hn : xs.length ≤ 900000) :
    Calls Tryz.prog 91 #[.slice X xs.length cx, .int .u64 (h : Nat)] w (RetRw h xs w) := by
  obtain ⟨Q, hQ⟩ : ∃ Q, RetRw h xs w = Q := ⟨_, rfl⟩
  have HRET : Hid (∀ r qs wr, RwM w h xs wr 0 r qs → Q (.returned (.int .u64 (r : Nat))) wr) := Lib.hid (fun r qs wr s => by
   have he := s.eq
   rw [List.drop_zero] at he
   obtain ⟨g1, g2⟩ := dw_out s.lt he
   rw [← hQ, g2]
   exact ⟨rfl, s.below⟩)
  have H0 : Hid (RwM w h xs w xs.length 0 []) := Lib.hid ⟨by simp, h0, by rw [List.drop_length]; simp [val], Below.refl _ _⟩
  have HWD := Lib.hid hX
  have HDG := Lib.hid hd
  rw [hQ]
  obtain ⟨n, hnn⟩ : ∃ n, xs.length = n := ⟨_, rfl⟩
  have HNN := Lib.hid hnn
  rw [hnn] at hn H0 ⊢
  clear hQ hX hd hnn
  go_enter Tryz.func91, Tryz.ntmps91
  go_wp2

  go_loopw [5, 6] (fun sr si wr => ∃ (i r : Nat) (qs : List Nat), si = .int .i64 ((i : Int) - 1) ∧ i ≤ n ∧ sr = .int .u64 (r : Nat) ∧ Hid (RwM w h xs wr i r qs)) (fun _ si _ => (intOf si + 1).toNat)
  case atStart => exact ⟨n, 0, [], rfl, Nat.le_refl _, rfl, H0⟩
  case round =>
   clear H0
   obtain ⟨wo, rfl⟩ : ∃ wo : World, wo = wr := ⟨_, rfl⟩
   obtain ⟨i, r, qs, rfl, hi, rfl, HS⟩ := hrel
   cases i with
   | zero =>
     have dd : decide ((0 : Int) ≤ ((0 : Nat) : Int) - 1) = false := by decide
     have HT := Lib.hid (HRET.out r qs wo HS.out)
     clear HRET HS
     go_wp2
     exact HT.out
   | succ j =>
     have hjx : j < xs.length := by rw [HNN.out]; omega
     have e : (((j + 1 : Nat) : Int) - 1) = (j : Int) := by omega
     rw [e]
     clear e
     obtain ⟨ad, hX2, hcx⟩ := Sets.at' (Sl.keep HWD.out HS.out.below) hjx
     subst hX2
     have hxB := HDG.out xs[j] (List.getElem_mem _)
     have HNX : Hid (∀ V, Below wo.heap.size wo V → RwM w h xs V j ((r * B + xs[j]) % h) ((r * B + xs[j]) / h :: qs)) := Lib.hid (fun V hV => by
      have s := HS.out
      have hh : 0 < h := Nat.lt_of_le_of_lt (Nat.zero_le _) s.lt
      exact ⟨by have := s.len; simp only [List.length_cons]; omega, Nat.mod_lt _ hh, dw_step hjx hh s.eq, below_all s.below hV⟩)
     have hrh := HS.out.lt
     generalize xs[j] = x at *
     have hD := div64 r x h hrh hxB hB
     obtain ⟨q, hq⟩ : ∃ q, (r * B + x) / h = q := ⟨_, rfl⟩
     obtain ⟨r2, hr2⟩ : ∃ q, (r * B + x) % h = q := ⟨_, rfl⟩
     rw [hq, hr2] at hD HNX
     have HD := Lib.hid hD
     clear hq hr2 hD
     have q0 : (0 : Int) ≤ (j : Int) := by omega
     have q1 : (j : Int) < (n : Int) := by omega
     have q3 : ((j : Int)).toNat = j := by omega
     have d1 : decide ((0 : Int) ≤ (j : Int)) = true := decide_eq_true q0
     have y1 : IntKind.i64.wrap ((j : Int) - 1) = (j : Int) - 1 := IntWalk.i64_in _ (by omega)
     go_wp2_with (go_at_call 115; refine (HD.out _).mono ?_; rintro e w2 ⟨rfl, hb2⟩)
     go_roundw
     case rel => exact ⟨j, r2, _, rfl, by omega, rfl, Lib.hid (HNX.out _ hb2)⟩
     case measure => simp [intOf]
end Go.Proofs.Tg.Iw
end
section
/- Walks: the program's words: the estimate of a digit of a quotient. -/
namespace Go.Bw
/-- Where the top digit is the divisor's, the greatest digit will do. -/
theorem Tops.full {u v top u2 v1 v2 P : Nat} (h : Tops u v top u2 v1 v2 P) (hP : 0 < P) (ht : v1 * B ≤ top) : (B - 1) * v < u + v := by
 have h1 : v < (v1 + 1) * B * P := by
  refine Nat.lt_of_lt_of_le h.v_lo (Nat.mul_le_mul_right _ ?_)
  have h5 := h.v2lt
  rw [Nat.add_mul, Nat.one_mul]
  clear h
  generalize B = b at *
  omega
 have h2 : v1 * B * B * P ≤ u := by
  refine Nat.le_trans (Nat.mul_le_mul_right _ ?_) h.u_hi
  exact Nat.le_trans (Nat.mul_le_mul_right B ht) (Nat.le_add_right _ _)
 have h3 : (B - 2) * v < (B - 2) * ((v1 + 1) * B * P) := Nat.mul_lt_mul_of_pos_left h1 (by decide)
 have h4 : (B - 2) * ((v1 + 1) * B * P) ≤ v1 * B * B * P := by
  have e1 : (B - 2) * ((v1 + 1) * B * P) = ((B - 2) * (v1 + 1)) * (B * P) := by simp only [Nat.mul_assoc]
  have e2 : v1 * B * B * P = (v1 * B) * (B * P) := by simp only [Nat.mul_assoc]
  rw [e1, e2]
  refine Nat.mul_le_mul_right _ ?_
  have hb := h.big
  simp only [B] at *
  omega
 have hv : 0 < v := Nat.lt_of_lt_of_le (Nat.mul_pos (by have := h.big; have := h.v1lt; simp only [B] at *; omega) hP) h.v_hi
 have e : (B - 1) * v = (B - 2) * v + v := by
  rw [show B - 1 = (B - 2) + 1 by decide, Nat.add_mul, Nat.one_mul]
 rw [e]
 exact Nat.add_lt_add_right (Nat.lt_of_lt_of_le h3 (Nat.le_trans h4 h2)) v
theorem est_near {u v e q : Nat} (hv : 0 < v) (hq : q = u / v) (h1 : q ≤ e) (h2 : e * v < u + v) : e = q ∨ e = q + 1 := by
 have h3 : e < q + 2 := by
  refine Nat.lt_of_mul_lt_mul_right (a := v) ?_
  have h4 := Nat.lt_div_mul_add (a := u) hv
  rw [← hq] at h4
  rw [Nat.add_mul]
  omega
 omega
theorem split_le {hi lo r u2 : Nat} (hlo : lo < B) (hu : u2 < B) : hi * B + lo ≤ r * B + u2 ↔ hi < r ∨ (hi = r ∧ lo ≤ u2) := by
 simp only [B] at *
 omega
end Go.Bw
namespace Go.Proofs.Tg.Iw
open Go.RowKit Go.Bw Go.Gr Go.Proofs.Tg
set_option maxHeartbeats 4000000
set_option maxRecDepth 100000
def RetEst (q : Nat) (w : World) (e : Ending) (w' : World) : Prop := ∃ d : Nat, e = .returned (.int .u64 (d : Nat)) ∧ (d = q ∨ d = q + 1) ∧ d < B ∧ Below w.heap.size w w'
theorem est_any (wd yd : Addr) (cw cy n n1 n2 N c a1 a0 v1 v2 u v P q : Nat) (w : World) (hn1 : n1 + 1 = n) (hn2 : n2 + 2 = n) (hN : n + 1 = N) (hn : n ≤ 1000000) (hc : w.cell? (wd.add n) = some (.int .u64 (c : Nat))) (hc1 : w.cell? (wd.add n1) = some (.int .u64 (a1 : Nat))) (hc0 : w.cell? (wd.add n2) = some (.int .u64 (a0 : Nat)))
    (hy1 : w.cell? (yd.add n1) = some (.int .u64 (v1 : Nat))) (hy2 : w.cell? (yd.add n2) = some (.int .u64 (v2 : Nat))) (hT : Tops u v (c * B + a1) a0 v1 v2 P) (hP : 0 < P) (hv : 0 < v) (hq : q = u / v) (hlt : u < v * B) (hcB : c < 18446744073709551616) (ha1 : a1 < 18446744073709551616) :
    Calls Tryz.prog 133 #[.slice (some wd) N cw, .slice (some yd) n cy] w (RetEst q w) := by
  have hqB : q < B := by rw [hq]; exact Nat.div_lt_of_lt_mul hlt
  have hqv : q * v ≤ u := by rw [hq]; exact Nat.div_mul_le_self _ _
  have hv1B : v1 < 18446744073709551616 := hT.v1lt
  have hv2B : v2 < 18446744073709551616 := hT.v2lt
  have ha0 : a0 < 18446744073709551616 := hT.u2lt
  have x1 : (n : Int) - 1 = (n1 : Int) := by omega
  have x2 : (n : Int) - 2 = (n2 : Int) := by omega
  have x3 : IntKind.i64.wrap ((n : Int) - 1) = (n1 : Int) := (IntWalk.i64_in _ (by omega)).trans x1
  have x4 : IntKind.i64.wrap ((n : Int) - 2) = (n2 : Int) := (IntWalk.i64_in _ (by omega)).trans x2
  have x5 : IntKind.i64.wrap (n1 : Int) = (n1 : Int) := IntWalk.i64_in _ (by omega)
  have x6 : IntKind.i64.wrap (n2 : Int) = (n2 : Int) := IntWalk.i64_in _ (by omega)
  have p0 : (0 : Int) ≤ (n : Int) := by omega
  have p1 : (0 : Int) ≤ (n1 : Int) := by omega
  have p2 : (0 : Int) ≤ (n2 : Int) := by omega
  have t0 : ((n : Int)).toNat = n := by omega
  have t1 : ((n1 : Int)).toNat = n1 := by omega
  have t2 : ((n2 : Int)).toNat = n2 := by omega
  have l0 : (n : Int) < (N : Int) := by omega
  have l1 : (n1 : Int) < (N : Int) := by omega
  have l2 : (n2 : Int) < (N : Int) := by omega
  have l3 : (n1 : Int) < (n : Int) := by omega
  have l4 : (n2 : Int) < (n : Int) := by omega
  have HT := Lib.hid hT
  have HQ := Lib.hid hq
  have HQB := Lib.hid hqB
  have HQV := Lib.hid hqv
  have HLT := Lib.hid hlt
  have hbd : Below w.heap.size w w.drew := (Below.refl _ _).drew
  clear hT hq hqB hqv hlt
  go_enter Tryz.func133, Tryz.ntmps133
  go_wp2
  go_quiet (fail)
  have hbw : Below w.heap.size w (w.drewN nq) := below_drewN (Below.refl _ _) _
  have hc := keep_cell hbw hc
  have hc1 := keep_cell hbw hc1
  have hc0 := keep_cell hbw hc0
  clear hy1 hy2
  generalize w.drewN nq = W at *
  by_cases hcv : v1 ≤ c
  ·have d1 : decide ((v1 : Int) ≤ (c : Int)) = true := decide_eq_true (by omega)
   have d2 : decide (v1 ≤ c) = true := decide_eq_true hcv
   have HR : Hid (RetEst q w (.returned (.int .u64 18446744073709551615)) W) := Lib.hid (by
    refine ⟨18446744073709551615, rfl, ?_, by decide, hbw⟩
    have h1 := HT.out.full hP (Nat.le_trans (Nat.mul_le_mul_right B hcv) (Nat.le_add_right _ _))
    exact est_near hv HQ.out (by have := HQB.out; simp only [B] at this; omega) h1)
   go_wp2
   go_ret
   exact HR.out
  ·have d1 : decide ((v1 : Int) ≤ (c : Int)) = false := decide_eq_false (by omega)
   have d2 : decide (v1 ≤ c) = false := decide_eq_false hcv
   have hD := div64 c a1 v1 (by omega) ha1 hv1B
   obtain ⟨e0, he0⟩ : ∃ x, (c * B + a1) / v1 = x := ⟨_, rfl⟩
   obtain ⟨r0, hr0⟩ : ∃ x, (c * B + a1) % v1 = x := ⟨_, rfl⟩
   have HS : Hid (Est (c * B + a1) v1 q e0 r0) := Lib.hid (by
    have := Est.start HT.out HQV.out HLT.out
    rwa [he0, hr0] at this)
   have he0B : e0 < 18446744073709551616 := by rw [← he0]; exact dw_fit (by omega) ha1
   have hr0v : r0 < v1 := by rw [← hr0]; exact Nat.mod_lt _ (by omega)
   rw [he0, hr0] at hD
   have HD := Lib.hid hD
   clear hD he0 hr0 hbd
   go_wp2
   have hbe : Below W.heap.size W W.drew := (Below.refl _ _).drew
   go_upto_region 5 with (fail)
   go_cut [8, 9] from 30 (fun s8 s9 wx => s8 = .int .u64 (e0 : Nat) ∧ s9 = .int .u64 (r0 : Nat) ∧ Below W.heap.size W wx)
   case first =>
    clear HT HQ HQB HQV HLT HS hc0
    go_region_held3 (fun w' => w'.cell? (wd.add n) = some (.int .u64 (c : Nat)) ∧ w'.cell? (wd.add n1) = some (.int .u64 (a1 : Nat)))
      (first | exact ⟨keep_cell hbe hc, keep_cell hbe hc1⟩ | go_keep)
      (first | (go_at_call 115; with_reducible refine Calls.mono (HD.out _) ?_; rintro e w3 ⟨rfl, hb3⟩; have hbe := below_all hbe hb3))
    all_goals
      go_wp2
      go_meet
      exact ⟨rfl, rfl, by assumption⟩
   case rest =>
    obtain ⟨rfl, rfl, hbc⟩ := hcut
    have hc0 := keep_cell hbc hc0
    have hbW := below_all hbw hbc
    clear hc hc1 hbe hbc HD
    go_wp2
    go_loopw [8, 9] (fun s8 s9 wr => ∃ e r : Nat, s8 = .int .u64 (e : Nat) ∧ s9 = .int .u64 (r : Nat) ∧ e < 18446744073709551616 ∧ r < 18446744073709551616 ∧ Hid (Est (c * B + a1) v1 q e r) ∧ wc = wr) (fun s8 _ _ => (intOf s8).toNat)
    case atStart => exact ⟨e0, r0, rfl, rfl, he0B, by omega, HS, rfl⟩
    case round =>
     clear HS he0B hr0v
     obtain ⟨e, r, rfl, rfl, heB, hrB, HE, hwr⟩ := hrel
     subst hwr
     have hM := mul64 e v2 heB hv2B
     obtain ⟨hi, hhi⟩ : ∃ x, e * v2 / B = x := ⟨_, rfl⟩
     obtain ⟨lo, hlo⟩ : ∃ x, e * v2 % B = x := ⟨_, rfl⟩
     have hloB : lo < B := by rw [← hlo]; exact Nat.mod_lt _ (by decide)
     have hev : e * v2 = hi * B + lo := by
      rw [← hhi, ← hlo, Nat.mul_comm (e * v2 / B)]
      exact (Nat.div_add_mod _ _).symm
     rw [hhi, hlo] at hM
     have HM := Lib.hid hM
     have hsl := split_le (hi := hi) (r := r) hloB ha0
     rw [← hev] at hsl
     have HSL := Lib.hid hsl
     clear hM hhi hlo hev hsl
     by_cases hst : e * v2 ≤ r * B + a0
     ·have HR : Hid (RetEst q w (.returned (.int .u64 (e : Nat))) wc) := Lib.hid ⟨e, rfl, HE.out.stop HT.out hP HQ.out hv (Nat.le_of_lt heB) (.inl hst), heB, hbW⟩
      by_cases h1 : hi < r
      ·have d3 : decide ((hi : Int) < (r : Int)) = true := decide_eq_true (by omega)
       have d4 : decide (hi < r) = true := decide_eq_true h1
       clear hst HSL
       go_wp2_with (go_at_call 121; refine (HM.out _).mono ?_; rintro e w3 ⟨rfl, rfl⟩)
       go_ret
       exact HR.out
      ·obtain ⟨h2, h3⟩ := (HSL.out.1 hst).resolve_left h1
       subst h2
       have d3 : decide ((hi : Int) < (hi : Int)) = false := by simp
       have d4 : ((hi : Int) == (hi : Int)) = true := by simp
       have d5 : decide ((lo : Int) ≤ (a0 : Int)) = true := decide_eq_true (by omega)
       have d6 : decide (lo ≤ a0) = true := decide_eq_true h3
       clear hst HSL h1
       go_wp2_with (go_at_call 121; refine (HM.out _).mono ?_; rintro e w3 ⟨rfl, rfl⟩)
       go_ret
       exact HR.out
     ·obtain ⟨g1, g2, g3⟩ := Est.round HT.out HQV.out HQB.out HE.out (.inr (by omega))
      have hsn : ¬ (hi < r ∨ (hi = r ∧ lo ≤ a0)) := fun h => hst (HSL.out.2 h)
      obtain ⟨d, hd⟩ : ∃ d, e - 1 = d := ⟨_, rfl⟩
      obtain ⟨r', hr'⟩ : ∃ x, r + v1 = x := ⟨_, rfl⟩
      rw [hd] at g1 g2
      rw [hr'] at g1
      have HG := Lib.hid g1
      have hde : d < e := by omega
      have y1 : (e : Int) - 1 = (d : Int) := by omega
      have y2 : IntKind.u64.wrap ((e : Int) - 1) = (d : Int) := by rw [y1]; exact Go.Proofs.Mul64.wrapN _ (by omega)
      obtain ⟨r2, hr2⟩ : ∃ x, (r + v1) % B = x := ⟨_, rfl⟩
      have hr2B : r2 < 18446744073709551616 := by rw [← hr2]; exact Nat.mod_lt _ (by decide)
      have y3 : IntKind.u64.wrap ((r : Int) + (v1 : Int)) = (r2 : Int) := by
       rw [Go.Proofs.Mul64.addN, ← hr2]; exact Go.Proofs.Mul64.wrapM _
      have hcy : r2 < v1 ↔ B ≤ r' := by
       rw [← hr2, ← hr']
       simp only [B]
       omega
      have hr3 : ¬ B ≤ r' → r2 = r' := by
       rw [← hr2, ← hr']
       simp only [B]
       omega
      have HX : Hid (B ≤ r' → RetEst q w (.returned (.int .u64 (d : Nat))) wc) := Lib.hid (fun h => ⟨d, rfl, g1.stop HT.out hP HQ.out hv g2 (.inr h), by simp only [B]; omega, hbW⟩)
      have d3 : decide ((hi : Int) < (r : Int)) = false := decide_eq_false (by omega)
      have d3' : decide (hi < r) = false := decide_eq_false (by omega)
      clear g1 g2 g3 hd hr' hr2 hst HSL y1
      by_cases hov : r2 < v1
      ·have HR := Lib.hid (HX.out (hcy.1 hov))
       have d7 : decide ((r2 : Int) < (v1 : Int)) = true := decide_eq_true (by omega)
       have d8 : decide (r2 < v1) = true := decide_eq_true hov
       clear HX hcy hr3
       by_cases h1 : hi = r
       ·subst h1
        have d4 : ((hi : Int) == (hi : Int)) = true := by simp
        have d5 : decide ((lo : Int) ≤ (a0 : Int)) = false := decide_eq_false (by omega)
        have d6 : decide (lo ≤ a0) = false := decide_eq_false (by omega)
        clear hsn
        go_wp2_with (go_at_call 121; refine (HM.out _).mono ?_; rintro e w3 ⟨rfl, rfl⟩)
        go_ret
        exact HR.out
       ·have d4 : ((hi : Int) == (r : Int)) = false := beq_eq_false_iff_ne.2 (by omega)
        have d4' : (hi == r) = false := beq_eq_false_iff_ne.2 h1
        have d4n : (hi = r) = False := eq_false h1
        clear hsn h1
        go_wp2_with (go_at_call 121; refine (HM.out _).mono ?_; rintro e w3 ⟨rfl, rfl⟩)
        go_ret
        exact HR.out
      ·have d7 : decide ((r2 : Int) < (v1 : Int)) = false := decide_eq_false (by omega)
       have d8 : decide (r2 < v1) = false := decide_eq_false hov
       have HG2 : Hid (Est (c * B + a1) v1 q d r2) := Lib.hid (by rw [hr3 (fun h => hov (hcy.2 h))]; exact HG.out)
       clear HX hcy hr3 hov
       by_cases h1 : hi = r
       ·subst h1
        have d4 : ((hi : Int) == (hi : Int)) = true := by simp
        have d5 : decide ((lo : Int) ≤ (a0 : Int)) = false := decide_eq_false (by omega)
        have d6 : decide (lo ≤ a0) = false := decide_eq_false (by omega)
        clear hsn
        go_wp2_with (go_at_call 121; refine (HM.out _).mono ?_; rintro e w3 ⟨rfl, rfl⟩)
        go_roundw
        case rel => exact ⟨d, r2, rfl, rfl, by omega, hr2B, HG2, trivial⟩
        case measure => simp [intOf]; omega
       ·have d4 : ((hi : Int) == (r : Int)) = false := beq_eq_false_iff_ne.2 (by omega)
        have d4' : (hi == r) = false := beq_eq_false_iff_ne.2 h1
        have d4n : (hi = r) = False := eq_false h1
        clear hsn h1
        go_wp2_with (go_at_call 121; refine (HM.out _).mono ?_; rintro e w3 ⟨rfl, rfl⟩)
        go_roundw
        case rel => exact ⟨d, r2, rfl, rfl, by omega, hr2B, HG2, trivial⟩
        case measure => simp [intOf]; omega
end Go.Proofs.Tg.Iw
end
