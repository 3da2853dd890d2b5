/- Parts of the proof: IM7, IM8, IM9. -/
import Derived.Test.YtbgaiceakmmfdaaGreatDoorMMR0
import Derived.Test.YtbgaiceakmmfdaaGreatDoorMMR8
import Derived.Test.YtbgaiceakmmfdaaGreatDoorMMR12
set_option maxHeartbeats 64000000
set_option maxRecDepth 100000
section
namespace Go.Bw
theorem shl_low {s c x : Nat} (hs : s < 64) (hc : c < 2 ^ s) : c ||| (x * 2 ^ s) % B = (x * 2 ^ s) % B + c ∧ (x * 2 ^ s) % B + c < B := by
 have hB := pow_split hs
 have h1 : (x * 2 ^ s) % B = (x % 2 ^ (64 - s)) * 2 ^ s := by rw [hB, Nat.mul_comm (2 ^ s), Nat.mul_mod_mul_right]
 rw [h1]
 have hx : x % 2 ^ (64 - s) < 2 ^ (64 - s) := Nat.mod_lt _ (Nat.pow_pos (by decide))
 generalize x % 2 ^ (64 - s) = y at *
 refine ⟨?_, ?_⟩
 ·rw [Nat.or_comm, Nat.mul_comm]
  exact (Nat.two_pow_add_eq_or_of_lt hc y).symm
 ·have h2 := Nat.mul_le_mul_right (2 ^ s) (show y + 1 ≤ 2 ^ (64 - s) from hx)
  rw [Nat.add_mul, Nat.one_mul, Nat.mul_comm (2 ^ (64 - s)), ← hB] at h2; omega
theorem shl_high {s x : Nat} (hs : s < 64) (hx : x < B) : x / 2 ^ (64 - s) = x * 2 ^ s / B ∧ x * 2 ^ s / B < 2 ^ s := by
 have hB := pow_split hs
 have hp : 0 < 2 ^ s := Nat.pow_pos (by decide)
 have e : x * 2 ^ s / B = x / 2 ^ (64 - s) := by
  rw [hB, Nat.mul_comm (2 ^ s), Nat.mul_div_mul_right _ _ hp]
 refine ⟨e.symm, ?_⟩
 rw [e, Nat.div_lt_iff_lt_mul (Nat.pow_pos (by decide)), ← hB]
 exact hx
theorem lin_shl {Z P c V x d c' S : Nat} (hs : Z + P * c = V * S) (hd : d + B * c' = x * S + c) : Z + P * d + P * B * c' = (V + P * x) * S := by
 have h1 := congrArg (P * ·) hd
 simp only [Nat.mul_add] at h1
 rw [Nat.add_mul, Nat.mul_assoc P B, Nat.mul_assoc P x]
 omega
end Go.Bw
namespace Go.Proofs.Tg.Iw
open Go.RowKit Go.Bw Go.Gr Go.Proofs.Tg
structure ShL (w0 : World) (g s n : Nat) (xs : List Nat) (wr : World) (i c : Nat) (zs : List Nat) : Prop where
  len : zs.length = i
  dig : Dig zs
  lt : c < 2 ^ s
  eq : val zs + B ^ i * c = val (xs.take i) * 2 ^ s
  blk : Blk wr g 118 (warr (zs ++ (c :: List.replicate (n - i) 0)))
  below : Below w0.heap.size w0 wr
theorem ShL.next {w0 wr : World} {g s n i c d c' : Nat} {xs zs : List Nat} (h : ShL w0 g s n xs wr i c zs) (hi : i < n) (hx : i < xs.length) (hg : w0.heap.size ≤ g) (hd : d + B * c' = xs[i] * 2 ^ s + c) (hdB : d < B) (hc : c' < 2 ^ s) :
    ShL w0 g s n xs ((wr.setCell ⟨g, i, none⟩ (.int .u64 (d : Nat))).setCell ⟨g, i + 1, none⟩ (.int .u64 (c' : Nat))) (i + 1) c' (zs ++ [d]) := by
  have hb := (h.blk.set i (.int .u64 (d : Nat))).set (i + 1) (.int .u64 (c' : Nat)); rw [warr_set, warr_set] at hb
  have e : ((zs ++ c :: List.replicate (n - i) 0).set i d).set (i + 1) c' = (zs ++ [d]) ++ c' :: List.replicate (n - (i + 1)) 0 := by
   obtain ⟨m, hm⟩ : ∃ m, n - i = m + 1 := ⟨n - i - 1, by omega⟩; rw [hm, show n - (i + 1) = m by omega, List.replicate_succ]; have hl := h.len; clear hb hx hd hdB hc hm h hi; subst hl; simp
  rw [e] at hb; refine ⟨by rw [List.length_append, h.len]; rfl, dig_snoc h.dig hdB, hc, ?_, hb, below_far (below_far h.below hg _ _) hg _ _⟩; rw [val_snoc, h.len, val_snoc_take hx, pow_snoc]; exact lin_shl h.eq hd
theorem shl_w (X : Option Addr) (cx a s : Nat) (w : World) (hX : NW w X cx a) (hs : s < 64) (hn : (dg a).length ≤ 500000) :
    Calls Tryz.prog 126 #[.slice X (dg a).length cx, .int .u64 (s : Nat)] w (RetW (a * 2 ^ s) w) := by
  obtain ⟨Q, hQ⟩ := eqx (RetW (a * 2 ^ s) w); have HX := zh hX
  by_cases h0 : (dg a).length = 0 ∨ s = 0
  ·have HRET : Hid (Q (.returned (.slice X (dg a).length cx)) w) := zh (by
    rw [← hQ]
    rcases h0 with h0 | h0
    ·have := len_zero h0; subst this; rw [Nat.zero_mul]; exact ⟨X, cx, rfl, HX.out, Below.refl _ _⟩
    ·subst h0; rw [Nat.pow_zero, Nat.mul_one]
     exact ⟨X, cx, rfl, HX.out, Below.refl _ _⟩)
   rw [hQ]; clear hQ hX
   by_cases h1 : (dg a).length = 0
   ·have z1 : (((dg a).length : Int) == 0) = true := beq_iff_eq.2 (by omega); have z2 : ((dg a).length == 0) = true := beq_iff_eq.2 h1; clear h0 h1; generalize (dg a).length = la at *; go_enter Tryz.func126, Tryz.ntmps126; go_wp2; exact HRET.out
   ·have hs0 : s = 0 := h0.resolve_left h1; have z1 : (((dg a).length : Int) == 0) = false := beq_eq_false_iff_ne.2 (by omega); have z2 : ((dg a).length == 0) = false := beq_eq_false_iff_ne.2 h1; have z3 : ((dg a).length = 0) = False := eq_false h1; have y1 : ((s : Int) == 0) = true := beq_iff_eq.2 (by omega); have y2 : (s == 0) = true := beq_iff_eq.2 hs0; clear h0 h1 hs0; generalize (dg a).length = la at *; go_enter Tryz.func126, Tryz.ntmps126; go_wp2; exact HRET.out
  ·have h1 : (dg a).length ≠ 0 := fun e => h0 (.inl e)
   have h2 : s ≠ 0 := fun e => h0 (.inr e)
   have z1 : (((dg a).length : Int) == 0) = false := beq_eq_false_iff_ne.2 (by omega); have z2 : ((dg a).length == 0) = false := beq_eq_false_iff_ne.2 h1; have z3 : ((dg a).length = 0) = False := eq_false h1; have y1 : ((s : Int) == 0) = false := beq_eq_false_iff_ne.2 (by omega); have y2 : (s == 0) = false := beq_eq_false_iff_ne.2 h2; have y3 : (s = 0) = False := eq_false h2
   have s1 : (s : Int) / 64 = 0 := by omega
   have s2 : (s : Int) % 64 = (s : Int) := by omega
   have s3 : (s : Int).tdiv 64 = 0 := by rw [Int.tdiv_eq_ediv_of_nonneg (by omega)]; exact s1
   have s4 : (s : Int).tmod 64 = (s : Int) := by rw [Int.tmod_eq_emod_of_nonneg (by omega)]; exact s2
   have HRET : Hid (∀ zs w', zs.length = (dg a).length + 1 → Dig zs → val zs = a * 2 ^ s → Sets w' (some ⟨w.heap.size, 0, none⟩) zs → Below w.heap.size w w' → Calls Tryz.prog 88 #[.slice (some ⟨w.heap.size, 0, none⟩) ((dg a).length + 1) ((dg a).length + 1)] w' fun e w'' => Q e w'' ∧ ∃ v, e = .returned v) := zh (fun zs w' h1 h2 h3 h4 h5 => by
    have := trim_n (some ⟨w.heap.size, 0, none⟩) ((dg a).length + 1) zs w' h4 h2 (by omega) (by omega); rw [h1, h3] at this; refine this.mono ?_; rintro e w'' ⟨rfl, rfl, hN⟩
    exact ⟨by rw [← hQ]; exact ⟨_, _, rfl, hN, h5⟩, _, rfl⟩)
   have hmk := make_words ((dg a).length + 1) (by omega) w
   have hc1 : (((dg a).length + 1 : Nat) : Int) = ((dg a).length : Int) + 1 := by omega
   rw [hc1] at hmk; have hwr : IntKind.i64.wrap (((dg a).length : Int) + 1) = ((dg a).length : Int) + 1 := IntWalk.i64_in _ (by omega); obtain ⟨W, hW⟩ := eqx (w.alloc (.cells (madeCells #[.int .u64 0] ((dg a).length + 1)) 118))
   have H0 : Hid (ShL w w.heap.size s (dg a).length (dg a) W 0 0 []) := zh (by
    refine ⟨rfl, fun _ hx => absurd hx (by simp), Nat.pow_pos (by decide), by simp [val], ?_, ?_⟩
    ·rw [← hW, List.nil_append, Nat.sub_zero, ← List.replicate_succ, ← warr_made]; exact Blk.new _ _ _
    ·rw [← hW]; exact bal)
   rw [hW] at hmk; have HVA : Hid (val (dg a) = a) := zh (val_dg a); have HDA := zh (dg_dig a); have HWD := zh hX.wds; rw [hQ]; have HXL : Hid ((dg a).length = (dg a).length) := zh rfl; obtain ⟨n, hnn⟩ := eqx ((dg a).length); have HNN := zh hnn; rw [hnn] at hn h1 z1 z2 z3 HRET hmk hwr H0 ⊢; clear hQ hX hc1 hW h0 h1 h2 hnn HXL HX; generalize dg a = xs at *; go_enter Tryz.func126, Tryz.ntmps126; go_wp2; clear hmk
   go_loopw [31] (fun s31 wr => ∃ (i c : Nat) (zs : List Nat), s31 = .int .i64 i ∧ i ≤ n ∧ Hid (ShL w w.heap.size s n xs wr i c zs)) (fun s31 _ => n - (intOf s31).toNat)
   case atStart => exact ⟨0, 0, [], rfl, Nat.zero_le _, H0⟩
   case round =>
    clear H0; obtain ⟨wo, rfl⟩ : ∃ wo : World, wo = wr := ⟨_, rfl⟩; obtain ⟨i, c, zs, rfl, hi, HS⟩ := hrel
    by_cases hin : i < n
    ·have hix : i < xs.length := by rw [HNN.out]; exact hin
     obtain ⟨ad, hX2, hcx⟩ := Sets.at' (Sl.keep HWD.out HS.out.below) hix; subst hX2; have hxB := HDA.out xs[i] (List.getElem_mem _); have c0 := HS.out.blk.cell i; have f0 := HS.out.blk.frozen i; have c1 := HS.out.blk.cell (i + 1); have f1 := HS.out.blk.frozen (i + 1)
     have e0 : (zs ++ (c :: List.replicate (n - i) 0))[i]? = some c := by
      rw [List.getElem?_append_right (by rw [HS.out.len]; omega), HS.out.len, Nat.sub_self]; rfl
     have e1 : (zs ++ (c :: List.replicate (n - i) 0))[i + 1]? = some 0 := by
      obtain ⟨m, hm⟩ : ∃ m, n - i = m + 1 := ⟨n - i - 1, by omega⟩; rw [List.getElem?_append_right (by rw [HS.out.len]; omega), HS.out.len, Nat.add_sub_cancel_left, hm, List.replicate_succ]; rfl
     rw [warr_at e0] at c0; rw [warr_at e1] at c1; have hcs := HS.out.lt; have HNX : Hid (∀ d c', d + B * c' = xs[i] * 2 ^ s + c → d < B → c' < 2 ^ s → ShL w w.heap.size s n xs ((wo.setCell ⟨w.heap.size, i, none⟩ (.int .u64 (d : Nat))).setCell ⟨w.heap.size, i + 1, none⟩ (.int .u64 (c' : Nat))) (i + 1) c' (zs ++ [d])) := zh (fun d c' a b c => HS.out.next hin hix (Nat.le_refl _) a b c); generalize xs[i] = x at *; obtain ⟨g1, g2⟩ := shl_low (x := x) hs hcs; obtain ⟨g3, g4⟩ := shl_high hs hxB; obtain ⟨v, hv⟩ := eqx (x * 2 ^ s % B); obtain ⟨u, hu⟩ := eqx (x / 2 ^ (64 - s))
     have hvB : v < B := by rw [← hv]; exact Nat.mod_lt _ (by decide)
     have W1 : IntKind.u64.wrap ((x : Int) * 2 ^ s) = (v : Int) := by
      have e : (x : Int) * 2 ^ s = ((x * 2 ^ s : Nat) : Int) := by simp
      rw [e, ← hv]; exact Go.Proofs.Mul64.wrapM _
     have W2 : (x : Int) / 2 ^ (64 - s) = (u : Int) := by
      have e : (x : Int) / 2 ^ (64 - s) = ((x / 2 ^ (64 - s) : Nat) : Int) := by simp
      rw [e, hu]
     have hcB : c < 18446744073709551616 := Nat.lt_of_lt_of_le hcs (by
      have := Nat.pow_le_pow_right (show 0 < 2 by decide) (show s ≤ 64 by omega)
      exact this)
     obtain ⟨d, hd⟩ := eqx (v + c); rw [hv, hd] at g1 g2; rw [hu] at g3
     have W3 : bits .or .u64 (c : Int) (v : Int) = (d : Int) := by rw [u64_or_nat c v hcB hvB, g1]
     have HY := zh (HNX.out d u (by
      have := Nat.div_add_mod (x * 2 ^ s) B; rw [hv, ← g3] at this
      omega) g2 (by rw [g3]; exact g4))
     clear HNX g1 g2 g3 g4 hv hu hd hxB hcs hcB hvB e0 e1
     have q0 : (0 : Int) ≤ (i : Int) := by omega
     have q1 : (i : Int) < (n : Int) := by omega
     have q3 : ((i : Int)).toNat = i := by omega
     have q4 : (i : Int) < (n : Int) + 1 := by omega
     have q5 : (i : Int) + 1 < (n : Int) + 1 := by omega
     have q6 : ((i : Int) + 1).toNat = i + 1 := by omega
     have d1 : decide ((i : Int) < (n : Int)) = true := dT q1; have d2 : decide (i < n) = true := dT hin; have y4 : IntKind.i64.wrap ((i : Int) + 1) = (i : Int) + 1 := IntWalk.i64_in _ (by omega); go_wp2; go_roundw
     case rel => exact ⟨i + 1, u, _, by go_num, by omega, HY⟩
     case measure => simp [intOf]; omega
    ·obtain rfl : i = n := by omega
     have d1 : decide ((i : Int) < (i : Int)) = false := by simp
     have HT : Hid (Calls Tryz.prog 88 #[.slice (some ⟨w.heap.size, 0, none⟩) (i + 1) (i + 1)] wo fun e w'' => Q e w'' ∧ ∃ v, e = .returned v) := zh (by
      have h := HS.out; have hcB : c < B := Nat.lt_of_lt_of_le h.lt (Nat.pow_le_pow_right (show 0 < 2 by decide) (show s ≤ 64 by omega)); have hb := h.blk; rw [Nat.sub_self, List.replicate_zero] at hb; refine HRET.out (zs ++ [c]) wo (by rw [List.length_append, h.len]; rfl) (dig_snoc h.dig hcB) ?_ (sets_blk hb rfl) h.below
      rw [val_snoc, h.len, h.eq, take_all (by rw [HNN.out]; omega), HVA.out])
     clear HS HRET
     go_wp2_with (go_at_call 88; refine HT.out.mono ?_; rintro e w4 ⟨hq4, v4, rfl⟩; have HQ4 := zh hq4; clear hq4)
     exact HQ4.out
end Go.Proofs.Tg.Iw
end
namespace Go.Proofs.Tg.Iw
section
open Go.RowKit Go.Bw Go.Gr Go.Proofs.Tg
structure ShR (w0 : World) (g n : Nat) (D : List Nat) (wr : World) (i : Nat) : Prop where
  blk : Blk wr g 118 (warr (D.take i ++ List.replicate (n - i) 0))
  below : Below w0.heap.size w0 wr
theorem shr_list {D : List Nat} {n i d : Nat} (hl : D.length = n) (hi : i < n) (hd : D[i]? = some d) : (D.take i ++ List.replicate (n - i) 0).set i d = D.take (i + 1) ++ List.replicate (n - (i + 1)) 0 := by
 obtain ⟨m, hm⟩ : ∃ m, n - i = m + 1 := ⟨n - i - 1, by omega⟩
 have h1 : (D.take i).length = i := by rw [List.length_take]; omega
 have hi2 : i < D.length := by omega
 have e : D[i] = d := by
  rw [List.getElem?_eq_getElem hi2] at hd; injection hd
 rw [List.set_append_right _ _ (by omega), h1, Nat.sub_self, hm, List.replicate_succ, List.set_cons_zero, show n - (i + 1) = m by omega, List.take_succ_eq_append_getElem hi2, e, List.append_assoc]
 rfl
theorem shr_w (X : Option Addr) (cx a s : Nat) (w : World) (hX : NW w X cx a) (hs : s < 64) (hn : (dg a).length ≤ 500000) :
    Calls Tryz.prog 131 #[.slice X (dg a).length cx, .int .u64 (s : Nat)] w (RetW (a / 2 ^ s) w) := by
  obtain ⟨Q, hQ⟩ := eqx (RetW (a / 2 ^ s) w); have HX := zh hX
  have s1 : (s : Int) / 64 = 0 := by omega
  have s2 : (s : Int) % 64 = (s : Int) := by omega
  have s3 : (s : Int).tdiv 64 = 0 := by rw [Int.tdiv_eq_ediv_of_nonneg (by omega)]; exact s1
  have s4 : (s : Int).tmod 64 = (s : Int) := by rw [Int.tmod_eq_emod_of_nonneg (by omega)]; exact s2
  by_cases h0 : (dg a).length = 0
  ·have HRET : Hid (Q (.returned (.slice none 0 0)) w) := zh (by
    have := len_zero h0; subst this; rw [← hQ, Nat.zero_div]; refine ⟨none, 0, ?_, NW.zero _ _ _, Below.refl _ _⟩
    rw [dg_zero]; rfl)
   rw [hQ, h0]; have w0 : IntKind.u64.wrap (((0 : Nat) : Int)) = 0 := rfl; clear hQ hX h0; go_enter Tryz.func131, Tryz.ntmps131; go_wp2; exact HRET.out
  ·have HRET : Hid (∀ zs w', zs.length = (dg a).length → Dig zs → val zs = a / 2 ^ s → Sets w' (some ⟨w.heap.size, 0, none⟩) zs → Below w.heap.size w w' → Calls Tryz.prog 88 #[.slice (some ⟨w.heap.size, 0, none⟩) (dg a).length (dg a).length] w' fun e w'' => Q e w'' ∧ ∃ v, e = .returned v) := zh (fun zs w' h1 h2 h3 h4 h5 => by
    have := trim_n (some ⟨w.heap.size, 0, none⟩) (dg a).length zs w' h4 h2 (by omega) (by omega); rw [h1, h3] at this; refine this.mono ?_; rintro e w'' ⟨rfl, rfl, hN⟩
    exact ⟨by rw [← hQ]; exact ⟨_, _, rfl, hN, h5⟩, _, rfl⟩)
   have hmk := make_words (dg a).length (by omega) w; have hwr : IntKind.u64.wrap ((dg a).length : Int) = ((dg a).length : Int) := Go.Proofs.Mul64.wrapN _ (by omega); have z1 : decide (((dg a).length : Int) ≤ 0) = false := dF (by omega); have z2 : decide ((dg a).length ≤ 0) = false := dF (by omega); have z3 : ((dg a).length = 0) = False := eq_false h0; have z4 : decide ((dg a).length = 0) = false := dF h0; obtain ⟨W, hW⟩ := eqx (w.alloc (.cells (madeCells #[.int .u64 0] (dg a).length) 118))
   have H0 : Hid (ShR w w.heap.size (dg a).length (shrD s (dg a)) W 0) := zh (by
    refine ⟨?_, ?_⟩
    ·rw [← hW, List.take_zero, List.nil_append, Nat.sub_zero, ← warr_made]; exact Blk.new _ _ _
    ·rw [← hW]; exact bal)
   rw [hW] at hmk; have HVA : Hid (val (shrD s (dg a)) = a / 2 ^ s) := zh (by rw [shrD_val hs, val_dg]); have HDA := zh (dg_dig a); have HDD := zh (shrD_dig hs (dg_dig a)); have HWD := zh hX.wds; rw [hQ]; obtain ⟨n, hnn⟩ := eqx ((dg a).length); have HNN := zh hnn; have HDL : Hid ((shrD s (dg a)).length = n) := zh (by rw [shrD_len, hnn]); rw [hnn] at hn z1 z2 z3 z4 HRET hmk hwr H0 ⊢; clear hQ hX hW h0 hnn HX; generalize dg a = xs at *; have HAT := zh (fun i x (h : xs[i]? = some x) => shrD_at (k := s) h); generalize shrD s xs = D at *; go_enter Tryz.func131, Tryz.ntmps131; go_wp2; clear hmk
   go_loopw [27] (fun s27 wr => ∃ i : Nat, s27 = .int .i64 i ∧ i ≤ n ∧ Hid (ShR w w.heap.size n D wr i)) (fun s27 _ => n - (intOf s27).toNat)
   case atStart => exact ⟨0, rfl, Nat.zero_le _, H0⟩
   case round =>
    clear H0; obtain ⟨wo, rfl⟩ : ∃ wo : World, wo = wr := ⟨_, rfl⟩; obtain ⟨i, rfl, hi, HS⟩ := hrel
    by_cases hin : i < n
    ·have hix : i < xs.length := by rw [HNN.out]; exact hin
     obtain ⟨ad, hX2, hcx⟩ := Sets.at' (Sl.keep HWD.out HS.out.below) hix; subst hX2
     have hablt : ad.block < w.heap.size := by
      obtain ⟨ad', e, h, _⟩ := Sl.lies HWD.out (show 0 < xs.length by omega)
      injection e with e
      subst e; exact h
     have hxB := HDA.out xs[i] (List.getElem_mem _); have c0 := HS.out.blk.cell i; have f0 := HS.out.blk.frozen i
     have e0 : (D.take i ++ List.replicate (n - i) 0)[i]? = some 0 := by
      obtain ⟨m, hm⟩ : ∃ m, n - i = m + 1 := ⟨n - i - 1, by omega⟩; rw [List.getElem?_append_right (by rw [List.length_take]; omega), List.length_take, HDL.out, Nat.min_eq_left hi, Nat.sub_self, hm, List.replicate_succ]; rfl
     rw [warr_at e0] at c0; have HA := HAT.out i xs[i] (List.getElem?_eq_getElem hix); obtain ⟨x, hx⟩ := eqx (xs[i]); rw [hx] at hcx hxB HA; obtain ⟨u, hu⟩ := eqx (x / 2 ^ s)
     have W2 : (x : Int) / 2 ^ s = (u : Int) := by
      have e : (x : Int) / 2 ^ s = ((x / 2 ^ s : Nat) : Int) := by simp
      rw [e, hu]
     have huB : u < 18446744073709551616 := by rw [← hu]; exact Nat.lt_of_le_of_lt (Nat.div_le_self _ _) hxB
     have q0 : (0 : Int) ≤ (i : Int) := by omega
     have q1 : (i : Int) < (n : Int) := by omega
     have q3 : ((i : Int)).toNat = i := by omega
     have q6 : ((i : Int) + 1).toNat = i + 1 := by omega
     have q7 : (0 : Int) ≤ (i : Int) + 1 := by omega
     have d1 : decide ((i : Int) < (n : Int)) = true := dT q1; have d2 : decide (i < n) = true := dT hin; have y4 : IntKind.i64.wrap ((i : Int) + 1) = (i : Int) + 1 := IntWalk.i64_in _ (by omega); have y5 : IntKind.i64.wrap (i : Int) = (i : Int) := IntWalk.i64_in _ (by omega)
     have y6 : IntKind.u64.wrap (64 - (s : Int)) = 64 - (s : Int) := by rw [IntKind.wrap_u64]; omega
     have y7 : (64 - (s : Int)).toNat = 64 - s := by omega
     have y8 : (0 : Int) ≤ 64 - (s : Int) := by omega
     have HNX : Hid (∀ d, D[i]? = some d → ∀ V, Blk V w.heap.size 118 (warr ((D.take i ++ List.replicate (n - i) 0).set i d)) → Below w.heap.size w V → ShR w w.heap.size n D V (i + 1)) := zh (fun d hd V hB hb => ⟨by rw [← shr_list HDL.out hin hd]; exact hB, hb⟩)
     by_cases hi1 : i + 1 < n
     ·obtain ⟨j, hj⟩ := eqx (i + 1); rw [hj] at HA hi1
      have hix1 : j < xs.length := by rw [HNN.out]; exact hi1
      obtain ⟨ad2, hX2, hcy⟩ := Sets.at' (Sl.keep HWD.out HS.out.below) hix1
      injection hX2 with hX2
      subst hX2; have hyB := HDA.out xs[j] (List.getElem_mem _); rw [List.getElem?_eq_getElem hix1] at HA; generalize xs[j] = y at *; simp only at HA; obtain ⟨v, hv⟩ := eqx (y * 2 ^ (64 - s) % B)
      have hvB : v < 18446744073709551616 := by rw [← hv]; exact Nat.mod_lt _ (by decide)
      have W1 : IntKind.u64.wrap ((y : Int) * 2 ^ (64 - s)) = (v : Int) := by
       have e : (y : Int) * 2 ^ (64 - s) = ((y * 2 ^ (64 - s) : Nat) : Int) := by simp
       rw [e, ← hv]; exact Go.Proofs.Mul64.wrapM _
      have hor := shr_or (y := y) hs hxB; rw [hv, hu] at hor; rw [hv, hu] at HA; obtain ⟨d, hd⟩ := eqx (u + v); rw [hd] at hor HA
      have W3 : bits .or .u64 (u : Int) (v : Int) = (d : Int) := by rw [u64_or_nat u v huB hvB, hor]
      have HD := zh HA
      have q8 : (j : Int) < (n : Int) := by omega
      have d3 : decide ((j : Int) < (n : Int)) = true := dT q8; have d4 : decide (j < n) = true := dT hi1
      have q9 : (i : Int) + 1 = (j : Int) := by omega
      have q10 : (0 : Int) ≤ (j : Int) := by omega
      have q11 : ((j : Int)).toNat = j := by omega
      have y9 : IntKind.i64.wrap ((i : Int) + 1) = (j : Int) := y4.trans q9; have y10 : IntKind.i64.wrap (j : Int) = (j : Int) := IntWalk.i64_in _ (by omega); clear y4 q6 q7 hj; have hB1 := HS.out.blk.set i (.int .u64 (u : Nat)); rw [warr_set] at hB1; have hB2 := hB1.set i (.int .u64 (d : Nat)); rw [warr_set, List.set_set] at hB2; have hb1 := below_far HS.out.below (show w.heap.size ≤ w.heap.size from Nat.le_refl _) i (.int .u64 (u : Nat))
      have hne : ad.block ≠ w.heap.size := by omega
      clear HA hor hd hv hu hx hxB hyB huB hvB e0 hix hix1 HAT; go_upto_region 9 with (fail); have c1 := hB1.cell i; rw [warr_at (v := u) (List.getElem?_set_self (by rw [List.length_append, List.length_take, List.length_replicate, HDL.out]; omega))] at c1; have f1 := hB1.frozen i
      have hcy2 : (wo.setCell ⟨w.heap.size, i, none⟩ (.int .u64 (u : Nat))).cell? (ad.add j) = some (.int .u64 (y : Nat)) := by
       rw [World.cell?_setCell_other _ _ _ _ (fun e => hne (by have := congrArg Addr.block e; rw [add_block] at this; exact this.symm))]; exact hcy
      generalize hW1 : wo.setCell ⟨w.heap.size, i, none⟩ (.int .u64 (u : Nat)) = W1 at *; clear hcx hcy c0 f0 hW1; go_upto_region 10 with (fail); have HY := zh (fun V (hB : Blk V w.heap.size 118 (warr ((D.take i ++ List.replicate (n - i) 0).set i d))) (hb : Below w.heap.size w V) => HNX.out d HD.out V hB hb)
      have HB2 : Hid (∀ V, Below W1.heap.size W1 V → Blk (V.setCell ⟨w.heap.size, i, none⟩ (.int .u64 (d : Nat))) w.heap.size 118 (warr ((D.take i ++ List.replicate (n - i) 0).set i d)) ∧ Below w.heap.size w (V.setCell ⟨w.heap.size, i, none⟩ (.int .u64 (d : Nat)))) := zh (fun V h => by
       have h1 := (hB1.keep h hB1.lt).set i (.int .u64 (d : Nat)); rw [warr_set, List.set_set] at h1
       exact ⟨h1, below_far (below_all hb1 h) (Nat.le_refl _) _ _⟩)
      clear hB2 HNX; have BZ : Below W1.heap.size W1 W1.drew := brf.drew; refine wp_region_held_drew (S := (fun w' => w'.cell? (ad.add j) = some (.int .u64 (y : Nat)))) (by kernel_rfl) (keep_cell BZ hcy2) (fun hHeld => ?_); generalize W1.drew = Z at *; refine wpAnyH_get 0 (some 48) (.slice (some ⟨w.heap.size, 0, none⟩) n n) rfl rfl (by kernel_rfl) (by kernel_rfl) (by kernel_rfl) (fun _ _ _ h => h) (by rfl) hHeld ?_ ?_
      ·(intro w hSw; (try dsimp only at hSw); go_simp; all_goals (try with_reducible rfl))
      (try simp only [put4]); refine wpAnyH_get 1 (some 49) (.int .i64 i) rfl rfl (by kernel_rfl) (by kernel_rfl) (by kernel_rfl) (fun _ _ _ h => h) (by rfl) hHeld ?_ ?_
      ·(intro w hSw; (try dsimp only at hSw); go_simp; all_goals (try with_reducible rfl))
      (try simp only [put4]); refine wpAnyH_get 2 (some 50) (.pointer (some ⟨w.heap.size, i, none⟩)) rfl rfl (by kernel_rfl) (by kernel_rfl) (by kernel_rfl) (fun _ _ _ h => h) (by rfl) hHeld ?_ ?_
      ·(intro w hSw; (try dsimp only at hSw); go_simp; all_goals (try with_reducible rfl))
      (try simp only [put4]); refine wpAnyH_get 4 (some 52) (.slice (some ad) n cx) rfl rfl (by kernel_rfl) (by kernel_rfl) (by kernel_rfl) (fun _ _ _ h => h) (by rfl) hHeld ?_ ?_
      ·(intro w hSw; (try dsimp only at hSw); go_simp; all_goals (try with_reducible rfl))
      (try simp only [put4]); refine wpAnyH_get 5 (some 53) (.int .i64 i) rfl rfl (by kernel_rfl) (by kernel_rfl) (by kernel_rfl) (fun _ _ _ h => h) (by rfl) hHeld ?_ ?_
      ·(intro w hSw; (try dsimp only at hSw); go_simp; all_goals (try with_reducible rfl))
      (try simp only [put4]); refine wpAnyH_get 6 (some 54) (.int .i64 0) rfl rfl (by kernel_rfl) (by kernel_rfl) (by kernel_rfl) (fun _ _ _ h => h) (by rfl) hHeld ?_ ?_
      ·(intro w hSw; (try dsimp only at hSw); go_simp; all_goals (try with_reducible rfl))
      (try simp only [put4]); refine wpAnyH_get 7 (some 55) (.int .i64 i) rfl rfl (by kernel_rfl) (by kernel_rfl) (by kernel_rfl) (fun _ _ _ h => h) (by rfl) hHeld ?_ ?_
      ·(intro w hSw; (try dsimp only at hSw); go_simp; all_goals (try with_reducible rfl))
      (try simp only [put4]); refine wpAnyH_get 8 (some 56) (.int .i64 (j : Nat)) rfl rfl (by kernel_rfl) (by kernel_rfl) (by kernel_rfl) (fun _ _ _ h => h) (by rfl) hHeld ?_ ?_
      ·(intro w hSw; (try dsimp only at hSw); go_simp; all_goals (try with_reducible rfl))
      (try simp only [put4]); refine wpAnyH_get 9 (some 57) (.pointer (some (ad.add j))) rfl rfl (by kernel_rfl) (by kernel_rfl) (by kernel_rfl) (fun _ _ _ h => h) (by rfl) hHeld ?_ ?_
      ·(intro w hSw; (try dsimp only at hSw); go_simp; all_goals (try with_reducible rfl))
      (try simp only [put4]); refine wpAnyH_get 10 (some 58) (.int .u64 (y : Nat)) rfl rfl (by kernel_rfl) (by kernel_rfl) (by kernel_rfl) (fun _ _ _ h => h) (by rfl) hHeld ?_ ?_
      ·(intro w hSw; (try dsimp only at hSw); go_simp; all_goals (try with_reducible rfl))
      (try simp only [put4]); refine wpAnyH_get 11 (some 59) (.int .u64 (s : Nat)) rfl rfl (by kernel_rfl) (by kernel_rfl) (by kernel_rfl) (fun _ _ _ h => h) (by rfl) hHeld ?_ ?_
      ·(intro w hSw; (try dsimp only at hSw); go_simp; all_goals (try with_reducible rfl))
      (try simp only [put4]); refine wpAnyH_get 12 (some 60) (.int .u64 (64 - (s : Int))) rfl rfl (by kernel_rfl) (by kernel_rfl) (by kernel_rfl) (fun _ _ _ h => h) (by rfl) hHeld ?_ ?_
      ·(intro w hSw; (try dsimp only at hSw); go_simp; all_goals (try with_reducible rfl))
      (try simp only [put4]); refine wpAnyH_get 13 (some 61) (.int .u64 (v : Nat)) rfl rfl (by kernel_rfl) (by kernel_rfl) (by kernel_rfl) (fun _ _ _ h => h) (by rfl) hHeld ?_ ?_
      ·(intro w hSw; (try dsimp only at hSw); go_simp; all_goals (try with_reducible rfl))
      (try simp only [put4]); refine wpAnyH_ready (rs := [3]) (by kernel_rfl) (by simp) ?_; refine AllReadyH.cons rfl (fun K hK => ?_) AllReadyH.nil; have cz := keep_cell BZ c1; go_simp; refine hK.out _ _ (keep_cell BZ hcy2) (fun hHeld => ?_); clear hK K cz; have BZ1 := BZ; generalize Z = Z1 at *; (try simp only [put4]); refine wpAnyH_get 14 (some 62) (.int .u64 (d : Nat)) rfl rfl (by kernel_rfl) (by kernel_rfl) (by kernel_rfl) (fun _ _ _ h => h) (by rfl) hHeld ?_ ?_
      ·(intro w hSw; (try dsimp only at hSw); go_simp; all_goals (try with_reducible rfl))
      (try simp only [put4]); refine wpAnyH_get 15 (some 63) (.pointer (some ⟨w.heap.size, i, none⟩)) rfl rfl (by kernel_rfl) (by kernel_rfl) (by kernel_rfl) (fun _ _ _ h => h) (by rfl) hHeld ?_ ?_
      ·(intro w hSw; (try dsimp only at hSw); go_simp; all_goals (try with_reducible rfl))
      (try simp only [put4]); refine wpAnyH_ready (rs := [16]) (by kernel_rfl) (by simp) ?_; refine AllReadyH.cons rfl (fun K hK => ?_) AllReadyH.nil; have cz := keep_cell BZ1 c1; have fz := (hB1.keep BZ1 hB1.lt).frozen i; obtain ⟨hB3, hb3⟩ := HB2.out _ BZ1; have HY2 := zh (HY.out _ hB3 hb3)
      have hcz : (Z1.setCell ⟨w.heap.size, i, none⟩ (.int .u64 (d : Nat))).cell? (ad.add j) = some (.int .u64 (y : Nat)) := by
       rw [World.cell?_setCell_other _ _ _ _ (fun e => hne (by have := congrArg Addr.block e; rw [add_block] at this; exact this.symm))]; exact keep_cell BZ1 hcy2
      clear hB3 hb3; go_simp; refine hK.out _ _ hcz (fun hHeld => ?_); clear hK K cz fz; (try simp only [put4]); refine wpAnyH_done (by kernel_rfl) ?_ _; go_wp2; go_roundw
      case rel => exact ⟨i + 1, by go_num, by omega, HY2⟩
      case measure => simp [intOf]; omega
     ·rw [List.getElem?_eq_none (l := xs) (i := i + 1) (by rw [HNN.out]; omega)] at HA; simp only at HA; rw [hu] at HA; have HD := zh HA; have d3 : decide ((i : Int) + 1 < (n : Int)) = false := dF (by omega); have hB1 := HS.out.blk.set i (.int .u64 (u : Nat)); rw [warr_set] at hB1; have HY := zh (HNX.out u HA _ hB1 (below_far HS.out.below (Nat.le_refl _) i (.int .u64 (u : Nat)))); clear HA hu hx hxB huB e0 hix HAT hB1 HNX; go_wp2; go_roundw
      case rel => exact ⟨i + 1, by go_num, by omega, HY⟩
      case measure => simp [intOf]; omega
    ·obtain rfl : i = n := by omega
     have d1 : decide ((i : Int) < (i : Int)) = false := by simp
     have HT : Hid (Calls Tryz.prog 88 #[.slice (some ⟨w.heap.size, 0, none⟩) i i] wo fun e w'' => Q e w'' ∧ ∃ v, e = .returned v) := zh (by
      have h := HS.out; have hb := h.blk; rw [Nat.sub_self, List.replicate_zero, List.append_nil, List.take_of_length_le (by have := HDL.out; omega)] at hb
      exact HRET.out D wo HDL.out HDD.out HVA.out (sets_blk hb rfl) h.below)
     clear HS HRET
     go_wp2_with (go_at_call 88; refine HT.out.mono ?_; rintro e w4 ⟨hq4, v4, rfl⟩; have HQ4 := zh hq4; clear hq4)
     exact HQ4.out
end
end Go.Proofs.Tg.Iw
section
namespace Go.Bw
theorem dw_step {xs qs : List Nat} {j h r : Nat} (hj : j < xs.length) (hh : 0 < h) (he : val (xs.drop (j + 1)) = h * val qs + r) : val (xs.drop j) = h * val ((r * B + xs[j]) / h :: qs) + (r * B + xs[j]) % h := by
 rw [val_drop hj, he]
 have := Nat.div_add_mod (r * B + xs[j]) h
 show _ = h * ((r * B + xs[j]) / h + B * val qs) + _
 rw [Nat.mul_add, Nat.mul_add, Nat.mul_left_comm h B]
 generalize h * val qs = a at *
 generalize h * ((r * B + xs[j]) / h) = b at *
 rw [Nat.mul_comm B r]
 omega
theorem dw_fit {x h r : Nat} (hr : r < h) (hx : x < B) : (r * B + x) / h < B := by
 have h1 := Nat.mul_le_mul_right B (show r + 1 ≤ h from hr)
 rw [Nat.add_mul, Nat.one_mul] at h1
 exact Nat.div_lt_of_lt_mul (by omega)
end Go.Bw
namespace Go.Proofs.Tg.Iw
open Go.RowKit Go.Bw Go.Gr Go.Proofs.Tg
structure DwM (w0 : World) (g h : Nat) (xs : List Nat) (wr : World) (i r : Nat) (qs : List Nat) : Prop where
  len : qs.length + i = xs.length
  dig : Dig qs
  lt : r < h
  eq : val (xs.drop i) = h * val qs + r
  blk : Blk wr g 118 (warr (List.replicate i 0 ++ qs))
  below : Below w0.heap.size w0 wr
structure RwM (w0 : World) (h : Nat) (xs : List Nat) (wr : World) (i r : Nat) (qs : List Nat) : Prop where
  len : qs.length + i = xs.length
  lt : r < h
  eq : val (xs.drop i) = h * val qs + r
  below : Below w0.heap.size w0 wr
theorem qset_w (j q : Nat) (qs : List Nat) : (List.replicate (j + 1) 0 ++ qs).set j q = List.replicate j 0 ++ (q :: qs) := by
 rw [List.set_append_left _ _ (by simp), List.replicate_succ', List.set_append_right _ _ (by simp), List.length_replicate, Nat.sub_self, List.set_cons_zero]
 simp
theorem DwM.next {w0 wr : World} {g h j r : Nat} {xs qs : List Nat} (s : DwM w0 g h xs wr (j + 1) r qs) (hj : j < xs.length) (hg : w0.heap.size ≤ g) (hx : xs[j] < B) :
    DwM w0 g h xs (wr.setCell ⟨g, j, none⟩ (.int .u64 ((r * B + xs[j]) / h : Nat))) j ((r * B + xs[j]) % h) ((r * B + xs[j]) / h :: qs) := by
  have hb := s.blk.set j (.int .u64 ((r * B + xs[j]) / h : Nat)); rw [warr_set, qset_w] at hb; have hh : 0 < h := Nat.lt_of_le_of_lt (Nat.zero_le _) s.lt; refine ⟨by have := s.len; simp only [List.length_cons]; omega, dig_cons (dw_fit s.lt hx) s.dig, Nat.mod_lt _ hh, dw_step hj hh s.eq, hb, below_far s.below hg _ _⟩
theorem DwM.keep {w0 wr wz : World} {g h i r : Nat} {xs qs : List Nat} (s : DwM w0 g h xs wr i r qs) (hb : Below wr.heap.size wr wz) : DwM w0 g h xs wz i r qs := ⟨s.len, s.dig, s.lt, s.eq, s.blk.keep hb s.blk.lt, below_all s.below hb⟩
theorem dw_out {h n r : Nat} {qs : List Nat} (hr : r < h) (he : n = h * val qs + r) : val qs = n / h ∧ r = n % h := by
 have hh : 0 < h := Nat.lt_of_le_of_lt (Nat.zero_le _) hr
 subst he
 constructor
 ·rw [Nat.mul_add_div hh, Nat.div_eq_of_lt hr, Nat.add_zero]
 ·rw [Nat.mul_add_mod, Nat.mod_eq_of_lt hr]
def RetDw (h : Nat) (xs : List Nat) (w : World) (e : Ending) (w' : World) : Prop := ∃ R c, e = .returned (.tuple #[.slice R (dg (val xs / h)).length c, .int .u64 (val xs % h : Nat)]) ∧ NW w' R c (val xs / h) ∧ Below w.heap.size w w'
theorem dw_any (X : Option Addr) (cx h : Nat) (xs : List Nat) (w : World) (hX : Sets w X xs) (hd : Dig xs) (h0 : 0 < h) (hB : h < 18446744073709551616) (hn : xs.length ≤ 900000) :
    Calls Tryz.prog 132 #[.slice X xs.length cx, .int .u64 (h : Nat)] w (RetDw h xs w) := by
  obtain ⟨Q, hQ⟩ := eqx (RetDw h xs w)
  have HRET : Hid (∀ r qs wr, DwM w w.heap.size h xs wr 0 r qs → Calls Tryz.prog 88 #[.slice (some ⟨w.heap.size, 0, none⟩) xs.length xs.length] wr fun e w'' => ∃ R c m, e = .returned (.slice R m c) ∧ Q (.returned (.tuple #[.slice R m c, .int .u64 (r : Nat)])) w'') := zh (fun r qs wr s => by
   have hl : qs.length = xs.length := by have := s.len; omega
   have he := s.eq; rw [List.drop_zero] at he; obtain ⟨g1, g2⟩ := dw_out s.lt he; have := trim_n (some ⟨w.heap.size, 0, none⟩) xs.length qs wr (sets_blk s.blk rfl) s.dig (by omega) (by omega); rw [hl, g1] at this; refine this.mono ?_; rintro e w'' ⟨rfl, rfl, hN⟩
   exact ⟨_, _, _, rfl, by rw [← hQ, g2]; exact ⟨_, _, rfl, hN, s.below⟩⟩)
  have hmk := make_words xs.length (by omega) w; obtain ⟨W, hW⟩ := eqx (w.alloc (.cells (madeCells #[.int .u64 0] xs.length) 118))
  have H0 : Hid (DwM w w.heap.size h xs W xs.length 0 []) := zh (by
   refine ⟨by simp, fun _ hx => absurd hx (by simp), h0, by rw [List.drop_length]; simp [val], ?_, ?_⟩
   ·rw [← hW, List.append_nil, ← warr_made]; exact Blk.new _ _ _
   ·rw [← hW]; exact bal)
  rw [hW] at hmk; have HWD := zh hX; have HDG := zh hd; rw [hQ]; obtain ⟨n, hnn⟩ := eqx (xs.length); have HNN := zh hnn; rw [hnn] at hn hmk HRET H0 ⊢; clear hQ hX hd hnn hW; go_enter Tryz.func132, Tryz.ntmps132; go_wp2; clear hmk
  go_loopw [7, 8] (fun sr si wr => ∃ (i r : Nat) (qs : List Nat), si = .int .i64 ((i : Int) - 1) ∧ i ≤ n ∧ sr = .int .u64 (r : Nat) ∧ Hid (DwM w w.heap.size h xs wr i r qs)) (fun _ si _ => (intOf si + 1).toNat)
  case atStart => exact ⟨n, 0, [], rfl, Nat.le_refl _, rfl, H0⟩
  case round =>
   clear H0; obtain ⟨wo, rfl⟩ : ∃ wo : World, wo = wr := ⟨_, rfl⟩; obtain ⟨i, r, qs, rfl, hi, rfl, HS⟩ := hrel
   cases i with
   | zero =>
     have dd : decide ((0 : Int) ≤ ((0 : Nat) : Int) - 1) = false := by decide
     have HT := zh (HRET.out r qs wo HS.out); clear HRET HS
     go_wp2_with (go_at_call 88; refine HT.out.mono ?_; rintro e w4 ⟨R, c, m, rfl, hq4⟩; have HQ4 := zh hq4; clear hq4)
     exact HQ4.out
   | succ j =>
     have hjx : j < xs.length := by rw [HNN.out]; omega
     have e : (((j + 1 : Nat) : Int) - 1) = (j : Int) := by omega
     rw [e]; clear e; obtain ⟨ad, hX2, hcx⟩ := Sets.at' (Sl.keep HWD.out HS.out.below) hjx; subst hX2; have hxB := HDG.out xs[j] (List.getElem_mem _); have HNX : Hid (∀ V, Below wo.heap.size wo V → DwM w w.heap.size h xs (V.setCell ⟨w.heap.size, j, none⟩ (.int .u64 ((r * B + xs[j]) / h : Nat))) j ((r * B + xs[j]) % h) ((r * B + xs[j]) / h :: qs)) := zh (fun V hV => (HS.out.keep hV).next hjx (Nat.le_refl _) hxB)
     have HCB : Hid (∀ V, Below wo.heap.size wo V → V.cell? ⟨w.heap.size, j, none⟩ = some (.int .u64 ((0 : Nat) : Int)) ∧ V.frozen? ⟨w.heap.size, j, none⟩ = false) := zh (fun V hV => by
      have hb := (HS.out.keep hV).blk; refine ⟨(hb.cell j).trans (warr_at ?_), hb.frozen j⟩
      rw [List.getElem?_append_left (by simp), List.getElem?_replicate, if_pos (by omega)])
     have hrh := HS.out.lt; generalize xs[j] = x at *; have hD := div64 r x h hrh hxB hB; obtain ⟨q, hq⟩ := eqx ((r * B + x) / h); obtain ⟨r2, hr2⟩ := eqx ((r * B + x) % h); rw [hq, hr2] at hD HNX; have HD := zh hD; clear hq hr2 hD
     have q0 : (0 : Int) ≤ (j : Int) := by omega
     have q1 : (j : Int) < (n : Int) := by omega
     have q3 : ((j : Int)).toNat = j := by omega
     have d1 : decide ((0 : Int) ≤ (j : Int)) = true := dT q0; have y1 : IntKind.i64.wrap ((j : Int) - 1) = (j : Int) - 1 := IntWalk.i64_in _ (by omega)
     go_wp2_with (go_at_call 115; refine (HD.out _).mono ?_; rintro e w2 ⟨rfl, hb2⟩; obtain ⟨c2, f2⟩ := HCB.out w2 hb2)
     go_roundw
     case rel => exact ⟨j, r2, _, rfl, by omega, rfl, zh (HNX.out _ hb2)⟩
     case measure => simp [intOf]
def RetRw (h : Nat) (xs : List Nat) (w : World) (e : Ending) (w' : World) : Prop := e = .returned (.int .u64 (val xs % h : Nat)) ∧ Below w.heap.size w w'
theorem rw_any (X : Option Addr) (cx h : Nat) (xs : List Nat) (w : World) (hX : Sets w X xs) (hd : Dig xs) (h0 : 0 < h) (hB : h < 18446744073709551616) (hn : xs.length ≤ 900000) :
    Calls Tryz.prog 91 #[.slice X xs.length cx, .int .u64 (h : Nat)] w (RetRw h xs w) := by
  obtain ⟨Q, hQ⟩ := eqx (RetRw h xs w)
  have HRET : Hid (∀ r qs wr, RwM w h xs wr 0 r qs → Q (.returned (.int .u64 (r : Nat))) wr) := zh (fun r qs wr s => by
   have he := s.eq; rw [List.drop_zero] at he; obtain ⟨g1, g2⟩ := dw_out s.lt he; rw [← hQ, g2]
   exact ⟨rfl, s.below⟩)
  have H0 : Hid (RwM w h xs w xs.length 0 []) := zh ⟨by simp, h0, by rw [List.drop_length]; simp [val], Below.refl _ _⟩; have HWD := zh hX; have HDG := zh hd; rw [hQ]; obtain ⟨n, hnn⟩ := eqx (xs.length); have HNN := zh hnn; rw [hnn] at hn H0 ⊢; clear hQ hX hd hnn; go_enter Tryz.func91, Tryz.ntmps91; go_wp2

  go_loopw [5, 6] (fun sr si wr => ∃ (i r : Nat) (qs : List Nat), si = .int .i64 ((i : Int) - 1) ∧ i ≤ n ∧ sr = .int .u64 (r : Nat) ∧ Hid (RwM w h xs wr i r qs)) (fun _ si _ => (intOf si + 1).toNat)
  case atStart => exact ⟨n, 0, [], rfl, Nat.le_refl _, rfl, H0⟩
  case round =>
   clear H0; obtain ⟨wo, rfl⟩ : ∃ wo : World, wo = wr := ⟨_, rfl⟩; obtain ⟨i, r, qs, rfl, hi, rfl, HS⟩ := hrel
   cases i with
   | zero =>
     have dd : decide ((0 : Int) ≤ ((0 : Nat) : Int) - 1) = false := by decide
     have HT := zh (HRET.out r qs wo HS.out); clear HRET HS; go_wp2; exact HT.out
   | succ j =>
     have hjx : j < xs.length := by rw [HNN.out]; omega
     have e : (((j + 1 : Nat) : Int) - 1) = (j : Int) := by omega
     rw [e]; clear e; obtain ⟨ad, hX2, hcx⟩ := Sets.at' (Sl.keep HWD.out HS.out.below) hjx; subst hX2; have hxB := HDG.out xs[j] (List.getElem_mem _)
     have HNX : Hid (∀ V, Below wo.heap.size wo V → RwM w h xs V j ((r * B + xs[j]) % h) ((r * B + xs[j]) / h :: qs)) := zh (fun V hV => by
      have s := HS.out; have hh : 0 < h := Nat.lt_of_le_of_lt (Nat.zero_le _) s.lt
      exact ⟨by have := s.len; simp only [List.length_cons]; omega, Nat.mod_lt _ hh, dw_step hjx hh s.eq, below_all s.below hV⟩)
     have hrh := HS.out.lt; generalize xs[j] = x at *; have hD := div64 r x h hrh hxB hB; obtain ⟨q, hq⟩ := eqx ((r * B + x) / h); obtain ⟨r2, hr2⟩ := eqx ((r * B + x) % h); rw [hq, hr2] at hD HNX; have HD := zh hD; clear hq hr2 hD
     have q0 : (0 : Int) ≤ (j : Int) := by omega
     have q1 : (j : Int) < (n : Int) := by omega
     have q3 : ((j : Int)).toNat = j := by omega
     have d1 : decide ((0 : Int) ≤ (j : Int)) = true := dT q0; have y1 : IntKind.i64.wrap ((j : Int) - 1) = (j : Int) - 1 := IntWalk.i64_in _ (by omega)
     go_wp2_with (go_at_call 115; refine (HD.out _).mono ?_; rintro e w2 ⟨rfl, hb2⟩)
     go_roundw
     case rel => exact ⟨j, r2, _, rfl, by omega, rfl, zh (HNX.out _ hb2)⟩
     case measure => simp [intOf]
end Go.Proofs.Tg.Iw
end
