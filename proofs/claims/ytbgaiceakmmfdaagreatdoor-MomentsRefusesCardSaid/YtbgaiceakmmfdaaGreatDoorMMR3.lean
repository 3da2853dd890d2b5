/- Parts of the proof: BN3, BN6, BN8, BN14. -/
import Derived.Deep.Cut
import Derived.Laws.BitsAllLaws
import Derived.Laws.AppendOwnNone
import Derived.Test.YtbgaiceakmmfdaaGreatDoorMMR0
import Derived.Test.YtbgaiceakmmfdaaGreatDoorMMR2
set_option maxHeartbeats 64000000
set_option maxRecDepth 100000
namespace Go.Proofs.Tg
section
open Go.RowKit Go.Gr Go.Bn
structure AddSt (us vs : List Nat) (g : Nat) (w0 wr : World) (k cr : Nat) (zs : List Nat) : Prop where
  len : zs.length = k
  dig : Dig zs
  le1 : cr ≤ 1
  sum : val zs + B ^ k * cr = val (us.take k) + val (vs.take k)
  blk : Blk wr g 103 (darr (zs ++ List.replicate (us.length + 1 - k) 0))
  below : Below w0.heap.size w0 wr
theorem val_take_succ {xs : List Nat} {k : Nat} (h : k < xs.length) : val (xs.take (k + 1)) = val (xs.take k) + B ^ k * xs[k] := by
 rw [List.take_succ_eq_append_getElem h, val_app, List.length_take, Nat.min_eq_left (by omega)]
 simp [val]
theorem val_take_all {xs : List Nat} {k : Nat} (h : xs.length ≤ k) : val (xs.take k) = val xs := by rw [List.take_of_length_le h]
theorem zs_set {zs : List Nat} {k n : Nat} (h : zs.length = k) (hk : k < n) (s : Nat) : (zs ++ List.replicate (n - k) 0).set k s = (zs ++ [s]) ++ List.replicate (n - (k + 1)) 0 := by
 rw [List.set_append_right _ _ (by omega), h, Nat.sub_self, show n - k = (n - (k + 1)) + 1 by omega, List.replicate_succ, List.set_cons_zero]; simp
theorem add_step {zs : List Nat} {k s : Nat} (h : zs.length = k) : val (zs ++ [s % B]) + B ^ (k + 1) * (s / B) = val zs + B ^ k * s := by
 rw [val_app, h]
 simp only [val, Nat.mul_zero, Nat.add_zero]
 rw [Nat.pow_succ, Nat.mul_assoc, Nat.add_assoc, ← Nat.mul_add, Nat.mod_add_div]
theorem AddSt.step {us vs : List Nat} {g : Nat} {w0 wo : World} {k cr : Nat} {zs : List Nat} (h : AddSt us vs g w0 wo k cr zs) (hk : k < us.length) (hg : w0.heap.size ≤ g) {x y : Nat} (hx : x < B) (hy : y < B)
    (h1 : val (us.take (k + 1)) = val (us.take k) + B ^ k * x) (h2 : val (vs.take (k + 1)) = val (vs.take k) + B ^ k * y) :
    AddSt us vs g w0 (wo.setCell ⟨g, k, none⟩ (.int .u32 (((cr + x + y) % B : Nat) : Int))) (k + 1) ((cr + x + y) / B) (zs ++ [(cr + x + y) % B]) := by
  have hc := h.le1; refine ⟨by rw [List.length_append, h.len]; rfl, fun z hz => ?_, ?_, ?_, ?_, below_far h.below hg _ _⟩
  ·rcases List.mem_append.1 hz with hz | hz
   ·exact h.dig z hz
   ·rw [List.mem_singleton.1 hz]; exact Nat.mod_lt _ (by decide)
  ·simp only [B] at *; omega
  ·rw [add_step h.len, h1, h2, Nat.add_assoc cr x y, Nat.mul_add, Nat.mul_add, ← Nat.add_assoc, h.sum]; omega
  ·have := h.blk.set k (.int .u32 (((cr + x + y) % B : Nat) : Int))
   rwa [darr_set, zs_set h.len (by omega)] at this
theorem addloop (X Y : Option Addr) (cx cy : Nat) (us vs : List Nat) (w : World) (hX : Digs w X us) (hY : Digs w Y vs) (hu : Dig us) (hv : Dig vs) (hl : vs.length ≤ us.length) (hn : us.length ≤ 400000) :
    Calls Tryz.prog 56 #[.slice X us.length cx, .slice Y vs.length cy] w (RetDg (val us + val vs) w) := by
  have hd : decide ((us.length : Int) < (vs.length : Int)) = false := dF (by omega); have hd' : decide (us.length < vs.length) = false := dF (by omega); have HU := zh hu; have HV := zh hv; have HX := zh hX; have HY := zh hY
  have hmk := fun W => make_digs (us.length + 1) (by omega) W
  have hc1 : ((us.length + 1 : Nat) : Int) = (us.length : Int) + 1 := by omega
  rw [hc1] at hmk; clear hc1; clear hu hv hX hY; go_enter Tryz.func56, Tryz.ntmps56; go_upto_region 4 with (fail); obtain ⟨W, hW⟩ := eqx (w.alloc (.cells (madeCells #[.int .u32 0] (us.length + 1)) 103))
  have G5 : Blk W w.heap.size 103 (darr ([] ++ List.replicate (us.length + 1 - 0) 0)) := by
   rw [← hW, List.nil_append, Nat.sub_zero, ← darr_made]; exact Blk.new _ _ _
  have hbW : Below w.heap.size w W := by rw [← hW]; exact bal
  rw [hW]; clear hW hmk; go_wp2
  go_loopw [6, 7] (fun s6 s7 wr => ∃ (k cr : Nat) (zs : List Nat), s6 = .int .u64 cr ∧ s7 = .int .i64 k ∧ k ≤ us.length ∧ Hid (AddSt us vs w.heap.size w wr k cr zs)) (fun _ s7 _ => us.length - (intOf s7).toNat)
  case atStart => exact ⟨0, 0, [], rfl, rfl, Nat.zero_le _, zh (AddSt.mk rfl (fun x hx => absurd hx (by simp)) (by omega) (by simp [val]) G5 hbW)⟩
  case round =>
   clear G5 hbW; obtain ⟨wo, rfl⟩ : ∃ wo : World, wo = wr := ⟨_, rfl⟩; obtain ⟨k, cr, zs, rfl, rfl, hk, HST⟩ := hrel; have hcr := HST.out.le1
   by_cases hku : k < us.length
   ·obtain ⟨ad, rfl, hcx⟩ := Digs.at (HX.out.keep HST.out.below) hku; have hxB : us[k] < 4294967296 := HU.out us[k] (List.getElem_mem _); have HTX := zh (val_take_succ hku); generalize us[k] = x at *
    have q0 : (0 : Int) ≤ (k : Int) := by omega
    have q1 : (k : Int) < (us.length : Int) := by omega
    have q1' : (k : Int) < (us.length : Int) + 1 := by omega
    have q3 : ((k : Int)).toNat = k := by omega
    have w1 : IntKind.u64.wrap ((cr : Int) + (x : Int)) = ((cr + x : Nat) : Int) := by have := wrap_nat (cr + x) (by omega); simpa using this
    have c0 := HST.out.blk.cell k; have f0 := HST.out.blk.frozen k
    have hzl : (zs ++ List.replicate (us.length + 1 - k) 0).length = us.length + 1 := by rw [List.length_append, List.length_replicate, HST.out.len]; omega
    rw [darr_at _ (by rw [hzl]; omega)] at c0; generalize (zs ++ List.replicate (us.length + 1 - k) 0)[k]'(by rw [hzl]; omega) = old at c0
    by_cases hkv : k < vs.length
    ·obtain ⟨bd, rfl, hcy⟩ := Digs.at (HY.out.keep HST.out.below) hkv; have hyB : vs[k] < 4294967296 := HV.out vs[k] (List.getElem_mem _); have HTY := zh (val_take_succ hkv); generalize vs[k] = y at *
     have q2 : (k : Int) < (vs.length : Int) := by omega
     have d1 : decide ((k : Int) < (vs.length : Int)) = true := dT q2; have d1' : decide (k < vs.length) = true := dT hkv
     have w2 : IntKind.u64.wrap (((cr + x : Nat) : Int) + (y : Int)) = ((cr + x + y : Nat) : Int) := by have := wrap_nat (cr + x + y) (by omega); simpa using this
     go_wp2; go_roundw
     case rel =>
      have hs := HST.out.step hku (Nat.le_refl _) hxB hyB HTX.out HTY.out
      have e : (((cr + x + y) % B : Nat) : Int) = ((cr : Int) + (x : Int) + (y : Int)) % 4294967296 := by simp only [B]; omega
      rw [e] at hs; exact ⟨k + 1, (cr + x + y) / B, _, by simp only [B]; congr 1, by go_num, by omega, zh hs⟩
     case measure => simp [intOf]; omega
    ·have d1 : decide ((k : Int) < (vs.length : Int)) = false := dF (by omega); have d1' : decide (k < vs.length) = false := dF hkv; have HTY : Hid (val (vs.take (k + 1)) = val (vs.take k) + B ^ k * 0) := zh (by rw [val_take_all (by omega), val_take_all (by omega)]; omega); go_wp2; go_roundw
     case rel =>
      have hs := HST.out.step hku (Nat.le_refl _) hxB (y := 0) (by decide) HTX.out HTY.out
      have e : (((cr + x + 0) % B : Nat) : Int) = ((cr : Int) + (x : Int)) % 4294967296 := by simp only [B]; omega
      rw [e] at hs; exact ⟨k + 1, (cr + x + 0) / B, _, by simp only [B]; congr 1, by go_num, by omega, zh hs⟩
     case measure => simp [intOf]; omega
   ·obtain rfl : k = us.length := by omega
    have dd : decide (us.length < us.length) = false := by simp
    have hz1 : us.length + 1 - us.length = 1 := by omega
    have hb1 := HST.out.blk; rw [hz1] at hb1; have c0 := hb1.cell us.length; have f0 := hb1.frozen us.length
    have hzl : (zs ++ List.replicate 1 0).length = us.length + 1 := by rw [List.length_append, List.length_replicate, HST.out.len]
    rw [darr_at _ (by rw [hzl]; omega)] at c0; generalize (zs ++ List.replicate 1 0)[us.length]'(by rw [hzl]; omega) = old at c0; have hsum := HST.out.sum; rw [List.take_length, val_take_all hl] at hsum
    have q1' : (us.length : Int) < (us.length : Int) + 1 := by omega
    have hcm : (cr : Int) % 4294967296 = (cr : Int) := by omega
    have hB2 : Blk (wo.setCell ⟨w.heap.size, us.length, none⟩ (.int .u32 (cr : Nat))) w.heap.size 103 (darr (zs ++ [cr])) := by
     have := hb1.set us.length (.int .u32 (cr : Nat))
     rwa [darr_set, show zs ++ List.replicate 1 0 = zs ++ [0] from rfl, List.set_append_right _ _ (by rw [HST.out.len]; exact Nat.le_refl _), HST.out.len, Nat.sub_self, List.set_cons_zero] at this
    have hdig : Dig (zs ++ [cr]) := fun z hz => by
     rcases List.mem_append.1 hz with hz | hz
     ·exact HST.out.dig z hz
     ·rw [List.mem_singleton.1 hz]; simp only [B]; omega
    have hlen : (zs ++ [cr]).length = us.length + 1 := by rw [List.length_append, HST.out.len]; rfl
    have HT := zh (trim_dg (some ⟨w.heap.size, 0, none⟩) (us.length + 1) (zs ++ [cr]) _ (digs_of hB2) hdig (by omega) (by omega)); have HVL : Hid (val (zs ++ [cr]) = val us + val vs) := zh (by rw [val_app, HST.out.len]; simp only [val, Nat.mul_zero, Nat.add_zero]; exact hsum); have hdl := dg_val_len hdig; rw [hlen, HVL.out] at HT; rw [hlen, HVL.out] at hdl; clear hsum hzl hB2 hdig hlen hb1 hz1
    go_wp2_with (go_at_call 58; refine HT.out.mono ?_; rintro e w' ⟨rfl, rfl, hD⟩)
    go_ret; exact ⟨_, _, rfl, ND.some hD hdl, below_far HST.out.below (Nat.le_refl _) _ _⟩
structure DivSt (us : List Nat) (d g : Nat) (w0 wr : World) (k r : Nat) (zs : List Nat) : Prop where
  len : zs.length = us.length - k
  dig : Dig zs
  lt : r < d
  sum : val zs * d + r = val (us.drop k)
  blk : Blk wr g 103 (darr (List.replicate k 0 ++ zs))
  below : Below w0.heap.size w0 wr
theorem val_drop {xs : List Nat} {k : Nat} (h : k < xs.length) : val (xs.drop k) = xs[k] + B * val (xs.drop (k + 1)) := by
 rw [List.drop_eq_getElem_cons h]; rfl
theorem zs_put {zs : List Nat} (k s : Nat) : (List.replicate (k + 1) 0 ++ zs).set k s = List.replicate k 0 ++ s :: zs := by
 have : List.replicate (k + 1) 0 ++ zs = List.replicate k 0 ++ 0 :: zs := by rw [List.replicate_succ']; simp
 rw [this, List.set_append_right _ _ (by simp), List.length_replicate, Nat.sub_self, List.set_cons_zero]
theorem div_step {v d r x : Nat} : ((r * B + x) / d + B * v) * d + (r * B + x) % d = x + B * (v * d + r) := by
 have h := Nat.div_add_mod (r * B + x) d
 rw [Nat.add_mul, Nat.mul_add, Nat.mul_assoc, Nat.mul_comm B r]
 rw [Nat.mul_comm d] at h
 omega
theorem or_low {r x : Nat} (hx : x < B) : r * B ||| x = r * B + x := by
 have := Nat.shiftLeft_add_eq_or_of_lt (i := 32) (b := x) hx r
 rw [Nat.shiftLeft_eq] at this
 exact this.symm
theorem div_dig {r d x : Nat} (hr : r < d) (hx : x < B) : (r * B + x) / d < B := by
 rw [Nat.div_lt_iff_lt_mul (by omega)]
 have : (r + 1) * B ≤ d * B := Nat.mul_le_mul_right _ hr
 rw [Nat.add_mul] at this
 rw [Nat.mul_comm B d]
 omega
theorem DivSt.step {us : List Nat} {d g : Nat} {w0 wo : World} {k r : Nat} {zs : List Nat} (h : DivSt us d g w0 wo (k + 1) r zs) (hk : k < us.length) (hg : w0.heap.size ≤ g) {x : Nat} (hx : x < B)
    (h1 : val (us.drop k) = x + B * val (us.drop (k + 1))) :
    DivSt us d g w0 (wo.setCell ⟨g, k, none⟩ (.int .u32 (((r * B + x) / d : Nat) : Int))) k ((r * B + x) % d) ((r * B + x) / d :: zs) := by
  have hl := h.lt; refine ⟨by rw [List.length_cons, h.len]; omega, fun z hz => ?_, Nat.mod_lt _ (by omega), ?_, ?_, below_far h.below hg _ _⟩
  ·rcases List.mem_cons.1 hz with rfl | hz
   ·exact div_dig hl hx
   ·exact h.dig z hz
  ·rw [h1, ← h.sum]; exact div_step
  ·have := h.blk.set k (.int .u32 (((r * B + x) / d : Nat) : Int))
   rwa [darr_set, zs_put] at this
def RetSQ (n d : Nat) (w : World) (e : Ending) (w' : World) : Prop := ∃ R cr, e = .returned (.tuple #[.slice R (dg (n / d)).length cr, .int .u32 ((n % d : Nat))]) ∧ ND w' R cr (n / d) ∧ Below w.heap.size w w'
theorem sdivloop (X : Option Addr) (cx : Nat) (us : List Nat) (d : Nat) (w : World) (hX : Digs w X us) (hu : Dig us) (hd : d < B) (hd0 : 0 < d) (hn : us.length ≤ 400000) :
    Calls Tryz.prog 81 #[.slice X us.length cx, .int .u32 (d : Nat)] w (RetSQ (val us) d w) := by
  have HU := zh hu; have HX := zh hX; have hdB : d < 4294967296 := hd
  have hmk := fun W => make_digs us.length (by omega) W
  clear hu hX hd; go_enter Tryz.func81, Tryz.ntmps81; go_upto_region 2 with (fail); obtain ⟨W, hW⟩ := eqx (w.alloc (.cells (madeCells #[.int .u32 0] us.length) 103))
  have G5 : Blk W w.heap.size 103 (darr (List.replicate us.length 0 ++ [])) := by
   rw [← hW, List.append_nil, ← darr_made]; exact Blk.new _ _ _
  have hbW : Below w.heap.size w W := by rw [← hW]; exact bal
  rw [hW]; clear hW hmk; go_wp2
  go_loopw [7, 8] (fun s7 s8 wr => ∃ (k r : Nat) (zs : List Nat), s7 = .int .u64 r ∧ s8 = .int .i64 ((k : Int) - 1) ∧ k ≤ us.length ∧ Hid (DivSt us d w.heap.size w wr k r zs)) (fun _ s8 _ => (intOf s8 + 1).toNat)
  case atStart => exact ⟨us.length, 0, [], rfl, rfl, Nat.le_refl _, zh (DivSt.mk (by simp) (fun x hx => absurd hx (by simp)) hd0 (by simp [val]) G5 hbW)⟩
  case round =>
   clear G5 hbW; obtain ⟨wo, rfl⟩ : ∃ wo : World, wo = wr := ⟨_, rfl⟩; obtain ⟨k, r, zs, rfl, rfl, hk, HST⟩ := hrel; have hrl := HST.out.lt
   cases k with
   | succ k =>
     have hku : k < us.length := hk; obtain ⟨ad, rfl, hcx⟩ := Digs.at (HX.out.keep HST.out.below) hku; have hxB : us[k] < 4294967296 := HU.out us[k] (List.getElem_mem _); have HTX := zh (val_drop hku); generalize us[k] = x at *
     have hkk : ((k + 1 : Nat) : Int) - 1 = (k : Int) := by omega
     rw [hkk]
     have q0 : (0 : Int) ≤ (k : Int) := by omega
     have q0' : decide ((0 : Int) ≤ (k : Int)) = true := dT q0
     have q1 : (k : Int) < (us.length : Int) := by omega
     have q3 : ((k : Int)).toNat = k := by omega
     have w1 : IntKind.u64.wrap ((r : Int) * 4294967296) = ((r * B : Nat) : Int) := by have := wrap_nat (r * B) (by simp only [B]; omega); simpa [B] using this
     have w2 := u64_or_nat (r * B) x (by simp only [B]; omega) (by omega); rw [or_low hxB] at w2; have c0 := HST.out.blk.cell k; have f0 := HST.out.blk.frozen k
     have hzl : (List.replicate (k + 1) 0 ++ zs).length = us.length := by rw [List.length_append, List.length_replicate, HST.out.len]; omega
     rw [darr_at _ (by rw [hzl]; omega)] at c0; generalize (List.replicate (k + 1) 0 ++ zs)[k]'(by rw [hzl]; omega) = old at c0; go_wp2; go_roundw
     case rel =>
      have hs := HST.out.step hku (Nat.le_refl _) hxB HTX.out; have hq := div_dig hrl hxB
      have w3 : bits BinOp.or IntKind.u64 ((r : Int) * 4294967296) (x : Int) = ((r * B + x : Nat) : Int) := by rw [← w2]; congr 1
      have w4 : (((r * B + x : Nat) : Int)).tmod (d : Int) = (((r * B + x) % d : Nat) : Int) := rfl; have w5 : (((r * B + x : Nat) : Int)).tdiv (d : Int) = (((r * B + x) / d : Nat) : Int) := rfl; rw [w3, w4, w5]; generalize (r * B + x) / d = q at hs hq ⊢; generalize (r * B + x) % d = r' at hs ⊢; simp only [B] at hq; rw [wrap_nat q (by omega), Int.emod_eq_of_lt (by omega) (by omega)]; exact ⟨k, r', _, rfl, rfl, by omega, zh hs⟩
     case measure => simp [intOf]
   | zero =>
     have hb1 := HST.out.blk; rw [List.replicate_zero, List.nil_append] at hb1; have hlen := HST.out.len; rw [Nat.sub_zero] at hlen; have hsum := HST.out.sum; rw [List.drop_zero] at hsum; have hdig := HST.out.dig
     have hvz : val zs = val us / d := by
      rw [← hsum, Nat.mul_comm, Nat.mul_add_div hd0, Nat.div_eq_of_lt hrl, Nat.add_zero]
     have hvr : r = val us % d := by
      rw [← hsum, Nat.mul_comm, Nat.mul_add_mod, Nat.mod_eq_of_lt hrl]
     have HT := zh (trim_dg (some ⟨w.heap.size, 0, none⟩) us.length zs _ (digs_of hb1) hdig (by omega) (by omega)); have hdl := dg_val_len hdig; rw [hlen, hvz] at HT; rw [hlen, hvz] at hdl
     have hrB : (r : Int) % 4294967296 = (r : Int) := by omega
     have hz : ((0 : Nat) : Int) - 1 = -1 := rfl; rw [hz]; clear hsum hb1 hdig hlen hvz
     go_wp2_with (go_at_call 58; refine HT.out.mono ?_; rintro e w' ⟨rfl, rfl, hD⟩)
     go_ret2
     exact ⟨_, _, rfl, ND.some hD hdl, HST.out.below⟩
theorem sdiv_any (X : Option Addr) (cx a d : Nat) (w : World) (hX : Digs w X (dg a)) (hd : d < B) (hd0 : 0 < d) (hn : (dg a).length ≤ 400000) :
    Calls Tryz.prog 81 #[.slice X (dg a).length cx, .int .u32 (d : Nat)] w (RetSQ a d w) := by
  have := sdivloop X cx (dg a) d w hX (dg_dig a) hd hd0 hn
  rwa [val_dg] at this
structure ShSt (us : List Nat) (s g : Nat) (w0 wr : World) (k c : Nat) (zs : List Nat) : Prop where
  len : zs.length = k
  dig : Dig zs
  lt : c < 2 ^ s
  sum : val zs + B ^ k * c = val (us.take k) * 2 ^ s
  blk : Blk wr g 103 (darr (zs ++ c :: List.replicate (us.length - k) 0))
  below : Below w0.heap.size w0 wr
theorem sh_split {s : Nat} (hs : s < 32) : B = 2 ^ s * 2 ^ (32 - s) := by
 rw [← Nat.pow_add, show s + (32 - s) = 32 by omega]
theorem sh_low {s c x : Nat} (hs : s < 32) (hc : c < 2 ^ s) : c ||| (x * 2 ^ s) % B = (x * 2 ^ s) % B + c ∧ (x * 2 ^ s) % B + c < B := by
 have e : (x * 2 ^ s) % B = 2 ^ s * (x % 2 ^ (32 - s)) := by rw [sh_split hs, Nat.mul_comm x, Nat.mul_mod_mul_left]
 rw [e]
 refine ⟨by rw [Nat.or_comm]; exact (Nat.two_pow_add_eq_or_of_lt hc _).symm, ?_⟩
 have h1 : x % 2 ^ (32 - s) < 2 ^ (32 - s) := Nat.mod_lt _ (Nat.two_pow_pos _)
 have h2 : 2 ^ s * (x % 2 ^ (32 - s) + 1) ≤ 2 ^ s * 2 ^ (32 - s) := Nat.mul_le_mul_left _ h1
 rw [← sh_split hs, Nat.mul_add] at h2
 omega
theorem sh_high {s x : Nat} (hx : x < B) : x * 2 ^ s / B < 2 ^ s := by
 rw [Nat.div_lt_iff_lt_mul (by decide), Nat.mul_comm (2 ^ s)]
 exact Nat.mul_lt_mul_of_pos_right hx (Nat.two_pow_pos _)
theorem sh_fit {s x : Nat} (hs : s < 32) (hx : x < B) : x * 2 ^ s < 18446744073709551616 := by
 have h1 : 2 ^ s ≤ 2 ^ 32 := Nat.pow_le_pow_right (by decide) (by omega)
 have h2 : x * 2 ^ s ≤ (B - 1) * 2 ^ 32 := Nat.mul_le_mul (by omega) h1
 have h3 : (B - 1) * 2 ^ 32 < 18446744073709551616 := by decide
 omega
theorem ShSt.step {us : List Nat} {s g : Nat} {w0 wo : World} {k c : Nat} {zs : List Nat} (h : ShSt us s g w0 wo k c zs) (hs : s < 32) (hk : k < us.length) (hg : w0.heap.size ≤ g) {x : Nat} (hx : x < B) (h1 : val (us.take (k + 1)) = val (us.take k) + B ^ k * x) :
    ShSt us s g w0 ((wo.setCell ⟨g, k, none⟩ (.int .u32 ((x * 2 ^ s % B + c : Nat) : Int))).setCell ⟨g, k + 1, none⟩ (.int .u32 ((x * 2 ^ s / B : Nat) : Int))) (k + 1) (x * 2 ^ s / B) (zs ++ [x * 2 ^ s % B + c]) := by
  obtain ⟨_, hlo⟩ := sh_low (x := x) hs h.lt; refine ⟨by rw [List.length_append, h.len]; rfl, fun z hz => ?_, sh_high hx, ?_, ?_, below_far (below_far h.below hg _ _) hg _ _⟩
  ·rcases List.mem_append.1 hz with hz | hz
   ·exact h.dig z hz
   ·rw [List.mem_singleton.1 hz]; exact hlo
  ·have hsm := h.sum; have hm := Nat.mod_add_div (x * 2 ^ s) B; rw [val_app, h.len, h1, Nat.add_mul, ← hsm, Nat.pow_succ, Nat.mul_assoc (B ^ k) B, Nat.mul_assoc (B ^ k) x, ← hm, Nat.mul_add (B ^ k), hm]; simp only [val, Nat.mul_zero, Nat.add_zero, Nat.mul_add]; omega
  ·have hb := (h.blk.set k (.int .u32 ((x * 2 ^ s % B + c : Nat) : Int))).set (k + 1) (.int .u32 ((x * 2 ^ s / B : Nat) : Int))
   have e : ((zs ++ c :: List.replicate (us.length - k) 0).set k (x * 2 ^ s % B + c)).set (k + 1) (x * 2 ^ s / B) = (zs ++ [x * 2 ^ s % B + c]) ++ (x * 2 ^ s / B) :: List.replicate (us.length - (k + 1)) 0 := by
    rw [List.set_append_right _ _ (by rw [h.len]; exact Nat.le_refl _), h.len, Nat.sub_self, List.set_cons_zero, List.set_append_right _ _ (by rw [h.len]; omega), h.len, show k + 1 - k = 1 by omega, List.set_cons_succ, show us.length - k = (us.length - (k + 1)) + 1 by omega, List.replicate_succ, List.set_cons_zero]; simp
   rwa [darr_set, darr_set, e] at hb
def RetSh (us : List Nat) (s : Nat) (w : World) (e : Ending) (w' : World) : Prop := ∃ zs : List Nat, zs.length = us.length + 1 ∧ Dig zs ∧ val zs = val us * 2 ^ s ∧ e = .returned (.slice (some ⟨w.heap.size, 0, none⟩) zs.length zs.length) ∧ Blk w' w.heap.size 103 (darr zs) ∧ Below w.heap.size w w'
theorem shl_any (X : Option Addr) (cx : Nat) (us : List Nat) (s : Nat) (w : World) (hX : Digs w X us) (hu : Dig us) (hs : s < 32) (hn : us.length ≤ 400000) :
    Calls Tryz.prog 106 #[.slice X us.length cx, .int .u64 (s : Nat)] w (RetSh us s w) := by
  have HU := zh hu; have HX := zh hX
  have hmk := fun W => make_digs (us.length + 1) (by omega) W
  have hc1 : ((us.length + 1 : Nat) : Int) = (us.length : Int) + 1 := by omega
  rw [hc1] at hmk; clear hc1; clear hu hX; go_enter Tryz.func106, Tryz.ntmps106; go_upto_region 2 with (fail); obtain ⟨W, hW⟩ := eqx (w.alloc (.cells (madeCells #[.int .u32 0] (us.length + 1)) 103))
  have G5 : Blk W w.heap.size 103 (darr ([] ++ 0 :: List.replicate (us.length - 0) 0)) := by
   rw [← hW, List.nil_append, Nat.sub_zero, ← List.replicate_succ, ← darr_made]; exact Blk.new _ _ _
  have hbW : Below w.heap.size w W := by rw [← hW]; exact bal
  rw [hW]; clear hW hmk; go_wp2
  go_loopw [6] (fun s6 wr => ∃ (k c : Nat) (zs : List Nat), s6 = .int .i64 k ∧ k ≤ us.length ∧ Hid (ShSt us s w.heap.size w wr k c zs)) (fun s6 _ => us.length - (intOf s6).toNat)
  case atStart => exact ⟨0, 0, [], rfl, Nat.zero_le _, zh (ShSt.mk rfl (fun x hx => absurd hx (by simp)) (Nat.two_pow_pos _) (by simp [val]) G5 hbW)⟩
  case round =>
   clear G5 hbW; obtain ⟨wo, rfl⟩ : ∃ wo : World, wo = wr := ⟨_, rfl⟩; obtain ⟨k, c, zs, rfl, hk, HST⟩ := hrel
   by_cases hku : k < us.length
   ·obtain ⟨ad, rfl, hcx⟩ := Digs.at (HX.out.keep HST.out.below) hku; have hxB : us[k] < 4294967296 := HU.out us[k] (List.getElem_mem _); have HTX := zh (val_take_succ hku); generalize us[k] = x at *
    have q1 : (k : Int) < (us.length : Int) := by omega
    have q1' : (k : Int) < (us.length : Int) + 1 := by omega
    have q2 : (k : Int) + 1 < (us.length : Int) + 1 := by omega
    have q4 : ((k : Int) + 1).toNat = k + 1 := by omega
    have hcB : c < 4294967296 := Nat.lt_of_lt_of_le HST.out.lt (Nat.le_trans (Nat.pow_le_pow_right (by decide) (show s ≤ 32 by omega)) (by decide)); have c0 := HST.out.blk.cell k; have c1 := HST.out.blk.cell (k + 1); have f0 := HST.out.blk.frozen k; have f1 := HST.out.blk.frozen (k + 1)
    have hzl : (zs ++ c :: List.replicate (us.length - k) 0).length = us.length + 1 := by rw [List.length_append, List.length_cons, List.length_replicate, HST.out.len]; omega
    rw [darr_at _ (by rw [hzl]; omega)] at c0 c1
    have hck : (zs ++ c :: List.replicate (us.length - k) 0)[k]'(by rw [hzl]; omega) = c := by
     rw [List.getElem_append_right (by rw [HST.out.len]; exact Nat.le_refl _)]; simp [HST.out.len]
    rw [hck] at c0; generalize (zs ++ c :: List.replicate (us.length - k) 0)[k + 1]'(by rw [hzl]; omega) = old at c1; have hv := sh_fit hs hxB; obtain ⟨v, hve⟩ := eqx (x * 2 ^ s); go_wp2; go_roundw
    case rel =>
     have hst := HST.out.step hs hku (Nat.le_refl _) hxB HTX.out; obtain ⟨g1, g2⟩ := sh_low (x := x) hs HST.out.lt
     have e0 : IntKind.u64.wrap ((x : Int) * 2 ^ s) = ((x * 2 ^ s : Nat) : Int) := by have := wrap_nat (x * 2 ^ s) hv; rw [← this]; congr 1
     rw [e0, hve]; rw [hve] at hst g1 g2 hv; have hvm : v % B < 4294967296 := Nat.mod_lt _ (by decide)
     have e1 : ((v : Nat) : Int) % 4294967296 = ((v % B : Nat) : Int) := by simp [B]
     have e2 : ((v : Nat) : Int) / 4294967296 % 4294967296 = ((v / B : Nat) : Int) := by simp only [B]; omega
     rw [e2, e1, u32_or_nat c (v % B) hcB hvm, g1]; exact ⟨k + 1, v / B, _, by go_num, by omega, zh hst⟩
    case measure => simp [intOf]; omega
   ·obtain rfl : k = us.length := by omega
    have dd : decide (us.length < us.length) = false := by simp
    have hb1 := HST.out.blk; rw [Nat.sub_self, List.replicate_zero] at hb1; have hcB : c < B := Nat.lt_of_lt_of_le HST.out.lt (Nat.le_trans (Nat.pow_le_pow_right (by decide) (show s ≤ 32 by omega)) (by decide))
    have hlen : (zs ++ [c]).length = us.length + 1 := by rw [List.length_append, HST.out.len]; rfl
    have hsum := HST.out.sum; rw [List.take_length] at hsum
    have hval : val (zs ++ [c]) = val us * 2 ^ s := by rw [val_app, HST.out.len]; simp only [val, Nat.mul_zero, Nat.add_zero]; exact hsum
    have hdig : Dig (zs ++ [c]) := fun z hz => by
     rcases List.mem_append.1 hz with hz | hz
     ·exact HST.out.dig z hz
     ·rw [List.mem_singleton.1 hz]; exact hcB
    have hF : Hid (RetSh us s w (.returned (.slice (some ⟨w.heap.size, 0, none⟩) (us.length + 1) (us.length + 1))) wo) := zh ⟨zs ++ [c], hlen, hdig, hval, by rw [hlen], hb1, HST.out.below⟩; clear hsum hval hdig hlen hb1 hcB; go_wp2; go_ret; exact hF.out
def RetDM (q r : Nat) (w : World) (e : Ending) (w' : World) : Prop :=
  ∃ Q cq R cr, e = .returned (.tuple #[.slice Q (dg q).length cq, .slice R (dg r).length cr]) ∧ ND w' Q cq q ∧ ND w' R cr r ∧ Below w.heap.size w w'
theorem div_less (X Y : Option Addr) (cx cy a b : Nat) (w : World) (hX : ND w X cx a) (hY : ND w Y cy b) (hab : a < b) (hn : (dg a).length ≤ 400000) :
    Calls Tryz.prog 80 #[.slice X (dg a).length cx, .slice Y (dg b).length cy] w (RetDM 0 a w) := by
  have HC := zh (ncmp_any X Y cx cy a b w hX.digs hY.digs (by omega)); rw [if_pos hab] at HC; have HX := zh hX; obtain ⟨i0, hi, hz0, hz1, hz2⟩ := info_parts dig_info; obtain ⟨l, hl⟩ := eqx ((dg a).length); have HF : Hid (∀ (R : Option Addr) (c : Nat) (w2 : World), Digs w2 R (dg a) → l ≤ c → (R = none → c = 0) → Below w.heap.size w w2 → RetDM 0 a w (.returned (.tuple #[.slice none 0 0, .slice R l c])) w2) := zh (fun R c w2 h1 h2 h3 h4 => ⟨none, 0, R, c, by rw [dg_zero, hl]; rfl, ND.zero _, ⟨h1, by omega, h3⟩, h4⟩); have HL := zh hl; rw [hl] at HC hn ⊢; clear hX hY hab hl; go_enter Tryz.func80, Tryz.ntmps80; go_wp2_with (fail); refine HC.out.mono ?_; rintro e w1 ⟨rfl, hdr⟩; have hb1 := hdr.below; clear hdr
  by_cases h0 : 0 < l
  ·obtain ⟨ad, e, hlt, ha⟩ := (HX.out.keep hb1).digs.sl.lies (by rw [HL.out]; exact h0); subst e
   have hnew : ∀ j u, ((dg a).map vd)[j]? = some u → (w1.alloc (.cells #[] 103)).cell? (ad.add j) = some u := fun j u hu => cell_alloc (ha j u hu) _
   have HN := zh hnew; clear hnew ha
   go_wp2_with (at_builtin; refine wpList_append_own _ rfl _ _ 50 rfl w1.heap.size 103 i0 (.int .u32 0) 1 4 Tryz.underlying50 hi hz0 hz1 hz2 rfl (by decide) (.slice (some ⟨w1.heap.size, 0, none⟩) 0 0) 0 [] rfl (World.ownsRow_made w1 #[] 0 (Nat.le_refl _) (by simp [maxLen]) rfl) ad l cx ((dg a).map vd) rfl ?c1 HN.out ?c2 ?c3 ?c4 ?c5 ?_
                case c1 => rw [List.length_map, HL.out, Nat.mul_one]
                case c2 => exact fun u hu => by (obtain ⟨x, _, rfl⟩ := List.mem_map.1 hu; rfl)
                case c3 => simp only [maxLen]; omega
                case c4 => omega
                case c5 => simp
                intro v' w2 hown' hgrow _; rw [Nat.zero_add] at hown')
   obtain ⟨R, cr, hv, hcr, hS⟩ := Sl.of_own hown'; subst hv; have hb2 : Below w1.heap.size w1 w2 := (bal).grown hgrow (by simp) (fun k hk => by simp [Value.ownBlock] at hk; omega)
   go_ret2
   refine HF.out R cr w2 (digs_own (xs := dg a) hown' (by exact HL.out.symm)) hcr (fun e => ?_) (below_all hb1 hb2); subst e; obtain ⟨_, e, _⟩ := hS.lies h0
   cases e
  ·obtain rfl : l = 0 := by omega
   have HG : Hid (∀ (R : Option Addr) (c : Nat) (w2 : World), (R = none → c = 0) → Below w.heap.size w w2 → RetDM 0 a w (.returned (.tuple #[.slice none 0 0, .slice R 0 c])) w2) := zh (fun R c w2 h3 h4 => HF.out R c w2 (by
    have : dg a = [] := List.eq_nil_of_length_eq_zero HL.out
    rw [this]; exact Digs.nil _ _) (Nat.zero_le _) h3 h4)
   have HCX := zh HX.out.nilc; have hbA : Below w1.heap.size w1 (w1.alloc (.cells #[] 103)) := bal
   cases X with
   | none =>
     obtain rfl : cx = 0 := HCX.out rfl
     go_wp2_with (at_builtin; refine wpList_append_own_none rfl _ _ 50 rfl w1.heap.size 103 i0 1 Tryz.underlying50 hi (.slice (some ⟨w1.heap.size, 0, none⟩) 0 0) 0 [] rfl (World.ownsRow_made w1 #[] 0 (Nat.le_refl _) (by simp [maxLen]) rfl) rfl ?_)
     go_ret2
     exact HG.out _ 0 _ (fun e => by cases e) (below_all hb1 hbA)
   | some ad =>
     go_wp2_with (at_builtin; refine wpList_append_own _ rfl _ _ 50 rfl w1.heap.size 103 i0 (.int .u32 0) 1 4 Tryz.underlying50 hi hz0 hz1 hz2 rfl (by decide) (.slice (some ⟨w1.heap.size, 0, none⟩) 0 0) 0 [] rfl (World.ownsRow_made w1 #[] 0 (Nat.le_refl _) (by simp [maxLen]) rfl) ad 0 cx [] rfl rfl (fun j u hu => by simp at hu) ?c2 ?c3 ?c4 ?c5 ?_
                  case c2 => simp [Value.oneCell']
                  case c3 => simp only [maxLen]; omega
                  case c4 => omega
                  case c5 => simp
                  intro v' w2 hown' hgrow hnil)
     obtain ⟨R, cr, hv, hcr, hS⟩ := Sl.of_own hown'; subst hv; have hb2 : Below w1.heap.size w1 w2 := (bal).grown hgrow (by simp) (fun k hk => by simp [Value.ownBlock] at hk; omega)
     have HR : Hid (R = none → cr = 0) := zh (fun e => by
      subst e
      rcases hown'.2 with ⟨h1, h2⟩ | ⟨g, cap, cur, h1, _⟩
      ·injection h1
      ·injection h1 with h1; cases h1)
     clear hnil
     go_ret2
     exact HG.out R cr w2 HR.out (below_all hb1 hb2)
theorem ntrim_one (r : Nat) (w : World) (g : Nat) (hB : Blk w g 103 #[.int .u32 (r : Nat)]) (hr : r < B) :
    Calls Tryz.prog 58 #[.slice (some ⟨g, 0, none⟩) 1 1] w fun e w' => e = .returned (.slice (some ⟨g, 0, none⟩) (dg r).length 1) ∧ w = w' ∧ ND w' (some ⟨g, 0, none⟩) 1 r := by
  have hd : Digs w (some ⟨g, 0, none⟩) [r] := digs_of (xs := [r]) hB; have h := trim_dg (some ⟨g, 0, none⟩) 1 [r] w hd (fun x hx => by rw [List.mem_singleton.1 hx]; exact hr) (by simp) (by simp)
  have e : val [r] = r := by simp [val]
  have hl := dg_val_len (xs := [r]) (fun x hx => by rw [List.mem_singleton.1 hx]; exact hr); rw [e] at h hl; refine h.mono ?_; rintro e w' ⟨rfl, rfl, h1⟩; exact ⟨rfl, rfl, h1, hl, fun h => by cases h⟩
theorem div_digit (X Y : Option Addr) (cx cy a b : Nat) (w : World) (hX : ND w X cx a) (hY : ND w Y cy b) (hab : b ≤ a) (hb0 : b ≠ 0) (hbB : b < B) (hn : (dg a).length ≤ 400000) :
    Calls Tryz.prog 80 #[.slice X (dg a).length cx, .slice Y (dg b).length cy] w (RetDM (a / b) (a % b) w) := by
  obtain ⟨z, hz⟩ := eqx ((if a < b then (-1 : Int) else if a = b then 0 else 1) : Int); have HC := zh (ncmp_any X Y cx cy a b w hX.digs hY.digs (by omega)); rw [hz] at HC
  have hzb : decide (z < 0) = false := by
   rw [← hz, if_neg (by omega)]
   split <;> simp
  clear hz; have HD := zh (fun W (h : Below w.heap.size w W) => sdiv_any X cx a b W (hX.keep h).digs hbB (by omega) hn); have HR := zh (Nat.lt_trans (Nat.mod_lt a (show 0 < b by omega)) hbB); have HY := zh hY; have hdb := dg_small hb0 hbB; have HDB := zh hdb; rw [hdb]; unfold RetDM; obtain ⟨q, hq⟩ := eqx (a / b); obtain ⟨r, hr⟩ := eqx (a % b); rw [hr] at HR; rw [hq, hr]; unfold RetSQ at HD; rw [hq, hr] at HD; clear hq hr hdb hX hY; go_enter Tryz.func80, Tryz.ntmps80; go_wp2_with (fail); rw [HDB.out] at HC; refine HC.out.mono ?_; rintro e w1 ⟨rfl, hdr⟩; have hb1 := hdr.below; clear hdr; have hYd := (HY.out.keep hb1).digs; rw [HDB.out] at hYd; obtain ⟨bd, rfl, hbd⟩ := Digs.at hYd (k := 0) (by simp)
  have hbd : w1.cell? bd = some (.int .u32 (b : Nat)) := by simpa [Addr.add] using hbd
  clear hYd; go_wp2_with (fail); refine (HD.out _ hb1).mono ?_; rintro e w2 ⟨Q, cq, rfl, hQ, hb2⟩; go_wp2_with (fail); have B3 := Blk.new w2 103 #[.int .u32 (r : Nat)]; have hbA : Below w2.heap.size w2 (w2.alloc (.cells #[.int .u32 (r : Nat)] 103)) := bal; refine (ntrim_one r _ _ B3 HR.out).mono ?_; rintro e _ ⟨rfl, rfl, hR⟩; have hbq := below_all (below_all hb1 hb2) hbA; have HQ2 := zh (hQ.keep hbA); clear hQ; go_wp2
  go_ret2
  exact ⟨_, _, _, _, rfl, HQ2.out, hR, hbq⟩
end
end Go.Proofs.Tg
