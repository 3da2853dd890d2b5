/- Parts of the proof: BN4, BN18, BN20. -/
import Derived.Deep.RegionHeld3
import Derived.Test.YtodjofbneeejpaaGreatDoorMBD24
import Derived.Test.YtodjofbneeejpaaGreatDoorMBD28
section
/- The harness's sum of absolute values: the shorter one first; any two numbers. -/
namespace Go.Proofs.Tg
open Go.RowKit Go.Gr Go.Bn
set_option maxHeartbeats 4000000
set_option maxRecDepth 100000
theorem addswap (X Y : Option Addr) (cx cy : Nat) (us vs : List Nat) (w : World) (hX : Digs w X us) (hY : Digs w Y vs) (hu : Dig us) (hv : Dig vs) (hl1 : vs.length < us.length) (hn : us.length ≤ 400000) :
    Calls Tryz.prog 119 #[.slice Y vs.length cy, .slice X us.length cx] w (RetDg (val us + val vs) w) := by
  have hl : vs.length ≤ us.length := by omega
  have hd : decide ((vs.length : Int) < (us.length : Int)) = true := decide_eq_true (by omega)
  have hd' : decide (vs.length < us.length) = true := decide_eq_true hl1
  clear hl1
  have HU := Lib.hid hu
  have HV := Lib.hid hv
  have HX := Lib.hid hX
  have HY := Lib.hid hY
  have hmk := fun W => make_digs (us.length + 1) (by omega) W
  have hc1 : ((us.length + 1 : Nat) : Int) = (us.length : Int) + 1 := by omega
  rw [hc1] at hmk
  clear hc1
  clear hu hv hX hY
  go_enter Tryz.func119, Tryz.ntmps119
  go_upto_region 4 with (fail)
  obtain ⟨W, hW⟩ : ∃ W, w.alloc (.cells (madeCells #[.int .u32 0] (us.length + 1)) 123) = W := ⟨_, rfl⟩
  have G5 : Blk W w.heap.size 123 (darr ([] ++ List.replicate (us.length + 1 - 0) 0)) := by
   rw [← hW, List.nil_append, Nat.sub_zero, ← darr_made]
   exact Blk.new _ _ _
  have hbW : Below w.heap.size w W := by rw [← hW]; exact (Below.refl _ _).alloc (Nat.le_refl _) _
  rw [hW]
  clear hW hmk
  go_wp2
  go_loopw [6, 7] (fun s6 s7 wr => ∃ (k cr : Nat) (zs : List Nat), s6 = .int .u64 cr ∧ s7 = .int .i64 k ∧ k ≤ us.length ∧ Hid (AddSt us vs w.heap.size w wr k cr zs)) (fun _ s7 _ => us.length - (intOf s7).toNat)
  case atStart => exact ⟨0, 0, [], rfl, rfl, Nat.zero_le _, Lib.hid (AddSt.mk rfl (fun x hx => absurd hx (by simp)) (by omega) (by simp [val]) G5 hbW)⟩
  case round =>
   clear G5 hbW
   obtain ⟨wo, rfl⟩ : ∃ wo : World, wo = wr := ⟨_, rfl⟩
   obtain ⟨k, cr, zs, rfl, rfl, hk, HST⟩ := hrel
   have hcr := HST.out.le1
   by_cases hku : k < us.length
   ·obtain ⟨ad, rfl, hcx⟩ := Digs.at (HX.out.keep HST.out.below) hku
    have hxB : us[k] < 4294967296 := HU.out us[k] (List.getElem_mem _)
    have HTX := Lib.hid (val_take_succ hku)
    generalize us[k] = x at *
    have q0 : (0 : Int) ≤ (k : Int) := by omega
    have q1 : (k : Int) < (us.length : Int) := by omega
    have q1' : (k : Int) < (us.length : Int) + 1 := by omega
    have q3 : ((k : Int)).toNat = k := by omega
    have w1 : IntKind.u64.wrap ((cr : Int) + (x : Int)) = ((cr + x : Nat) : Int) := by have := wrap_nat (cr + x) (by omega); simpa using this
    have c0 := HST.out.blk.cell k
    have f0 := HST.out.blk.frozen k
    have hzl : (zs ++ List.replicate (us.length + 1 - k) 0).length = us.length + 1 := by rw [List.length_append, List.length_replicate, HST.out.len]; omega
    rw [darr_at _ (by rw [hzl]; omega)] at c0
    generalize (zs ++ List.replicate (us.length + 1 - k) 0)[k]'(by rw [hzl]; omega) = old at c0
    by_cases hkv : k < vs.length
    ·obtain ⟨bd, rfl, hcy⟩ := Digs.at (HY.out.keep HST.out.below) hkv
     have hyB : vs[k] < 4294967296 := HV.out vs[k] (List.getElem_mem _)
     have HTY := Lib.hid (val_take_succ hkv)
     generalize vs[k] = y at *
     have q2 : (k : Int) < (vs.length : Int) := by omega
     have d1 : decide ((k : Int) < (vs.length : Int)) = true := decide_eq_true q2
     have d1' : decide (k < vs.length) = true := decide_eq_true hkv
     have w2 : IntKind.u64.wrap (((cr + x : Nat) : Int) + (y : Int)) = ((cr + x + y : Nat) : Int) := by have := wrap_nat (cr + x + y) (by omega); simpa using this
     go_wp2
     go_roundw
     case rel =>
      have hs := HST.out.step hku (Nat.le_refl _) hxB hyB HTX.out HTY.out
      have e : (((cr + x + y) % B : Nat) : Int) = ((cr : Int) + (x : Int) + (y : Int)) % 4294967296 := by simp only [B]; omega
      rw [e] at hs
      exact ⟨k + 1, (cr + x + y) / B, _, by simp only [B]; congr 1, by go_num, by omega, Lib.hid hs⟩
     case measure => simp [intOf]; omega
    ·have d1 : decide ((k : Int) < (vs.length : Int)) = false := decide_eq_false (by omega)
     have d1' : decide (k < vs.length) = false := decide_eq_false hkv
     have HTY : Hid (val (vs.take (k + 1)) = val (vs.take k) + B ^ k * 0) := Lib.hid (by rw [val_take_all (by omega), val_take_all (by omega)]; omega)
     go_wp2
     go_roundw
     case rel =>
      have hs := HST.out.step hku (Nat.le_refl _) hxB (y := 0) (by decide) HTX.out HTY.out
      have e : (((cr + x + 0) % B : Nat) : Int) = ((cr : Int) + (x : Int)) % 4294967296 := by simp only [B]; omega
      rw [e] at hs
      exact ⟨k + 1, (cr + x + 0) / B, _, by simp only [B]; congr 1, by go_num, by omega, Lib.hid hs⟩
     case measure => simp [intOf]; omega
   ·obtain rfl : k = us.length := by omega
    have dd : decide (us.length < us.length) = false := by simp
    have hz1 : us.length + 1 - us.length = 1 := by omega
    have hb1 := HST.out.blk
    rw [hz1] at hb1
    have c0 := hb1.cell us.length
    have f0 := hb1.frozen us.length
    have hzl : (zs ++ List.replicate 1 0).length = us.length + 1 := by rw [List.length_append, List.length_replicate, HST.out.len]
    rw [darr_at _ (by rw [hzl]; omega)] at c0
    generalize (zs ++ List.replicate 1 0)[us.length]'(by rw [hzl]; omega) = old at c0
    have hsum := HST.out.sum
    rw [List.take_length, val_take_all hl] at hsum
    have q1' : (us.length : Int) < (us.length : Int) + 1 := by omega
    have hcm : (cr : Int) % 4294967296 = (cr : Int) := by omega
    have hB2 : Blk (wo.setCell ⟨w.heap.size, us.length, none⟩ (.int .u32 (cr : Nat))) w.heap.size 123 (darr (zs ++ [cr])) := by
     have := hb1.set us.length (.int .u32 (cr : Nat))
     rwa [darr_set, show zs ++ List.replicate 1 0 = zs ++ [0] from rfl, List.set_append_right _ _ (by rw [HST.out.len]; exact Nat.le_refl _), HST.out.len, Nat.sub_self, List.set_cons_zero] at this
    have hdig : Dig (zs ++ [cr]) := fun z hz => by
     rcases List.mem_append.1 hz with hz | hz
     ·exact HST.out.dig z hz
     ·rw [List.mem_singleton.1 hz]; simp only [B]; omega
    have hlen : (zs ++ [cr]).length = us.length + 1 := by rw [List.length_append, HST.out.len]; rfl
    have HT := Lib.hid (trim_dg (some ⟨w.heap.size, 0, none⟩) (us.length + 1) (zs ++ [cr]) _ (digs_of hB2) hdig (by omega) (by omega))
    have HVL : Hid (val (zs ++ [cr]) = val us + val vs) := Lib.hid (by rw [val_app, HST.out.len]; simp only [val, Nat.mul_zero, Nat.add_zero]; exact hsum)
    have hdl := dg_val_len hdig
    rw [hlen, HVL.out] at HT
    rw [hlen, HVL.out] at hdl
    clear hsum hzl hB2 hdig hlen hb1 hz1
    go_wp2_with (go_at_call 127; refine HT.out.mono ?_; rintro e w' ⟨rfl, rfl, hD⟩)
    go_ret
    exact ⟨_, _, rfl, ND.some hD hdl, below_far HST.out.below (Nat.le_refl _) _ _⟩
/-- The sum of two numbers. -/
theorem nadd_any (X Y : Option Addr) (cx cy a b : Nat) (w : World) (hX : Digs w X (dg a)) (hY : Digs w Y (dg b)) (ha : (dg a).length ≤ 400000) (hb : (dg b).length ≤ 400000) :
    Calls Tryz.prog 119 #[.slice X (dg a).length cx, .slice Y (dg b).length cy] w (RetDg (a + b) w) := by
  by_cases h : (dg b).length ≤ (dg a).length
  ·have := addloop X Y cx cy (dg a) (dg b) w hX hY (dg_dig a) (dg_dig b) h ha
   rwa [val_dg, val_dg] at this
  ·have := addswap Y X cy cx (dg b) (dg a) w hY hX (dg_dig b) (dg_dig a) (by omega) hb
   rwa [val_dg, val_dg, Nat.add_comm b a] at this
end Go.Proofs.Tg
end
section
/- The harness's difference of absolute values: subMag of any two numbers, the second not greater. -/
namespace Go.Proofs.Tg
open Go.RowKit Go.Gr Go.Bn
set_option maxHeartbeats 4000000
set_option maxRecDepth 100000
/-- The digits made so far and the borrow. -/
structure SubSt (us vs : List Nat) (g : Nat) (w0 wr : World) (k bo : Nat) (zs : List Nat) : Prop where
  len : zs.length = k
  dig : Dig zs
  le1 : bo ≤ 1
  sum : val zs + val (vs.take k) = val (us.take k) + B ^ k * bo
  blk : Blk wr g 123 (darr (zs ++ List.replicate (us.length - k) 0))
  below : Below w0.heap.size w0 wr
theorem SubSt.step {us vs : List Nat} {g : Nat} {w0 wo : World} {k bo : Nat} {zs : List Nat} (h : SubSt us vs g w0 wo k bo zs) (hk : k < us.length) (hg : w0.heap.size ≤ g) {x y z b2 : Nat} (hz : z < B) (hb2 : b2 ≤ 1)
    (hs : z + y + bo = x + B * b2) (h1 : val (us.take (k + 1)) = val (us.take k) + B ^ k * x) (h2 : val (vs.take (k + 1)) = val (vs.take k) + B ^ k * y) :
    SubSt us vs g w0 (wo.setCell ⟨g, k, none⟩ (.int .u32 ((z : Nat) : Int))) (k + 1) b2 (zs ++ [z]) := by
  refine ⟨by rw [List.length_append, h.len]; rfl, fun q hq => ?_, hb2, ?_, ?_, below_far h.below hg _ _⟩
  ·rcases List.mem_append.1 hq with hq | hq
   ·exact h.dig q hq
   ·rw [List.mem_singleton.1 hq]; exact hz
  ·rw [val_app, h.len, h1, h2, Nat.pow_succ, Nat.mul_assoc]
   simp only [val, Nat.mul_zero, Nat.add_zero]
   have e : B ^ k * z + B ^ k * y + B ^ k * bo = B ^ k * x + B ^ k * (B * b2) := by rw [← Nat.mul_add, ← Nat.mul_add, ← Nat.mul_add, hs]
   have := h.sum
   omega
  ·have := h.blk.set k (.int .u32 ((z : Nat) : Int))
   rwa [darr_set, zs_set h.len (by omega)] at this
theorem SubSt.done {us vs : List Nat} {g : Nat} {w0 wo : World} {bo : Nat} {zs : List Nat} (h : SubSt us vs g w0 wo us.length bo zs) (hle : val vs ≤ val us) (hl : vs.length ≤ us.length) : val zs = val us - val vs := by
 have h1 := h.sum
 rw [val_take_all (Nat.le_refl _), val_take_all hl] at h1
 have h2 := val_lt h.dig
 rw [h.len] at h2
 have h3 := h.le1
 rcases Nat.lt_or_ge bo 1 with h4 | h4
 ·obtain rfl : bo = 0 := by omega
  omega
 ·obtain rfl : bo = 1 := by omega
  omega
theorem sub_word {x y bo d z b2 : Nat} (hx : x < 4294967296) (hy : y < 4294967296) (hb : bo ≤ 1) (hd : (x + 18446744073709551616 - (y + bo)) % 18446744073709551616 = d) (hz : d % 4294967296 = z) (h2 : d / 4294967296 % 2 = b2) : z < B ∧ b2 ≤ 1 ∧ z + y + bo = x + B * b2 := by
 simp only [B] at *
 omega
theorem nsub_loop (X Y : Option Addr) (cx cy : Nat) (us vs : List Nat) (w : World) (hX : Digs w X us) (hY : Digs w Y vs) (hu : Dig us) (hv : Dig vs) (hl : vs.length ≤ us.length) (hle : val vs ≤ val us) (hn : us.length ≤ 400000) :
    Calls Tryz.prog 121 #[.slice X us.length cx, .slice Y vs.length cy] w (RetDg (val us - val vs) w) := by
  have HU := Lib.hid hu
  have HV := Lib.hid hv
  have HX := Lib.hid hX
  have HY := Lib.hid hY
  have HLE := Lib.hid hle
  have hmk := fun W => make_digs us.length (by omega) W
  clear hu hv hX hY hle
  go_enter Tryz.func121, Tryz.ntmps121
  go_upto_region 2 with (fail)
  obtain ⟨W, hW⟩ : ∃ W, w.alloc (.cells (madeCells #[.int .u32 0] us.length) 123) = W := ⟨_, rfl⟩
  have G5 : Blk W w.heap.size 123 (darr ([] ++ List.replicate (us.length - 0) 0)) := by
   rw [← hW, List.nil_append, Nat.sub_zero, ← darr_made]
   exact Blk.new _ _ _
  have hbW : Below w.heap.size w W := by rw [← hW]; exact (Below.refl _ _).alloc (Nat.le_refl _) _
  rw [hW]
  clear hW hmk
  go_wp2
  go_loopw [6, 7] (fun s6 s7 wr => ∃ (k bo : Nat) (zs : List Nat), s6 = .int .u64 bo ∧ s7 = .int .i64 k ∧ k ≤ us.length ∧ Hid (SubSt us vs w.heap.size w wr k bo zs)) (fun _ s7 _ => us.length - (intOf s7).toNat)
  case atStart => exact ⟨0, 0, [], rfl, rfl, Nat.zero_le _, Lib.hid (SubSt.mk rfl (fun x hx => absurd hx (by simp)) (by omega) (by simp [val]) G5 hbW)⟩
  case round =>
   clear G5 hbW
   obtain ⟨wo, rfl⟩ : ∃ wo : World, wo = wr := ⟨_, rfl⟩
   obtain ⟨k, bo, zs, rfl, rfl, hk, HST⟩ := hrel
   have hbo := HST.out.le1
   by_cases hku : k < us.length
   ·obtain ⟨ad, rfl, hcx⟩ := Digs.at (HX.out.keep HST.out.below) hku
    have hxB : us[k] < 4294967296 := HU.out us[k] (List.getElem_mem _)
    have HTX := Lib.hid (val_take_succ hku)
    generalize us[k] = x at *
    have q0 : (0 : Int) ≤ (k : Int) := by omega
    have q1 : (k : Int) < (us.length : Int) := by omega
    have q3 : ((k : Int)).toNat = k := by omega
    have c0 := HST.out.blk.cell k
    have f0 := HST.out.blk.frozen k
    have hzl : (zs ++ List.replicate (us.length - k) 0).length = us.length := by rw [List.length_append, List.length_replicate, HST.out.len]; omega
    rw [darr_at _ (by rw [hzl]; omega)] at c0
    generalize (zs ++ List.replicate (us.length - k) 0)[k]'(by rw [hzl]; omega) = old at c0
    obtain ⟨d1, hd1⟩ : ∃ d1, (x + 18446744073709551616 - bo) % 18446744073709551616 = d1 := ⟨_, rfl⟩
    have w1 : IntKind.u64.wrap ((x : Int) - (bo : Int)) = (d1 : Int) := by rw [IntKind.wrap_u64]; omega
    by_cases hkv : k < vs.length
    ·obtain ⟨bd, rfl, hcy⟩ := Digs.at (HY.out.keep HST.out.below) hkv
     have hyB : vs[k] < 4294967296 := HV.out vs[k] (List.getElem_mem _)
     have HTY := Lib.hid (val_take_succ hkv)
     generalize vs[k] = y at *
     have q2 : (k : Int) < (vs.length : Int) := by omega
     have e1 : decide ((k : Int) < (vs.length : Int)) = true := decide_eq_true q2
     have e1' : decide (k < vs.length) = true := decide_eq_true hkv
     obtain ⟨d, hd⟩ : ∃ d, (x + 18446744073709551616 - (y + bo)) % 18446744073709551616 = d := ⟨_, rfl⟩
     have w2 : IntKind.u64.wrap ((d1 : Int) - (y : Int)) = (d : Int) := by rw [IntKind.wrap_u64]; omega
     have HS := Lib.hid (sub_word hxB hyB hbo hd rfl rfl)
     have hdB : d < 18446744073709551616 := by omega
     have b1 : bits BinOp.and IntKind.u64 ((d : Int) / 4294967296) 1 = ((d / 4294967296 % 2 : Nat) : Int) := by
      have := u64_and_nat (d / 4294967296) 1 (by omega) (by omega)
      rw [show d / 4294967296 &&& 1 = d / 4294967296 % 2 from Nat.and_two_pow_sub_one_eq_mod _ 1] at this
      rw [← this]; congr 1
     clear hd hd1
     go_wp2
     go_roundw
     case rel =>
      have hs := HST.out.step hku (Nat.le_refl _) HS.out.1 HS.out.2.1 HS.out.2.2 HTX.out HTY.out
      exact ⟨k + 1, d / 4294967296 % 2, _, by simp, by go_num, by omega, Lib.hid hs⟩
     case measure => simp [intOf]; omega
    ·have e1 : decide ((k : Int) < (vs.length : Int)) = false := decide_eq_false (by omega)
     have e1' : decide (k < vs.length) = false := decide_eq_false hkv
     have HTY : Hid (val (vs.take (k + 1)) = val (vs.take k) + B ^ k * 0) := Lib.hid (by rw [val_take_all (by omega), val_take_all (by omega)]; omega)
     have HS := Lib.hid (sub_word (y := 0) hxB (by decide) hbo (d := d1) (by rw [Nat.zero_add]; exact hd1) rfl rfl)
     have hdB : d1 < 18446744073709551616 := by omega
     have b1 : bits BinOp.and IntKind.u64 ((d1 : Int) / 4294967296) 1 = ((d1 / 4294967296 % 2 : Nat) : Int) := by
      have := u64_and_nat (d1 / 4294967296) 1 (by omega) (by omega)
      rw [show d1 / 4294967296 &&& 1 = d1 / 4294967296 % 2 from Nat.and_two_pow_sub_one_eq_mod _ 1] at this
      rw [← this]; congr 1
     clear hd1
     go_wp2
     go_roundw
     case rel =>
      have hs := HST.out.step hku (Nat.le_refl _) HS.out.1 HS.out.2.1 HS.out.2.2 HTX.out HTY.out
      exact ⟨k + 1, d1 / 4294967296 % 2, _, by simp, by go_num, by omega, Lib.hid hs⟩
     case measure => simp [intOf]; omega
   ·obtain rfl : k = us.length := by omega
    have hB2 := HST.out.blk
    rw [Nat.sub_self, List.replicate_zero, List.append_nil] at hB2
    have hlen : zs.length = us.length := HST.out.len
    have HT := Lib.hid (trim_dg (some ⟨w.heap.size, 0, none⟩) us.length zs wo (digs_of hB2) HST.out.dig (by omega) (by omega))
    have HVL : Hid (val zs = val us - val vs) := Lib.hid (HST.out.done HLE.out hl)
    have hdl := dg_val_len HST.out.dig
    rw [hlen, HVL.out] at HT
    rw [hlen, HVL.out] at hdl
    clear hB2 hlen
    go_wp2_with (go_at_call 127; refine HT.out.mono ?_; rintro e w' ⟨rfl, rfl, hD⟩)
    go_ret
    exact ⟨_, _, rfl, ND.some hD hdl, HST.out.below⟩
theorem nsub_any (X Y : Option Addr) (cx cy a b : Nat) (w : World) (hX : Digs w X (dg a)) (hY : Digs w Y (dg b)) (hab : b ≤ a) (ha : (dg a).length ≤ 400000) :
    Calls Tryz.prog 121 #[.slice X (dg a).length cx, .slice Y (dg b).length cy] w (RetDg (a - b) w) := by
  have hlen : (dg b).length ≤ (dg a).length := by
   rcases Nat.lt_or_ge (dg a).length (dg b).length with h | h
   ·have := dg_lt_of_len h; omega
   ·exact h
  have := nsub_loop X Y cx cy (dg a) (dg b) w hX hY (dg_dig a) (dg_dig b) hlen (by rw [val_dg, val_dg]; exact hab) ha
  rwa [val_dg, val_dg] at this
end Go.Proofs.Tg
end
section
/- The harness's Add of numbers of any size. -/
namespace Go.Proofs.Tg
open Go.RowKit Go.Gr Go.Bn
set_option maxHeartbeats 4000000
set_option maxRecDepth 100000
def RetSg (s : Bool) (m : Nat) (w : World) (e : Ending) (w' : World) : Prop :=
  ∃ R c, e = .returned (.agg #[.bool s, .slice R (dg m).length c]) ∧ ND w' R c m ∧ Below w.heap.size w w'
theorem retSg_int {s : Bool} {m : Nat} {w : World} {e : Ending} {w' : World} {z : Int} (h : RetSg s m w e w') (hm : z.natAbs = m) (hs : s = decide (z < 0)) : RetZ z w e w' := by
 obtain ⟨R, c, rfl, h1, h2⟩ := h
 subst hm
 exact ⟨R, c, by rw [hs], h1, h2⟩
theorem retSg_last {w W V : World} {s : Bool} {m : Nat} {R : Option Addr} {c : Nat} (hbW : Below w.heap.size w W) (hb : Below W.heap.size W V) (hR : ND V R c m) {g : Nat} (hg : w.heap.size ≤ g) (hB : Blk V g 107 #[.bool false, .slice none 0 0]) :
    RetSg s m w (.returned (.agg #[.bool s, .slice R (dg m).length c])) ((V.setCell ⟨g, 0, none⟩ (.bool s)).setCell ⟨g, 1, none⟩ (.slice R (dg m).length c)) :=
  ⟨R, c, rfl, (hR.far hB (by decide) _ _).far (hB.set 0 _) (by decide) _ _, below_far (below_far (below_all hbW hb) hg _ _) hg _ _⟩
theorem nAdd_same (p : Bool) (X Y : Option Addr) (cx cy a b : Nat) (w : World) (hX : ND w X cx a) (hY : ND w Y cy b) (ha : (dg a).length ≤ 400000) (hb : (dg b).length ≤ 400000) (hr : (dg (a + b)).length ≤ 1000000) :
    Calls Tryz.prog 90 #[.agg #[.bool p, .slice X (dg a).length cx], .agg #[.bool p, .slice Y (dg b).length cy]] w (RetSg (p && decide (0 < (dg (a + b)).length)) (a + b) w) := by
  obtain ⟨na, hna⟩ : ∃ na, (dg a).length = na := ⟨_, rfl⟩
  obtain ⟨nb, hnb⟩ : ∃ nb, (dg b).length = nb := ⟨_, rfl⟩
  obtain ⟨W, hW⟩ : ∃ W, ((w.alloc (.cells #[.bool p, .slice X na cx] 107)).alloc (.cells #[.bool p, .slice Y nb cy] 107)).alloc (.cells #[.bool false, .slice none 0 0] 107) = W := ⟨_, rfl⟩
  have B0 : Blk W w.heap.size 107 #[.bool p, .slice X na cx] := by rw [← hW]; exact ((Blk.new _ _ _).alloc _).alloc _
  have B1 : Blk W (w.heap.size + 1) 107 #[.bool p, .slice Y nb cy] := by
   rw [← hW]; have := (Blk.new (w.alloc (.cells #[.bool p, .slice X na cx] 107)) 107 #[.bool p, .slice Y nb cy]).alloc (.cells #[.bool false, .slice none 0 0] 107)
   simpa using this
  have B2 : Blk W (w.heap.size + 1 + 1) 107 #[.bool false, .slice none 0 0] := by
   rw [← hW]; have := Blk.new ((w.alloc (.cells #[.bool p, .slice X na cx] 107)).alloc (.cells #[.bool p, .slice Y nb cy] 107)) 107 #[.bool false, .slice none 0 0]
   simpa using this
  have hbW : Below w.heap.size w W := by rw [← hW]; exact (((Below.refl _ _).alloc (Nat.le_refl _) _).alloc (by simp) _).alloc (by simp; omega) _
  have HF : Hid (∀ V, Below W.heap.size W V → Calls Tryz.prog 119 #[.slice X na cx, .slice Y nb cy] V (RetDg (a + b) V)) := Lib.hid (fun V h => by rw [← hna, ← hnb]; exact nadd_any X Y cx cy a b V ((hX.keep hbW).keep h).digs ((hY.keep hbW).keep h).digs ha hb)
  obtain ⟨m, hm⟩ : ∃ m, a + b = m := ⟨_, rfl⟩
  rw [hm] at HF hr ⊢
  unfold RetDg at HF
  obtain ⟨nm, hnm⟩ : ∃ nm, (dg m).length = nm := ⟨_, rfl⟩
  have HLST : Hid (∀ (V : World) (R : Option Addr) (c : Nat) (v : Bool), Below W.heap.size W V → ND V R c m → Blk V (w.heap.size + 1 + 1) 107 #[.bool false, .slice none 0 0] → RetSg v m w (.returned (.agg #[.bool v, .slice R nm c])) ((V.setCell ⟨w.heap.size + 1 + 1, 0, none⟩ (.bool v)).setCell ⟨w.heap.size + 1 + 1, 1, none⟩ (.slice R nm c))) := Lib.hid (fun V R c v h1 h2 h3 => by rw [← hnm]; exact retSg_last hbW h1 h2 (by omega) h3)
  have HM : Hid (∀ V R c, Calls Tryz.prog 118 #[.bool p, .slice R nm c] V fun e w' => e = .returned (.agg #[.bool (p && decide (0 < nm)), .slice R nm c]) ∧ Below V.heap.size V w') := Lib.hid (fun V R c => make1_any (p) R nm c V _ rfl (by omega))
  rw [hnm] at HF ⊢
  rw [hna, hnb]
  obtain ⟨v, hv⟩ : ∃ v, (p && decide (0 < nm)) = v := ⟨_, rfl⟩
  rw [hv] at HM ⊢
  have HW := Lib.hid hW
  have HB0 := Lib.hid B0
  have HB1 := Lib.hid B1
  have HB2 := Lib.hid B2
  obtain ⟨a0, a1, _, _⟩ := B0.two
  obtain ⟨b0, b1, _, _⟩ := B1.two
  obtain ⟨d0, d1, d2, d3⟩ := B2.two
  have hl2 := B2.lt
  have n1 : (w.heap.size = w.heap.size + 1 + 1) = False := eq_false (by omega)
  have n2 : (w.heap.size + 1 + 1 = w.heap.size) = False := eq_false (by omega)
  have z0 := a0
  have z1 := a1
  have y0 := b0
  have y1 := b1
  clear hX hY hna hnb hm hnm hv hW B0 B1 B2 ha hb hr 
  cases p
  ·go_enter Tryz.func90, Tryz.ntmps90
   go_upto_region 1 with (fail)
   rw [HW.out]
   have hbe : Below W.heap.size W W.drew := (Below.refl _ _).drew
   go_upto_region 2 with (fail)
   go_region_held3 (fun w' => w'.cell? ⟨w.heap.size, 0, none⟩ = some (.bool false) ∧ w'.cell? ⟨w.heap.size, 1, none⟩ = some (.slice X na cx) ∧ w'.cell? ⟨w.heap.size + 1, 0, none⟩ = some (.bool false) ∧ w'.cell? ⟨w.heap.size + 1, 1, none⟩ = some (.slice Y nb cy))
     (first | exact ⟨keep_cell hbe a0, keep_cell hbe a1, keep_cell hbe b0, keep_cell hbe b1⟩ | exact ⟨keep_cell hbe z0, keep_cell hbe z1, keep_cell hbe y0, keep_cell hbe y1⟩ | go_keep | (dsimp only; refine ⟨?_, ?_, ?_, ?_⟩ <;> go_keep) | (refine ⟨?_, ?_, ?_, ?_⟩ <;> (rw [World.cell?_setCell_ne, World.cell?_setCell_ne] <;> first | exact keep_cell hbe z0 | exact keep_cell hbe z1 | exact keep_cell hbe y0 | exact keep_cell hbe y1 | (simp; omega) | simp)))
     (first
       | (go_at_call 119; with_reducible refine Calls.mono (HF.out _ (by assumption)) ?_; rintro e w5 ⟨R, cr, rfl, hR, hb5⟩
          have hbe := below_all hbe hb5)
       | (go_at_call 118; with_reducible refine Calls.mono (HM.out _ _ _) ?_; rintro e w6 ⟨rfl, hb6⟩
          have hR := hR.keep hb6
          have hbe := below_all hbe hb6
          have E2 := HB2.out.keep hbe hl2
          obtain ⟨d0, d1, d2, d3⟩ := E2.two))
   all_goals
     go_wp2
     exact bodyPost_ret (v := .agg #[.bool v, .slice R nm cr]) (by simp [results, Tryz.results90, go_sem, d0, d1]) rfl (HLST.out w6 R cr v hbe hR E2)
  ·go_enter Tryz.func90, Tryz.ntmps90
   go_upto_region 1 with (fail)
   rw [HW.out]
   have hbe : Below W.heap.size W W.drew := (Below.refl _ _).drew
   go_upto_region 2 with (fail)
   go_region_held3 (fun w' => w'.cell? ⟨w.heap.size, 0, none⟩ = some (.bool true) ∧ w'.cell? ⟨w.heap.size, 1, none⟩ = some (.slice X na cx) ∧ w'.cell? ⟨w.heap.size + 1, 0, none⟩ = some (.bool true) ∧ w'.cell? ⟨w.heap.size + 1, 1, none⟩ = some (.slice Y nb cy))
     (first | exact ⟨keep_cell hbe a0, keep_cell hbe a1, keep_cell hbe b0, keep_cell hbe b1⟩ | exact ⟨keep_cell hbe z0, keep_cell hbe z1, keep_cell hbe y0, keep_cell hbe y1⟩ | go_keep | (dsimp only; refine ⟨?_, ?_, ?_, ?_⟩ <;> go_keep) | (refine ⟨?_, ?_, ?_, ?_⟩ <;> (rw [World.cell?_setCell_ne, World.cell?_setCell_ne] <;> first | exact keep_cell hbe z0 | exact keep_cell hbe z1 | exact keep_cell hbe y0 | exact keep_cell hbe y1 | (simp; omega) | simp)))
     (first
       | (go_at_call 119; with_reducible refine Calls.mono (HF.out _ (by assumption)) ?_; rintro e w5 ⟨R, cr, rfl, hR, hb5⟩
          have hbe := below_all hbe hb5)
       | (go_at_call 118; with_reducible refine Calls.mono (HM.out _ _ _) ?_; rintro e w6 ⟨rfl, hb6⟩
          have hR := hR.keep hb6
          have hbe := below_all hbe hb6
          have E2 := HB2.out.keep hbe hl2
          obtain ⟨d0, d1, d2, d3⟩ := E2.two))
   all_goals
     go_wp2
     exact bodyPost_ret (v := .agg #[.bool v, .slice R nm cr]) (by simp [results, Tryz.results90, go_sem, d0, d1]) rfl (HLST.out w6 R cr v hbe hR E2)
theorem nAdd_ge (p q : Bool) (hpq : (p == q) = false) (X Y : Option Addr) (cx cy a b : Nat) (w : World) (hX : ND w X cx a) (hY : ND w Y cy b) (hab : b ≤ a) (ha : (dg a).length ≤ 400000) (hb : (dg b).length ≤ 400000) (hr : (dg (a - b)).length ≤ 1000000) :
    Calls Tryz.prog 90 #[.agg #[.bool p, .slice X (dg a).length cx], .agg #[.bool q, .slice Y (dg b).length cy]] w (RetSg (p && decide (0 < (dg (a - b)).length)) (a - b) w) := by
  obtain ⟨na, hna⟩ : ∃ na, (dg a).length = na := ⟨_, rfl⟩
  obtain ⟨nb, hnb⟩ : ∃ nb, (dg b).length = nb := ⟨_, rfl⟩
  obtain ⟨W, hW⟩ : ∃ W, ((w.alloc (.cells #[.bool p, .slice X na cx] 107)).alloc (.cells #[.bool q, .slice Y nb cy] 107)).alloc (.cells #[.bool false, .slice none 0 0] 107) = W := ⟨_, rfl⟩
  have B0 : Blk W w.heap.size 107 #[.bool p, .slice X na cx] := by rw [← hW]; exact ((Blk.new _ _ _).alloc _).alloc _
  have B1 : Blk W (w.heap.size + 1) 107 #[.bool q, .slice Y nb cy] := by
   rw [← hW]; have := (Blk.new (w.alloc (.cells #[.bool p, .slice X na cx] 107)) 107 #[.bool q, .slice Y nb cy]).alloc (.cells #[.bool false, .slice none 0 0] 107)
   simpa using this
  have B2 : Blk W (w.heap.size + 1 + 1) 107 #[.bool false, .slice none 0 0] := by
   rw [← hW]; have := Blk.new ((w.alloc (.cells #[.bool p, .slice X na cx] 107)).alloc (.cells #[.bool q, .slice Y nb cy] 107)) 107 #[.bool false, .slice none 0 0]
   simpa using this
  have hbW : Below w.heap.size w W := by rw [← hW]; exact (((Below.refl _ _).alloc (Nat.le_refl _) _).alloc (by simp) _).alloc (by simp; omega) _
  have HF : Hid (∀ V, Below W.heap.size W V → Calls Tryz.prog 121 #[.slice X na cx, .slice Y nb cy] V (RetDg (a - b) V)) := Lib.hid (fun V h => by rw [← hna, ← hnb]; exact nsub_any X Y cx cy a b V ((hX.keep hbW).keep h).digs ((hY.keep hbW).keep h).digs hab ha)
  obtain ⟨m, hm⟩ : ∃ m, a - b = m := ⟨_, rfl⟩
  rw [hm] at HF hr ⊢
  unfold RetDg at HF
  obtain ⟨nm, hnm⟩ : ∃ nm, (dg m).length = nm := ⟨_, rfl⟩
  have HLST : Hid (∀ (V : World) (R : Option Addr) (c : Nat) (v : Bool), Below W.heap.size W V → ND V R c m → Blk V (w.heap.size + 1 + 1) 107 #[.bool false, .slice none 0 0] → RetSg v m w (.returned (.agg #[.bool v, .slice R nm c])) ((V.setCell ⟨w.heap.size + 1 + 1, 0, none⟩ (.bool v)).setCell ⟨w.heap.size + 1 + 1, 1, none⟩ (.slice R nm c))) := Lib.hid (fun V R c v h1 h2 h3 => by rw [← hnm]; exact retSg_last hbW h1 h2 (by omega) h3)
  have HM : Hid (∀ V R c, Calls Tryz.prog 118 #[.bool p, .slice R nm c] V fun e w' => e = .returned (.agg #[.bool (p && decide (0 < nm)), .slice R nm c]) ∧ Below V.heap.size V w') := Lib.hid (fun V R c => make1_any (p) R nm c V _ rfl (by omega))
  rw [hnm] at HF ⊢
  have HC := Lib.hid (ncmp_any X Y cx cy a b W (hX.keep hbW).digs (hY.keep hbW).digs (by omega))
  rw [hna, hnb] at HC
  obtain ⟨z, hz, hz0⟩ : ∃ z : Int, (if a < b then (-1 : Int) else if a = b then 0 else 1) = z ∧ 0 ≤ z := ⟨_, rfl, by rw [if_neg (by omega)]; split <;> decide⟩
  rw [hz] at HC
  have hzd : decide (z < 0) = false := decide_eq_false (by omega)
  have hzd' : decide (0 ≤ z) = true := decide_eq_true hz0
  clear hz
  rw [hna, hnb]
  obtain ⟨v, hv⟩ : ∃ v, (p && decide (0 < nm)) = v := ⟨_, rfl⟩
  rw [hv] at HM ⊢
  have HW := Lib.hid hW
  have HB0 := Lib.hid B0
  have HB1 := Lib.hid B1
  have HB2 := Lib.hid B2
  obtain ⟨a0, a1, _, _⟩ := B0.two
  obtain ⟨b0, b1, _, _⟩ := B1.two
  obtain ⟨d0, d1, d2, d3⟩ := B2.two
  have hl2 := B2.lt
  have n1 : (w.heap.size = w.heap.size + 1 + 1) = False := eq_false (by omega)
  have n2 : (w.heap.size + 1 + 1 = w.heap.size) = False := eq_false (by omega)
  have z0 := a0
  have z1 := a1
  have y0 := b0
  have y1 := b1
  clear hX hY hna hnb hm hnm hv hW B0 B1 B2 ha hb hr hab
  obtain ⟨rfl, rfl⟩ | ⟨rfl, rfl⟩ : (p = false ∧ q = true) ∨ (p = true ∧ q = false) := by revert hpq; cases p <;> cases q <;> decide
  ·go_enter Tryz.func90, Tryz.ntmps90
   go_upto_region 1 with (fail)
   rw [HW.out]
   go_upto_region 3 with (fail)
   go_wp2_with (fail)
   refine HC.out.mono ?_
   rintro e W1 ⟨rfl, hdr⟩
   have hbe : Below W.heap.size W W1.drew := hdr.below.drew
   have hbe1 := hdr.below
   clear hdr a0 a1 b0 b1 d0 d1 d2 d3
   obtain ⟨a0, a1, _, _⟩ := (HB0.out.keep hbe1 HB0.out.lt).two
   obtain ⟨b0, b1, _, _⟩ := (HB1.out.keep hbe1 HB1.out.lt).two
   obtain ⟨d0, d1, d2, d3⟩ := (HB2.out.keep hbe1 HB2.out.lt).two
   go_upto_region 4 with (fail)
   go_region_held3 (fun w' => w'.cell? ⟨w.heap.size, 0, none⟩ = some (.bool false) ∧ w'.cell? ⟨w.heap.size, 1, none⟩ = some (.slice X na cx) ∧ w'.cell? ⟨w.heap.size + 1, 0, none⟩ = some (.bool true) ∧ w'.cell? ⟨w.heap.size + 1, 1, none⟩ = some (.slice Y nb cy))
     (first | exact ⟨keep_cell hbe a0, keep_cell hbe a1, keep_cell hbe b0, keep_cell hbe b1⟩ | exact ⟨keep_cell hbe z0, keep_cell hbe z1, keep_cell hbe y0, keep_cell hbe y1⟩ | go_keep | (dsimp only; refine ⟨?_, ?_, ?_, ?_⟩ <;> go_keep) | (refine ⟨?_, ?_, ?_, ?_⟩ <;> (rw [World.cell?_setCell_ne, World.cell?_setCell_ne] <;> first | exact keep_cell hbe z0 | exact keep_cell hbe z1 | exact keep_cell hbe y0 | exact keep_cell hbe y1 | (simp; omega) | simp)))
     (first
       | (go_at_call 121; with_reducible refine Calls.mono (HF.out _ (by assumption)) ?_; rintro e w5 ⟨R, cr, rfl, hR, hb5⟩
          have hbe := below_all hbe hb5)
       | (go_at_call 118; with_reducible refine Calls.mono (HM.out _ _ _) ?_; rintro e w6 ⟨rfl, hb6⟩
          have hR := hR.keep hb6
          have hbe := below_all hbe hb6
          have E2 := HB2.out.keep hbe hl2
          obtain ⟨d0, d1, d2, d3⟩ := E2.two))
   all_goals
     go_wp2
     exact bodyPost_ret (v := .agg #[.bool v, .slice R nm cr]) (by simp [results, Tryz.results90, go_sem, d0, d1]) rfl (HLST.out w6 R cr v hbe hR E2)
  ·go_enter Tryz.func90, Tryz.ntmps90
   go_upto_region 1 with (fail)
   rw [HW.out]
   go_upto_region 3 with (fail)
   go_wp2_with (fail)
   refine HC.out.mono ?_
   rintro e W1 ⟨rfl, hdr⟩
   have hbe : Below W.heap.size W W1.drew := hdr.below.drew
   have hbe1 := hdr.below
   clear hdr a0 a1 b0 b1 d0 d1 d2 d3
   obtain ⟨a0, a1, _, _⟩ := (HB0.out.keep hbe1 HB0.out.lt).two
   obtain ⟨b0, b1, _, _⟩ := (HB1.out.keep hbe1 HB1.out.lt).two
   obtain ⟨d0, d1, d2, d3⟩ := (HB2.out.keep hbe1 HB2.out.lt).two
   go_upto_region 4 with (fail)
   go_region_held3 (fun w' => w'.cell? ⟨w.heap.size, 0, none⟩ = some (.bool true) ∧ w'.cell? ⟨w.heap.size, 1, none⟩ = some (.slice X na cx) ∧ w'.cell? ⟨w.heap.size + 1, 0, none⟩ = some (.bool false) ∧ w'.cell? ⟨w.heap.size + 1, 1, none⟩ = some (.slice Y nb cy))
     (first | exact ⟨keep_cell hbe a0, keep_cell hbe a1, keep_cell hbe b0, keep_cell hbe b1⟩ | exact ⟨keep_cell hbe z0, keep_cell hbe z1, keep_cell hbe y0, keep_cell hbe y1⟩ | go_keep | (dsimp only; refine ⟨?_, ?_, ?_, ?_⟩ <;> go_keep) | (refine ⟨?_, ?_, ?_, ?_⟩ <;> (rw [World.cell?_setCell_ne, World.cell?_setCell_ne] <;> first | exact keep_cell hbe z0 | exact keep_cell hbe z1 | exact keep_cell hbe y0 | exact keep_cell hbe y1 | (simp; omega) | simp)))
     (first
       | (go_at_call 121; with_reducible refine Calls.mono (HF.out _ (by assumption)) ?_; rintro e w5 ⟨R, cr, rfl, hR, hb5⟩
          have hbe := below_all hbe hb5)
       | (go_at_call 118; with_reducible refine Calls.mono (HM.out _ _ _) ?_; rintro e w6 ⟨rfl, hb6⟩
          have hR := hR.keep hb6
          have hbe := below_all hbe hb6
          have E2 := HB2.out.keep hbe hl2
          obtain ⟨d0, d1, d2, d3⟩ := E2.two))
   all_goals
     go_wp2
     exact bodyPost_ret (v := .agg #[.bool v, .slice R nm cr]) (by simp [results, Tryz.results90, go_sem, d0, d1]) rfl (HLST.out w6 R cr v hbe hR E2)
theorem nAdd_lt (p q : Bool) (hpq : (p == q) = false) (X Y : Option Addr) (cx cy a b : Nat) (w : World) (hX : ND w X cx a) (hY : ND w Y cy b) (hab : a < b) (ha : (dg a).length ≤ 400000) (hb : (dg b).length ≤ 400000) (hr : (dg (b - a)).length ≤ 1000000) :
    Calls Tryz.prog 90 #[.agg #[.bool p, .slice X (dg a).length cx], .agg #[.bool q, .slice Y (dg b).length cy]] w (RetSg (q && decide (0 < (dg (b - a)).length)) (b - a) w) := by
  obtain ⟨na, hna⟩ : ∃ na, (dg a).length = na := ⟨_, rfl⟩
  obtain ⟨nb, hnb⟩ : ∃ nb, (dg b).length = nb := ⟨_, rfl⟩
  obtain ⟨W, hW⟩ : ∃ W, ((w.alloc (.cells #[.bool p, .slice X na cx] 107)).alloc (.cells #[.bool q, .slice Y nb cy] 107)).alloc (.cells #[.bool false, .slice none 0 0] 107) = W := ⟨_, rfl⟩
  have B0 : Blk W w.heap.size 107 #[.bool p, .slice X na cx] := by rw [← hW]; exact ((Blk.new _ _ _).alloc _).alloc _
  have B1 : Blk W (w.heap.size + 1) 107 #[.bool q, .slice Y nb cy] := by
   rw [← hW]; have := (Blk.new (w.alloc (.cells #[.bool p, .slice X na cx] 107)) 107 #[.bool q, .slice Y nb cy]).alloc (.cells #[.bool false, .slice none 0 0] 107)
   simpa using this
  have B2 : Blk W (w.heap.size + 1 + 1) 107 #[.bool false, .slice none 0 0] := by
   rw [← hW]; have := Blk.new ((w.alloc (.cells #[.bool p, .slice X na cx] 107)).alloc (.cells #[.bool q, .slice Y nb cy] 107)) 107 #[.bool false, .slice none 0 0]
   simpa using this
  have hbW : Below w.heap.size w W := by rw [← hW]; exact (((Below.refl _ _).alloc (Nat.le_refl _) _).alloc (by simp) _).alloc (by simp; omega) _
  have HF : Hid (∀ V, Below W.heap.size W V → Calls Tryz.prog 121 #[.slice Y nb cy, .slice X na cx] V (RetDg (b - a) V)) := Lib.hid (fun V h => by rw [← hna, ← hnb]; exact nsub_any Y X cy cx b a V ((hY.keep hbW).keep h).digs ((hX.keep hbW).keep h).digs (by omega) hb)
  obtain ⟨m, hm⟩ : ∃ m, b - a = m := ⟨_, rfl⟩
  rw [hm] at HF hr ⊢
  unfold RetDg at HF
  obtain ⟨nm, hnm⟩ : ∃ nm, (dg m).length = nm := ⟨_, rfl⟩
  have HLST : Hid (∀ (V : World) (R : Option Addr) (c : Nat) (v : Bool), Below W.heap.size W V → ND V R c m → Blk V (w.heap.size + 1 + 1) 107 #[.bool false, .slice none 0 0] → RetSg v m w (.returned (.agg #[.bool v, .slice R nm c])) ((V.setCell ⟨w.heap.size + 1 + 1, 0, none⟩ (.bool v)).setCell ⟨w.heap.size + 1 + 1, 1, none⟩ (.slice R nm c))) := Lib.hid (fun V R c v h1 h2 h3 => by rw [← hnm]; exact retSg_last hbW h1 h2 (by omega) h3)
  have HM : Hid (∀ V R c, Calls Tryz.prog 118 #[.bool q, .slice R nm c] V fun e w' => e = .returned (.agg #[.bool (q && decide (0 < nm)), .slice R nm c]) ∧ Below V.heap.size V w') := Lib.hid (fun V R c => make1_any (q) R nm c V _ rfl (by omega))
  rw [hnm] at HF ⊢
  have HC := Lib.hid (ncmp_any X Y cx cy a b W (hX.keep hbW).digs (hY.keep hbW).digs (by omega))
  rw [hna, hnb] at HC
  rw [if_pos hab] at HC
  rw [hna, hnb]
  obtain ⟨v, hv⟩ : ∃ v, (q && decide (0 < nm)) = v := ⟨_, rfl⟩
  rw [hv] at HM ⊢
  have HW := Lib.hid hW
  have HB0 := Lib.hid B0
  have HB1 := Lib.hid B1
  have HB2 := Lib.hid B2
  obtain ⟨a0, a1, _, _⟩ := B0.two
  obtain ⟨b0, b1, _, _⟩ := B1.two
  obtain ⟨d0, d1, d2, d3⟩ := B2.two
  have hl2 := B2.lt
  have n1 : (w.heap.size = w.heap.size + 1 + 1) = False := eq_false (by omega)
  have n2 : (w.heap.size + 1 + 1 = w.heap.size) = False := eq_false (by omega)
  have z0 := a0
  have z1 := a1
  have y0 := b0
  have y1 := b1
  clear hX hY hna hnb hm hnm hv hW B0 B1 B2 ha hb hr hab
  obtain ⟨rfl, rfl⟩ | ⟨rfl, rfl⟩ : (p = false ∧ q = true) ∨ (p = true ∧ q = false) := by revert hpq; cases p <;> cases q <;> decide
  ·go_enter Tryz.func90, Tryz.ntmps90
   go_upto_region 1 with (fail)
   rw [HW.out]
   go_upto_region 3 with (fail)
   go_wp2_with (fail)
   refine HC.out.mono ?_
   rintro e W1 ⟨rfl, hdr⟩
   have hbe : Below W.heap.size W W1.drew := hdr.below.drew
   have hbe1 := hdr.below
   clear hdr a0 a1 b0 b1 d0 d1 d2 d3
   obtain ⟨a0, a1, _, _⟩ := (HB0.out.keep hbe1 HB0.out.lt).two
   obtain ⟨b0, b1, _, _⟩ := (HB1.out.keep hbe1 HB1.out.lt).two
   obtain ⟨d0, d1, d2, d3⟩ := (HB2.out.keep hbe1 HB2.out.lt).two
   go_upto_region 5 with (fail)
   go_region_held3 (fun w' => w'.cell? ⟨w.heap.size, 0, none⟩ = some (.bool false) ∧ w'.cell? ⟨w.heap.size, 1, none⟩ = some (.slice X na cx) ∧ w'.cell? ⟨w.heap.size + 1, 0, none⟩ = some (.bool true) ∧ w'.cell? ⟨w.heap.size + 1, 1, none⟩ = some (.slice Y nb cy))
     (first | exact ⟨keep_cell hbe a0, keep_cell hbe a1, keep_cell hbe b0, keep_cell hbe b1⟩ | exact ⟨keep_cell hbe z0, keep_cell hbe z1, keep_cell hbe y0, keep_cell hbe y1⟩ | go_keep | (dsimp only; refine ⟨?_, ?_, ?_, ?_⟩ <;> go_keep) | (refine ⟨?_, ?_, ?_, ?_⟩ <;> (rw [World.cell?_setCell_ne, World.cell?_setCell_ne] <;> first | exact keep_cell hbe z0 | exact keep_cell hbe z1 | exact keep_cell hbe y0 | exact keep_cell hbe y1 | (simp; omega) | simp)))
     (first
       | (go_at_call 121; with_reducible refine Calls.mono (HF.out _ (by assumption)) ?_; rintro e w5 ⟨R, cr, rfl, hR, hb5⟩
          have hbe := below_all hbe hb5)
       | (go_at_call 118; with_reducible refine Calls.mono (HM.out _ _ _) ?_; rintro e w6 ⟨rfl, hb6⟩
          have hR := hR.keep hb6
          have hbe := below_all hbe hb6
          have E2 := HB2.out.keep hbe hl2
          obtain ⟨d0, d1, d2, d3⟩ := E2.two))
   all_goals
     go_wp2
     exact bodyPost_ret (v := .agg #[.bool v, .slice R nm cr]) (by simp [results, Tryz.results90, go_sem, d0, d1]) rfl (HLST.out w6 R cr v hbe hR E2)
  ·go_enter Tryz.func90, Tryz.ntmps90
   go_upto_region 1 with (fail)
   rw [HW.out]
   go_upto_region 3 with (fail)
   go_wp2_with (fail)
   refine HC.out.mono ?_
   rintro e W1 ⟨rfl, hdr⟩
   have hbe : Below W.heap.size W W1.drew := hdr.below.drew
   have hbe1 := hdr.below
   clear hdr a0 a1 b0 b1 d0 d1 d2 d3
   obtain ⟨a0, a1, _, _⟩ := (HB0.out.keep hbe1 HB0.out.lt).two
   obtain ⟨b0, b1, _, _⟩ := (HB1.out.keep hbe1 HB1.out.lt).two
   obtain ⟨d0, d1, d2, d3⟩ := (HB2.out.keep hbe1 HB2.out.lt).two
   go_upto_region 5 with (fail)
   go_region_held3 (fun w' => w'.cell? ⟨w.heap.size, 0, none⟩ = some (.bool true) ∧ w'.cell? ⟨w.heap.size, 1, none⟩ = some (.slice X na cx) ∧ w'.cell? ⟨w.heap.size + 1, 0, none⟩ = some (.bool false) ∧ w'.cell? ⟨w.heap.size + 1, 1, none⟩ = some (.slice Y nb cy))
     (first | exact ⟨keep_cell hbe a0, keep_cell hbe a1, keep_cell hbe b0, keep_cell hbe b1⟩ | exact ⟨keep_cell hbe z0, keep_cell hbe z1, keep_cell hbe y0, keep_cell hbe y1⟩ | go_keep | (dsimp only; refine ⟨?_, ?_, ?_, ?_⟩ <;> go_keep) | (refine ⟨?_, ?_, ?_, ?_⟩ <;> (rw [World.cell?_setCell_ne, World.cell?_setCell_ne] <;> first | exact keep_cell hbe z0 | exact keep_cell hbe z1 | exact keep_cell hbe y0 | exact keep_cell hbe y1 | (simp; omega) | simp)))
     (first
       | (go_at_call 121; with_reducible refine Calls.mono (HF.out _ (by assumption)) ?_; rintro e w5 ⟨R, cr, rfl, hR, hb5⟩
          have hbe := below_all hbe hb5)
       | (go_at_call 118; with_reducible refine Calls.mono (HM.out _ _ _) ?_; rintro e w6 ⟨rfl, hb6⟩
          have hR := hR.keep hb6
          have hbe := below_all hbe hb6
          have E2 := HB2.out.keep hbe hl2
          obtain ⟨d0, d1, d2, d3⟩ := E2.two))
   all_goals
     go_wp2
     exact bodyPost_ret (v := .agg #[.bool v, .slice R nm cr]) (by simp [results, Tryz.results90, go_sem, d0, d1]) rfl (HLST.out w6 R cr v hbe hR E2)
end Go.Proofs.Tg
end
