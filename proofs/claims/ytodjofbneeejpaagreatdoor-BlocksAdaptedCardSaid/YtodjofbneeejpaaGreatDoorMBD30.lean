/- Parts of the proof: BN7, BN21, BN25, BN26, BN27. -/
import Derived.Laws.OwnMore
import Derived.RegionTactic
import Derived.ChangeAlike
import Derived.Deep.DeepCutAuto
import Derived.StillTailTactics
import Derived.Deep.CutRange
import Derived.ChangeKeysEq
import Derived.Laws.Rows
import Derived.Laws.Tables
import Derived.Deep.RegionHeld3
import Derived.Test.YtodjofbneeejpaaGreatDoorMBD0
import Derived.Test.YtodjofbneeejpaaGreatDoorMBD1
import Derived.Test.YtodjofbneeejpaaGreatDoorMBD2
import Derived.Test.YtodjofbneeejpaaGreatDoorMBD3
import Derived.Test.YtodjofbneeejpaaGreatDoorMBD10
import Derived.Test.YtodjofbneeejpaaGreatDoorMBD24
import Derived.Test.YtodjofbneeejpaaGreatDoorMBD28
import Derived.Test.YtodjofbneeejpaaGreatDoorMBD29
section
/- The harness's product of absolute values, whatever their length. -/
namespace Go.Proofs.Tg
open Go.RowKit Go.Gr Go.Bn
set_option maxHeartbeats 4000000
set_option maxRecDepth 100000
theorem val_set : ∀ (l : List Nat) (j : Nat) (h : j < l.length) (s : Nat), val (l.set j s) + B ^ j * l[j] = val l + B ^ j * s
  | x :: l, 0, _, s => by simp only [List.set_cons_zero, val, List.getElem_cons_zero, Nat.pow_zero, Nat.one_mul]; omega
  | x :: l, j + 1, h, s => by
    have ih := val_set l j (by simpa using h) s
    simp only [List.set_cons_succ, val, List.getElem_cons_succ, Nat.pow_succ]
    have e : ∀ t, B ^ j * B * t = B * (B ^ j * t) := fun t => by rw [Nat.mul_comm (B ^ j) B, Nat.mul_assoc]
    rw [e, e, Nat.add_assoc, ← Nat.mul_add, ih, Nat.mul_add]
    omega
/-- The digits after some digits of the first number. -/
structure MulSt (us vs : List Nat) (g : Nat) (w0 wr : World) (i : Nat) (zs : List Nat) : Prop where
  len : zs.length = i + vs.length
  dig : Dig zs
  sum : val zs = val (us.take i) * val vs
  blk : Blk wr g 123 (darr (zs ++ List.replicate (us.length - i) 0))
  below : Below w0.heap.size w0 wr
/-- Inside one row. -/
structure MulIn (us vs : List Nat) (g : Nat) (w0 wr : World) (i x k c : Nat) (zs : List Nat) : Prop where
  len : zs.length = i + vs.length
  dig : Dig zs
  car : c < B
  sum : val zs + B ^ (i + k) * c = val (us.take i) * val vs + B ^ i * (x * val (vs.take k))
  blk : Blk wr g 123 (darr (zs ++ List.replicate (us.length - i) 0))
  below : Below w0.heap.size w0 wr
theorem mul_bound {c x y o : Nat} (hc : c < B) (hx : x < B) (hy : y < B) (ho : o < B) : c + (x * y + o) < B * B := by
 have h : x * y ≤ (B - 1) * (B - 1) := Nat.mul_le_mul (by omega) (by omega)
 have e : (B - 1) * (B - 1) = B * B - 2 * B + 1 := by decide
 have e2 : 2 * B ≤ B * B := by decide
 omega
theorem MulIn.step {us vs : List Nat} {g : Nat} {w0 wo : World} {i x k c : Nat} {zs : List Nat} (h : MulIn us vs g w0 wo i x k c zs) (hk : k < vs.length) (hg : w0.heap.size ≤ g) {y o : Nat} (hx : x < B) (hy : y < B)
    (ho : zs[i + k]'(by rw [h.len]; omega) = o) (h2 : val (vs.take (k + 1)) = val (vs.take k) + B ^ k * y) :
    MulIn us vs g w0 (wo.setCell ⟨g, i + k, none⟩ (.int .u32 (((c + (x * y + o)) % B : Nat) : Int))) i x (k + 1) ((c + (x * y + o)) / B) (zs.set (i + k) ((c + (x * y + o)) % B)) := by
  have hl : i + k < zs.length := by rw [h.len]; omega
  have hoB : o < B := by rw [← ho]; exact h.dig _ (List.getElem_mem _)
  refine ⟨by rw [List.length_set, h.len], fun z hz => ?_, ?_, ?_, ?_, below_far h.below hg _ _⟩
  ·rcases List.mem_or_eq_of_mem_set hz with hz | rfl
   ·exact h.dig z hz
   ·exact Nat.mod_lt _ (by decide)
  ·rw [Nat.div_lt_iff_lt_mul (by decide)]
   exact mul_bound h.car hx hy hoB
  ·have hv := val_set zs (i + k) hl ((c + (x * y + o)) % B)
   rw [ho] at hv
   have hs := h.sum
   have hm := Nat.mod_add_div (c + (x * y + o)) B
   have e1 : B ^ (i + (k + 1)) * ((c + (x * y + o)) / B) = B ^ (i + k) * (B * ((c + (x * y + o)) / B)) := by rw [← Nat.add_assoc, Nat.pow_succ, Nat.mul_assoc]
   have e2 : B ^ (i + k) * ((c + (x * y + o)) % B) + B ^ (i + k) * (B * ((c + (x * y + o)) / B)) = B ^ (i + k) * (c + (x * y + o)) := by rw [← Nat.mul_add, hm]
   have e3 : B ^ (i + k) * (c + (x * y + o)) = B ^ (i + k) * c + B ^ (i + k) * (x * y) + B ^ (i + k) * o := by rw [Nat.mul_add, Nat.mul_add, Nat.add_assoc]
   have e4 : B ^ i * (x * val (vs.take (k + 1))) = B ^ i * (x * val (vs.take k)) + B ^ (i + k) * (x * y) := by
    rw [h2, Nat.mul_add, Nat.mul_add, Nat.pow_add]
    congr 1
    rw [Nat.mul_assoc (B ^ i), Nat.mul_left_comm x]
   rw [e1, e4]
   omega
  ·have := h.blk.set (i + k) (.int .u32 (((c + (x * y + o)) % B : Nat) : Int))
   rwa [darr_set, List.set_append_left _ _ hl] at this
theorem MulIn.drew {us vs : List Nat} {g : Nat} {w0 wo : World} {i x k c : Nat} {zs : List Nat} (h : MulIn us vs g w0 wo i x k c zs) : MulIn us vs g w0 wo.drew i x k c zs :=
  ⟨h.len, h.dig, h.car, h.sum, h.blk.drew, h.below.drew⟩
theorem MulSt.into {us vs : List Nat} {g : Nat} {w0 wo : World} {i : Nat} {zs : List Nat} (h : MulSt us vs g w0 wo i zs) (x : Nat) : MulIn us vs g w0 wo i x 0 0 zs :=
  ⟨h.len, h.dig, by decide, by simp [h.sum, val], h.blk, h.below⟩
theorem MulIn.out {us vs : List Nat} {g : Nat} {w0 wo : World} {i x c : Nat} {zs : List Nat} (h : MulIn us vs g w0 wo i x vs.length c zs) (hi : i < us.length) (hg : w0.heap.size ≤ g) (h1 : val (us.take (i + 1)) = val (us.take i) + B ^ i * x) :
    MulSt us vs g w0 (wo.setCell ⟨g, i + vs.length, none⟩ (.int .u32 (c : Nat))) (i + 1) (zs ++ [c]) := by
  refine ⟨by rw [List.length_append, h.len]; simp; omega, fun z hz => ?_, ?_, ?_, below_far h.below hg _ _⟩
  ·rcases List.mem_append.1 hz with hz | hz
   ·exact h.dig z hz
   ·rw [List.mem_singleton.1 hz]; exact h.car
  ·have hs := h.sum
   rw [List.take_length] at hs
   rw [val_app, h.len, h1, Nat.add_mul, Nat.mul_assoc, ← hs]
   simp [val]
  ·have := h.blk.set (i + vs.length) (.int .u32 (c : Nat))
   rwa [darr_set, List.set_append_right _ _ (by rw [h.len]; exact Nat.le_refl _), h.len, Nat.sub_self, show us.length - i = (us.length - (i + 1)) + 1 by omega, List.replicate_succ, List.set_cons_zero, show zs ++ c :: List.replicate (us.length - (i + 1)) 0 = (zs ++ [c]) ++ List.replicate (us.length - (i + 1)) 0 by simp] at this
theorem mulloop (X Y : Option Addr) (cx cy : Nat) (us vs : List Nat) (w : World) (hX : Digs w X us) (hY : Digs w Y vs) (hu : Dig us) (hv : Dig vs) (hu0 : 0 < us.length) (hv0 : 0 < vs.length) (hn : us.length ≤ 200000) (hm : vs.length ≤ 200000) :
    Calls Tryz.prog 126 #[.slice X us.length cx, .slice Y vs.length cy] w (RetDg (val us * val vs) w) := by
  have HU := Lib.hid hu
  have HV := Lib.hid hv
  have HX := Lib.hid hX
  have HY := Lib.hid hY
  have n1 : ¬ (us.length = 0) := by omega
  have n2 : ¬ (vs.length = 0) := by omega
  have n3 : ((us.length : Int) == 0) = false := beq_eq_false_iff_ne.2 (by omega)
  have n4 : ((vs.length : Int) == 0) = false := beq_eq_false_iff_ne.2 (by omega)
  have hmk := fun W => make_digs (us.length + vs.length) (by omega) W
  have hc1 : ((us.length + vs.length : Nat) : Int) = (us.length : Int) + (vs.length : Int) := by omega
  rw [hc1] at hmk
  clear hc1
  clear hu hv hX hY
  go_enter Tryz.func126, Tryz.ntmps126
  go_upto_region 4 with (fail)
  obtain ⟨W, hW⟩ : ∃ W, w.alloc (.cells (madeCells #[.int .u32 0] (us.length + vs.length)) 123) = W := ⟨_, rfl⟩
  have G5 : Blk W w.heap.size 123 (darr (List.replicate vs.length 0 ++ List.replicate (us.length - 0) 0)) := by
   rw [← hW, List.replicate_append_replicate, Nat.sub_zero, Nat.add_comm, ← darr_made]
   exact Blk.new _ _ _
  have hbW : Below w.heap.size w W := by rw [← hW]; exact (Below.refl _ _).alloc (Nat.le_refl _) _
  rw [hW]
  clear hW hmk
  go_wp2
  go_loopw [6] (fun s6 wr => ∃ (i : Nat) (zs : List Nat), s6 = .int .i64 i ∧ i ≤ us.length ∧ Hid (MulSt us vs w.heap.size w wr i zs)) (fun s6 _ => us.length - (intOf s6).toNat)
  case atStart => exact ⟨0, _, rfl, Nat.zero_le _, Lib.hid (MulSt.mk (by simp) (fun x hx => by rw [List.eq_of_mem_replicate hx]; decide) (by simp [val, val_zeros]) G5 hbW)⟩
  case round =>
   clear G5 hbW
   obtain ⟨wo, rfl⟩ : ∃ wo : World, wo = wr := ⟨_, rfl⟩
   obtain ⟨i, zs0, rfl, hi, HST⟩ := hrel
   by_cases hiu : i < us.length
   ·have hxB : us[i] < 4294967296 := HU.out us[i] (List.getElem_mem _)
    have HTX := Lib.hid (val_take_succ hiu)
    have p1 : (i : Int) < (us.length : Int) := by omega
    go_wp2
    go_loopw [7, 8] (fun s7 s8 wr => ∃ (k c : Nat) (zs : List Nat), s7 = .int .u64 c ∧ s8 = .int .i64 k ∧ k ≤ vs.length ∧ Hid (MulIn us vs w.heap.size w wr i us[i] k c zs)) (fun _ s8 _ => vs.length - (intOf s8).toNat)
    case atStart => exact ⟨0, 0, _, rfl, rfl, Nat.zero_le _, Lib.hid (HST.out.into _)⟩
    case round =>
     obtain ⟨wn, rfl⟩ : ∃ wn : World, wn = wr := ⟨_, rfl⟩
     obtain ⟨k, c, zs, rfl, rfl, hk, HIN⟩ := hrel
     have hcB : c < 4294967296 := HIN.out.car
     by_cases hkv : k < vs.length
     ·have hyB : vs[k] < 4294967296 := HV.out vs[k] (List.getElem_mem _)
      have HTY := Lib.hid (val_take_succ hkv)
      obtain ⟨ad, rfl, hcx⟩ := Digs.at (HX.out.keep HIN.out.below) hiu
      obtain ⟨bd, rfl, hcy⟩ := Digs.at (HY.out.keep HIN.out.below) hkv
      generalize us[i] = x at *
      generalize vs[k] = y at *
      have hj : i + k < zs.length := by rw [HIN.out.len]; omega
      obtain ⟨o, ho⟩ : ∃ o, zs[i + k] = o := ⟨_, rfl⟩
      have hoB : o < 4294967296 := by rw [← ho]; exact HIN.out.dig _ (List.getElem_mem _)
      have c0 := HIN.out.blk.cell (i + k)
      have f0 := HIN.out.blk.frozen (i + k)
      have hzl : (zs ++ List.replicate (us.length - i) 0).length = us.length + vs.length := by rw [List.length_append, List.length_replicate, HIN.out.len]; omega
      rw [darr_at _ (by rw [hzl]; omega), List.getElem_append_left hj, ho] at c0
      have hbd := mul_bound hcB hxB hyB hoB
      simp only [B] at hbd
      have q0 : (0 : Int) ≤ (k : Int) := by omega
      have q1 : (k : Int) < (vs.length : Int) := by omega
      have q2 : (0 : Int) ≤ (i : Int) + (k : Int) := by omega
      have q3 : (i : Int) + (k : Int) < (us.length : Int) + (vs.length : Int) := by omega
      have q4 : ((i : Int) + (k : Int)).toNat = i + k := by omega
      have hxy : x * y < 18446744073709551616 := by omega
      have w1 : IntKind.u64.wrap ((x : Int) * (y : Int)) = ((x * y : Nat) : Int) := by have := wrap_nat (x * y) hxy; simpa using this
      have w2 : IntKind.u64.wrap (((x * y : Nat) : Int) + (o : Int)) = ((x * y + o : Nat) : Int) := by have := wrap_nat (x * y + o) (by omega); simpa using this
      have w3 : IntKind.u64.wrap ((c : Int) + ((x * y + o : Nat) : Int)) = ((c + (x * y + o) : Nat) : Int) := by have := wrap_nat (c + (x * y + o)) (by omega); simpa using this
      go_wp2
      go_region
      go_wp2
      go_roundw
      case rel =>
       have hs := (HIN.out.step hkv (Nat.le_refl _) hxB hyB ho HTY.out).drew
       have e1 : (((c + (x * y + o)) % B : Nat) : Int) = ((c : Int) + ((x : Int) * (y : Int) + (o : Int))) % 4294967296 := by simp [B]
       have e2 : (((c + (x * y + o)) / B : Nat) : Int) = ((c : Int) + ((x : Int) * (y : Int) + (o : Int))) / 4294967296 := by simp [B]
       rw [e1] at hs
       exact ⟨k + 1, (c + (x * y + o)) / B, _, by rw [e2], by go_num, by omega, Lib.hid hs⟩
      case measure => simp [intOf]; omega
     ·obtain rfl : k = vs.length := by omega
      have dd : decide (vs.length < vs.length) = false := by simp
      generalize us[i] = x at *
      have c0 := HIN.out.blk.cell (i + vs.length)
      have f0 := HIN.out.blk.frozen (i + vs.length)
      have hzl : (zs ++ List.replicate (us.length - i) 0).length = us.length + vs.length := by rw [List.length_append, List.length_replicate, HIN.out.len]; omega
      rw [darr_at _ (by rw [hzl]; omega)] at c0
      generalize (zs ++ List.replicate (us.length - i) 0)[i + vs.length]'(by rw [hzl]; omega) = old at c0
      have q2 : (0 : Int) ≤ (i : Int) + (vs.length : Int) := by omega
      have q3 : (i : Int) + (vs.length : Int) < (us.length : Int) + (vs.length : Int) := by omega
      have q4 : ((i : Int) + (vs.length : Int)).toNat = i + vs.length := by omega
      have w1 : (c : Int) % 4294967296 = (c : Int) := by omega
      go_wp2
      go_roundw
      case rel => exact ⟨i + 1, _, by go_num, by omega, Lib.hid (HIN.out.out hiu (Nat.le_refl _) HTX.out)⟩
      case measure => simp [intOf]; omega
   ·obtain rfl : i = us.length := by omega
    have dd : decide (us.length < us.length) = false := by simp
    have hb1 := HST.out.blk
    rw [Nat.sub_self, List.replicate_zero, List.append_nil] at hb1
    have hdig := HST.out.dig
    have hlen := HST.out.len
    have hsum := HST.out.sum
    rw [List.take_length] at hsum
    have HT := Lib.hid (trim_dg (some ⟨w.heap.size, 0, none⟩) (us.length + vs.length) zs0 _ (digs_of hb1) hdig (by omega) (by omega))
    have hdl := dg_val_len hdig
    rw [hlen, hsum] at HT
    rw [hlen, hsum] at hdl
    clear hsum hb1 hdig hlen
    go_wp2_with (go_at_call 127; refine HT.out.mono ?_; rintro e w' ⟨rfl, rfl, hD⟩)
    go_ret
    exact ⟨_, _, rfl, ND.some hD hdl, HST.out.below⟩
theorem mul_first0 (X Y : Option Addr) (cx cy m : Nat) (w : World) :
    Calls Tryz.prog 126 #[.slice X 0 cx, .slice Y m cy] w fun e w' => e = .returned (.slice none 0 0) ∧ w = w' := by
  go_enter Tryz.func126, Tryz.ntmps126
  go_wp2
  go_ret
  exact ⟨rfl, rfl⟩
theorem mul_second0 (X Y : Option Addr) (cx cy n : Nat) (w : World) (hn : 0 < n) :
    Calls Tryz.prog 126 #[.slice X n cx, .slice Y 0 cy] w fun e w' => e = .returned (.slice none 0 0) ∧ w = w' := by
  have n1 : ¬ (n = 0) := by omega
  have n3 : ((n : Int) == 0) = false := beq_eq_false_iff_ne.2 (by omega)
  go_enter Tryz.func126, Tryz.ntmps126
  go_wp2
  go_ret
  exact ⟨rfl, rfl⟩
theorem dg_len0 {a : Nat} (h : (dg a).length = 0) : a = 0 := by
 have := val_dg a
 rw [List.length_eq_zero_iff.1 h] at this
 exact this.symm
theorem retDg_zero {w : World} {e : Ending} {w' : World} (h : e = .returned (.slice none 0 0) ∧ w = w') : RetDg 0 w e w' := by
 obtain ⟨rfl, rfl⟩ := h
 refine ⟨none, 0, ?_, ND.zero _, Below.refl _ _⟩
 rw [dg_zero]; rfl
theorem nmul_any (X Y : Option Addr) (cx cy a b : Nat) (w : World) (hX : Digs w X (dg a)) (hY : Digs w Y (dg b)) (ha : (dg a).length ≤ 200000) (hb : (dg b).length ≤ 200000) :
    Calls Tryz.prog 126 #[.slice X (dg a).length cx, .slice Y (dg b).length cy] w (RetDg (a * b) w) := by
  by_cases h : 0 < (dg a).length ∧ 0 < (dg b).length
  ·have := mulloop X Y cx cy (dg a) (dg b) w hX hY (dg_dig a) (dg_dig b) h.1 h.2 ha hb
   rwa [val_dg, val_dg] at this
  ·by_cases h1 : (dg a).length = 0
   ·rw [h1, dg_len0 h1, Nat.zero_mul]
    exact (mul_first0 X Y cx cy _ w).mono fun e w' hh => retDg_zero hh
   ·have h2 : (dg b).length = 0 := by omega
    rw [h2, dg_len0 h2, Nat.mul_zero]
    exact (mul_second0 X Y cx cy _ w (by omega)).mono fun e w' hh => retDg_zero hh
end Go.Proofs.Tg
end
section
/- The harness's Mul of numbers of any size. -/
namespace Go.Proofs.Tg
open Go.RowKit Go.Gr Go.Bn
set_option maxHeartbeats 4000000
set_option maxRecDepth 100000
theorem nMul_any (p q : Bool) (X Y : Option Addr) (cx cy a b : Nat) (w : World) (hX : ND w X cx a) (hY : ND w Y cy b) (ha : (dg a).length ≤ 200000) (hb : (dg b).length ≤ 200000) (hr : (dg (a * b)).length ≤ 1000000) :
    Calls Tryz.prog 92 #[.agg #[.bool p, .slice X (dg a).length cx], .agg #[.bool q, .slice Y (dg b).length cy]] w (RetSg ((p != q) && decide (0 < (dg (a * b)).length)) (a * b) w) := by
  obtain ⟨na, hna⟩ : ∃ na, (dg a).length = na := ⟨_, rfl⟩
  obtain ⟨nb, hnb⟩ : ∃ nb, (dg b).length = nb := ⟨_, rfl⟩
  obtain ⟨W, hW⟩ : ∃ W, ((w.alloc (.cells #[.bool p, .slice X na cx] 107)).alloc (.cells #[.bool q, .slice Y nb cy] 107)).alloc (.cells #[.bool false, .slice none 0 0] 107) = W := ⟨_, rfl⟩
  have B0 : Blk W w.heap.size 107 #[.bool p, .slice X na cx] := by rw [← hW]; exact ((Blk.new _ _ _).alloc _).alloc _
  have B1 : Blk W (w.heap.size + 1) 107 #[.bool q, .slice Y nb cy] := by
   rw [← hW]; have := (Blk.new (w.alloc (.cells #[.bool p, .slice X na cx] 107)) 107 #[.bool q, .slice Y nb cy]).alloc (.cells #[.bool false, .slice none 0 0] 107)
   simpa using this
  have B2 : Blk W (w.heap.size + 1 + 1) 107 #[.bool false, .slice none 0 0] := by
   rw [← hW]; have := Blk.new ((w.alloc (.cells #[.bool p, .slice X na cx] 107)).alloc (.cells #[.bool q, .slice Y nb cy] 107)) 107 #[.bool false, .slice none 0 0]
   simpa using this
  have hbW : Below w.heap.size w W := by rw [← hW]; exact (((Below.refl _ _).alloc (Nat.le_refl _) _).alloc (by simp) _).alloc (by simp; omega) _
  have HF : Hid (∀ V, Below W.heap.size W V → Calls Tryz.prog 126 #[.slice X na cx, .slice Y nb cy] V (RetDg (a * b) V)) := Lib.hid (fun V h => by rw [← hna, ← hnb]; exact nmul_any X Y cx cy a b V ((hX.keep hbW).keep h).digs ((hY.keep hbW).keep h).digs ha hb)
  obtain ⟨m, hm⟩ : ∃ m, a * b = m := ⟨_, rfl⟩
  rw [hm] at HF hr ⊢
  unfold RetDg at HF
  obtain ⟨nm, hnm⟩ : ∃ nm, (dg m).length = nm := ⟨_, rfl⟩
  have HLST : Hid (∀ (V : World) (R : Option Addr) (c : Nat) (v : Bool), Below W.heap.size W V → ND V R c m → Blk V (w.heap.size + 1 + 1) 107 #[.bool false, .slice none 0 0] → RetSg v m w (.returned (.agg #[.bool v, .slice R nm c])) ((V.setCell ⟨w.heap.size + 1 + 1, 0, none⟩ (.bool v)).setCell ⟨w.heap.size + 1 + 1, 1, none⟩ (.slice R nm c))) := Lib.hid (fun V R c v h1 h2 h3 => by rw [← hnm]; exact retSg_last hbW h1 h2 (by omega) h3)
  obtain ⟨v, hv⟩ : ∃ v, ((p != q) && decide (0 < nm)) = v := ⟨_, rfl⟩
  have HM : Hid (∀ V R c, Calls Tryz.prog 118 #[.bool (!(p == q)), .slice R nm c] V fun e w' => e = .returned (.agg #[.bool v, .slice R nm c]) ∧ Below V.heap.size V w') := Lib.hid (fun V R c => make1_any (!(p == q)) R nm c V v hv (by omega))
  rw [hnm] at HF ⊢
  rw [hna, hnb]
  rw [hv]
  have HW := Lib.hid hW
  have HB2 := Lib.hid B2
  have hl2 := B2.lt
  have n1 : (w.heap.size = w.heap.size + 1 + 1) = False := eq_false (by omega)
  have n2 : (w.heap.size + 1 + 1 = w.heap.size) = False := eq_false (by omega)
  obtain ⟨a0, a1, _, _⟩ := B0.two
  obtain ⟨b0, b1, _, _⟩ := B1.two
  obtain ⟨d0, d1, d2, d3⟩ := B2.two
  have hbe : Below W.heap.size W W.drew := (Below.refl _ _).drew
  clear hX hY hna hnb hm hnm hv hW B0 B1 B2 ha hb hr
  go_enter Tryz.func92, Tryz.ntmps92
  go_upto_region 1 with (fail)
  rw [HW.out]
  go_region_held3 (fun w' => w'.cell? ⟨w.heap.size, 0, none⟩ = some (.bool p) ∧ w'.cell? ⟨w.heap.size, 1, none⟩ = some (.slice X na cx) ∧ w'.cell? ⟨w.heap.size + 1, 0, none⟩ = some (.bool q) ∧ w'.cell? ⟨w.heap.size + 1, 1, none⟩ = some (.slice Y nb cy))
    (first | exact ⟨keep_cell hbe a0, keep_cell hbe a1, keep_cell hbe b0, keep_cell hbe b1⟩ | go_keep | (dsimp only; refine ⟨?_, ?_, ?_, ?_⟩ <;> go_keep) | (refine ⟨?_, ?_, ?_, ?_⟩ <;> (rw [World.cell?_setCell_ne, World.cell?_setCell_ne] <;> first | exact keep_cell hbe a0 | exact keep_cell hbe a1 | exact keep_cell hbe b0 | exact keep_cell hbe b1 | (simp; omega) | simp)))
    (first
      | (go_at_call 126; with_reducible refine Calls.mono (HF.out _ (by assumption)) ?_; rintro e w2 ⟨R, c, rfl, hD, hb2⟩
         have hbe := below_all hbe hb2)
      | (go_at_call 118; with_reducible refine Calls.mono (HM.out _ _ _) ?_; rintro e w3 ⟨rfl, hb3⟩
         have hD := hD.keep hb3
         have hbe := below_all hbe hb3
         have Y2 := HB2.out.keep hbe hl2
         obtain ⟨d0, d1, d2, d3⟩ := Y2.two))
  all_goals
    go_wp2
    exact bodyPost_ret (v := .agg #[.bool v, .slice R nm c]) (by simp [results, Tryz.results92, go_sem, d0, d1]) rfl (HLST.out w3 R c v hbe hD Y2)
/-- The product of two numbers. -/
theorem imul_any (x y : Int) (X Y : Option Addr) (cx cy : Nat) (w : World) (hX : ND w X cx x.natAbs) (hY : ND w Y cy y.natAbs) (ha : (dg x.natAbs).length ≤ 200000) (hb : (dg y.natAbs).length ≤ 200000) (hr : (dg (x.natAbs * y.natAbs)).length ≤ 1000000) :
    Calls Tryz.prog 92 #[.agg #[.bool (decide (x < 0)), .slice X (dg x.natAbs).length cx], .agg #[.bool (decide (y < 0)), .slice Y (dg y.natAbs).length cy]] w (RetZ (x * y) w) :=
  (nMul_any _ _ X Y cx cy _ _ w hX hY ha hb hr).mono fun _ _ h => retSg_int h (Int.natAbs_mul x y) (by
   by_cases h0 : x.natAbs * y.natAbs = 0
   ·have e : x * y = 0 := by rw [← Int.natAbs_eq_zero, Int.natAbs_mul]; exact h0
    rw [h0, e, dg_zero]; simp
   ·have hp := dg_len_pos.2 h0
    have hx : x ≠ 0 := fun e => h0 (by rw [e]; simp)
    have hy : y ≠ 0 := fun e => h0 (by rw [e]; simp)
    rw [decide_eq_true hp, Bool.and_true]
    rcases Int.lt_or_gt_of_ne hx with h1 | h1 <;> rcases Int.lt_or_gt_of_ne hy with h2 | h2
    ·have := Int.mul_pos_of_neg_of_neg h1 h2
     simp [h1, h2]; omega
    ·have := Int.mul_neg_of_neg_of_pos h1 h2
     have h3 : ¬ y < 0 := by omega
     simp [h1, h3]; omega
    ·have := Int.mul_neg_of_pos_of_neg h1 h2
     have h3 : ¬ x < 0 := by omega
     simp [h2, h3]; omega
    ·have := Int.mul_pos h1 h2
     have h3 : ¬ x < 0 := by omega
     have h4 : ¬ y < 0 := by omega
     simp [h3, h4]; omega)
end Go.Proofs.Tg
end
section
/- The harness's numbers: sums with signs; rational numbers as values. -/
namespace Go.Proofs.Tg
open Go.RowKit Go.Gr Go.Bn Go.Rq
set_option maxHeartbeats 4000000
set_option maxRecDepth 100000
theorem iadd_any (x y : Int) (X Y : Option Addr) (cx cy : Nat) (w : World) (hX : ND w X cx x.natAbs) (hY : ND w Y cy y.natAbs) (ha : (dg x.natAbs).length ≤ 400000) (hb : (dg y.natAbs).length ≤ 400000) (hr : (dg (x.natAbs + y.natAbs)).length ≤ 1000000) :
    Calls Tryz.prog 90 #[.agg #[.bool (decide (x < 0)), .slice X (dg x.natAbs).length cx], .agg #[.bool (decide (y < 0)), .slice Y (dg y.natAbs).length cy]] w (RetZ (x + y) w) := by
  by_cases hs : (decide (x < 0)) = (decide (y < 0))
  ·have h := nAdd_same (decide (x < 0)) X Y cx cy x.natAbs y.natAbs w hX hY ha hb hr
   rw [hs] at h ⊢
   refine h.mono fun _ _ h => retSg_int h ?_ ?_
   ·have := decide_eq_decide.1 hs; omega
   ·have hi := decide_eq_decide.1 hs
    by_cases hy : y < 0
    ·have hx : x < 0 := hi.2 hy
     have h0 : x.natAbs + y.natAbs ≠ 0 := by omega
     rw [decide_eq_true (dg_len_pos.2 h0), decide_eq_true hy, decide_eq_true (show x + y < 0 by omega)]; rfl
    ·have hx : ¬ x < 0 := fun h => hy (hi.1 h)
     rw [decide_eq_false hy, decide_eq_false (show ¬ x + y < 0 by omega)]; rfl
  ·have hpq : ((decide (x < 0)) == (decide (y < 0))) = false := beq_eq_false_iff_ne.2 hs
   rcases Nat.lt_or_ge x.natAbs y.natAbs with hlt | hge
   ·have h := nAdd_lt (decide (x < 0)) (decide (y < 0)) hpq X Y cx cy x.natAbs y.natAbs w hX hY hlt ha hb (Nat.le_trans (dg_len_mono (by omega)) hr)
    refine h.mono fun _ _ h => retSg_int h ?_ ?_
    ·by_cases hx : x < 0 <;> by_cases hy : y < 0 <;> simp [hx, hy] at hs <;> omega
    ·have h0 : y.natAbs - x.natAbs ≠ 0 := by omega
     rw [decide_eq_true (dg_len_pos.2 h0), Bool.and_true]
     apply decide_eq_decide.2
     by_cases hx : x < 0 <;> by_cases hy : y < 0 <;> simp [hx, hy] at hs ⊢ <;> omega
   ·have h := nAdd_ge (decide (x < 0)) (decide (y < 0)) hpq X Y cx cy x.natAbs y.natAbs w hX hY hge ha hb (Nat.le_trans (dg_len_mono (by omega)) hr)
    refine h.mono fun _ _ h => retSg_int h ?_ ?_
    ·by_cases hx : x < 0 <;> by_cases hy : y < 0 <;> simp [hx, hy] at hs <;> omega
    ·by_cases h0 : x.natAbs - y.natAbs = 0
     ·rw [h0, dg_zero]
      have : ¬ x + y < 0 := by
       by_cases hx : x < 0 <;> by_cases hy : y < 0 <;> simp [hx, hy] at hs <;> omega
      rw [decide_eq_false this]; simp
     ·rw [decide_eq_true (dg_len_pos.2 h0), Bool.and_true]
      apply decide_eq_decide.2
      by_cases hx : x < 0 <;> by_cases hy : y < 0 <;> simp [hx, hy] at hs ⊢ <;> omega
theorem dg_lo {n k : Nat} (h : n < B ^ k) : (dg n).length ≤ k := dg_len_lt h
/-- A rational number in memory. -/
def QAt (w : World) (v : Value) (q : Rat) : Prop :=
  ∃ N cn D cd, v = .agg #[.bool (decide (q.num < 0)), .slice N (dg q.num.natAbs).length cn, .bool false, .slice D (dg (dnz q.den)).length cd] ∧ ND w N cn q.num.natAbs ∧ ND w D cd (dnz q.den)
theorem QAt.keep {w w' : World} {v : Value} {q : Rat} (h : QAt w v q) (hb : Below w.heap.size w w') : QAt w' v q := by
 obtain ⟨N, cn, D, cd, e, h1, h2⟩ := h
 exact ⟨N, cn, D, cd, e, h1.keep hb, h2.keep hb⟩
def RetQ (q : Rat) (w : World) (e : Ending) (w' : World) : Prop := ∃ v, e = .returned v ∧ QAt w' v q ∧ Below w.heap.size w w'
/-- Numbers whose denominators are short. -/
def QS (q : Rat) : Prop := q.num.natAbs < B ^ 40 ∧ q.den < 65536
theorem frac_q (z : Int) (m : Nat) (A D : Option Addr) (c d : Nat) (w : World) (hA : ND w A c z.natAbs) (hB : ND w D d m) (ha : (dg z.natAbs).length ≤ 200000) (hd : m < B) (hm : m ≠ 0) :
    Calls Tryz.prog 91 #[.agg #[.bool (decide (z < 0)), .slice A (dg z.natAbs).length c], .agg #[.bool false, .slice D (dg m).length d]] w (RetQ (mkRat z m) w) := by
  refine (frac_num (decide (z < 0)) A D c d z.natAbs m w hA hB ha hd hm (fun h => by have := of_decide_eq_true h; omega)).mono ?_
  rintro e w' ⟨N, cn, D', cd, rfl, h1, h2, hb⟩
  obtain ⟨e1, e2, e3⟩ := mk_num z m hm
  refine ⟨_, rfl, ⟨N, cn, D', cd, ?_, ?_, ?_⟩, hb⟩
  ·rw [e1, e2, decide_eq_decide.2 e3]
  ·rw [e1]; exact h1
  ·rw [e2]; exact h2
end Go.Proofs.Tg
end
section
/- The harness's numbers: denominators. -/
namespace Go.Proofs.Tg
open Go.RowKit Go.Gr Go.Bn Go.Rq
set_option maxHeartbeats 4000000
set_option maxRecDepth 100000
/-- A number that is not negative. -/
def RetN (n : Nat) (w : World) (e : Ending) (w' : World) : Prop := ∃ R c, e = .returned (.agg #[.bool false, .slice R (dg n).length c]) ∧ ND w' R c n ∧ Below w.heap.size w w'
theorem den_any (p : Bool) (N D : Option Addr) (nn cn cd m : Nat) (w : World) (hD : ND w D cd (dnz m)) (hm : m ≠ 0) (hl : (dg m).length ≤ 200000) :
    Calls Tryz.prog 93 #[.agg #[.bool p, .slice N nn cn, .bool false, .slice D (dg (dnz m)).length cd]] w (RetN m w) := by
  obtain ⟨W, hW⟩ : ∃ W, (w.alloc (.cells #[.bool p, .slice N nn cn, .bool false, .slice D (dg (dnz m)).length cd] 109)).alloc (.cells #[.bool false, .slice none 0 0] 107) = W := ⟨_, rfl⟩
  have B1 : Blk W w.heap.size 109 #[.bool p, .slice N nn cn, .bool false, .slice D (dg (dnz m)).length cd] := by rw [← hW]; exact (Blk.new _ _ _).alloc _
  have B2 : Blk W (w.heap.size + 1) 107 #[.bool false, .slice none 0 0] := by
   rw [← hW]; have := Blk.new (w.alloc (.cells #[.bool p, .slice N nn cn, .bool false, .slice D (dg (dnz m)).length cd] 109)) 107 #[.bool false, .slice none 0 0]
   simpa using this
  have hbW : Below w.heap.size w W := by rw [← hW]; exact ((Below.refl _ _).alloc (Nat.le_refl _) _).alloc (by simp) _
  have hDW := hD.keep hbW
  have HF := Lib.hid (fun V => fromint_num 1 (by decide) (by decide) V)
  have hwz : w.heap.size ≤ w.heap.size + 1 := by omega
  by_cases h1 : m = 1
  ·subst h1
   rw [dnz_one, dg_zero, List.length_nil] at hW B1 ⊢
   have HWW := Lib.hid hW
   clear hW hD hDW hm hl
   obtain ⟨a0, a1, a2, a3, _, _, _, _⟩ := B1.four
   obtain ⟨d0, d1, d2, d3⟩ := B2.two
   go_enter Tryz.func93, Tryz.ntmps93
   go_upto_region 1 with (fail)
   rw [HWW.out]
   go_wp2_with (fail)
   refine (HF.out _).mono ?_
   rintro e w2 ⟨R, c, rfl, hR, hb2⟩
   have C2 := B2.keep hb2 B2.lt
   obtain ⟨d0, d1, d2, d3⟩ := C2.two
   have hbC := below_all hbW hb2
   rw [show decide ((1 : Int) < 0) = false from rfl, show (1 : Int).natAbs = 1 from rfl] at *
   obtain ⟨n1, hn1⟩ : ∃ n1, (dg 1).length = n1 := ⟨_, rfl⟩
   rw [hn1]
   have HN1 := Lib.hid hn1
   clear hn1
   go_wp2
   refine bodyPost_ret (v := .agg #[.bool false, .slice R n1 c]) (by simp [results, Tryz.results93, go_sem, d0, d1]) rfl ⟨R, c, by rw [HN1.out], ?_, ?_⟩
   ·exact (hR.far C2 (by decide) _ _).far (C2.set _ _) (by decide) _ _
   ·exact below_far (below_far hbC hwz _ _) hwz _ _
  ·rw [dnz_pos h1] at hW B1 hDW ⊢
   obtain ⟨n1, hn1⟩ : ∃ n1, (dg m).length = n1 := ⟨_, rfl⟩
   have hn0 : 0 < n1 := by rw [← hn1]; exact dg_len_pos.2 hm
   have hne : ((n1 : Int) == 0) = false := beq_eq_false_iff_ne.2 (by omega)
   have hne' : (n1 == 0) = false := beq_eq_false_iff_ne.2 (by omega)
   rw [hn1] at hW B1 hl ⊢
   have HN1 := Lib.hid hn1
   have HWW := Lib.hid hW
   clear hW hn1 hD hm
   obtain ⟨a0, a1, a2, a3, _, _, _, _⟩ := B1.four
   obtain ⟨d0, d1, d2, d3⟩ := B2.two
   go_enter Tryz.func93, Tryz.ntmps93
   go_upto_region 1 with (fail)
   rw [HWW.out]
   go_wp2
   refine bodyPost_ret (v := .agg #[.bool false, .slice D n1 cd]) (by simp [results, Tryz.results93, go_sem, d0, d1]) rfl ⟨D, cd, by rw [HN1.out], ?_, ?_⟩
   ·exact (hDW.far B2 (by decide) _ _).far (B2.set _ _) (by decide) _ _
   ·exact below_far (below_far hbW hwz _ _) hwz _ _
end Go.Proofs.Tg
end
section
/- The harness's numbers: the product of rational numbers. -/
namespace Go.Proofs.Tg
open Go.RowKit Go.Gr Go.Bn Go.Rq
set_option maxHeartbeats 8000000
set_option maxRecDepth 100000
theorem cell_four {V : World} {g : Nat} {a b c d u : Value} {ad : Addr} (h : V.cell? ad = some u) (hne : ad.block ≠ g) : ((((V.setCell ⟨g, 0, none⟩ a).setCell ⟨g, 1, none⟩ b).setCell ⟨g, 2, none⟩ c).setCell ⟨g, 3, none⟩ d).cell? ad = some u := by
 have e : ∀ k : Nat, (⟨g, k, none⟩ : Addr) ≠ ad := fun k e => hne (by rw [← e])
 rw [World.cell?_setCell_other _ _ _ _ (e 3), World.cell?_setCell_other _ _ _ _ (e 2), World.cell?_setCell_other _ _ _ _ (e 1), World.cell?_setCell_other _ _ _ _ (e 0)]
 exact h
theorem blk_four {V : World} {g : Nat} {a b c d a' b' c' d' : Value} {t : TypeId} (h : Blk V g t #[a, b, c, d]) : Blk ((((V.setCell ⟨g, 0, none⟩ a').setCell ⟨g, 1, none⟩ b').setCell ⟨g, 2, none⟩ c').setCell ⟨g, 3, none⟩ d') g t #[a', b', c', d'] := by
 have := (((h.set 0 a').set 1 b').set 2 c').set 3 d'
 simpa using this
theorem ND.four {V : World} {g : Nat} {A : Option Addr} {k n : Nat} {cs : Array Value} {a' b' c' d' : Value} {t : TypeId} (h : ND V A k n) (B : Blk V g t cs) (hne : t ≠ 123) : ND ((((V.setCell ⟨g, 0, none⟩ a').setCell ⟨g, 1, none⟩ b').setCell ⟨g, 2, none⟩ c').setCell ⟨g, 3, none⟩ d') A k n :=
  (((h.far B hne 0 a').far (B.set 0 a') hne 1 b').far ((B.set 0 a').set 1 b') hne 2 c').far (((B.set 0 a').set 1 b').set 2 c') hne 3 d'
theorem Below.four {w V : World} {g : Nat} {a' b' c' d' : Value} (h : Below w.heap.size w V) (hg : w.heap.size ≤ g) : Below w.heap.size w ((((V.setCell ⟨g, 0, none⟩ a').setCell ⟨g, 1, none⟩ b').setCell ⟨g, 2, none⟩ c').setCell ⟨g, 3, none⟩ d') :=
  below_far (below_far (below_far (below_far h hg _ _) hg _ _) hg _ _) hg _ _
theorem QS.num {q : Rat} (h : QS q) : (dg q.num.natAbs).length ≤ 40 := dg_lo h.1
theorem QS.den {q : Rat} (h : QS q) : (dg q.den).length ≤ 1 := dg_lo (Nat.lt_of_lt_of_le h.2 (by decide))
theorem QS.dens {p q : Rat} (h : QS p) (g : QS q) : p.den * q.den < B := Nat.lt_of_lt_of_le (Nat.mul_lt_mul'' h.2 g.2) (by decide)
theorem QS.cross {p q : Rat} (h : QS p) (g : QS q) : p.num.natAbs * q.den < B ^ 41 := by
 have := Nat.mul_lt_mul'' h.1 (Nat.lt_of_lt_of_le g.2 (show 65536 ≤ B ^ 1 by decide))
 rwa [← Nat.pow_add] at this
theorem dnz_mul {a b : Nat} (h : dnz a = 0) (g : dnz b = 0) (ha : a ≠ 0) (hb : b ≠ 0) : a = 1 ∧ b = 1 := by
 unfold dnz at h g
 constructor
 ·split at h <;> omega
 ·split at g <;> omega
theorem rat_whole {q : Rat} (h : q.den = 1) : q = (q.num : Rat) := Rat.ext rfl h
end Go.Proofs.Tg
end
