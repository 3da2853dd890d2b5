/- Parts of the proof: BN7, BN21, WB2, WS2, WI1, WP2, WB3, XK5, XR2. -/
import Derived.Laws.ShiftsVarLaws
import Derived.Laws.OwnMore
import Derived.RegionTactic
import Derived.ChangeAlike
import Derived.Deep.DeepCutAuto
import Derived.OwnWalk
import Derived.Lib.TrailingZeros
import Derived.StillTailTactics
import Derived.Deep.RegionHeld3
import Derived.Laws.CopyOwn
import Derived.Laws.IdiomCopy
import Derived.Deep.CutRange
import Derived.ChangeKeysEq
import Derived.Laws.Rows
import Derived.Laws.Tables
import Derived.Deep.CutBlock
import Derived.Deep.AppendLies
import Derived.Test.YtpkompfkhoceoaaGreatDoorMMO0
import Derived.Test.YtpkompfkhoceoaaGreatDoorMMO1
import Derived.Test.YtpkompfkhoceoaaGreatDoorMMO2
import Derived.Test.YtpkompfkhoceoaaGreatDoorMMO4
import Derived.Test.YtpkompfkhoceoaaGreatDoorMMO6
section
/- The harness's product of absolute values, whatever their length. -/
namespace Go.Proofs.Tg
open Go.RowKit Go.Gr Go.Bn
set_option maxHeartbeats 4000000
set_option maxRecDepth 100000
theorem val_set : ∀ (l : List Nat) (j : Nat) (h : j < l.length) (s : Nat), val (l.set j s) + B ^ j * l[j] = val l + B ^ j * s
  | x :: l, 0, _, s => by simp only [List.set_cons_zero, val, List.getElem_cons_zero, Nat.pow_zero, Nat.one_mul]; omega
  | x :: l, j + 1, h, s => by
    have ih := val_set l j (by simpa using h) s
    simp only [List.set_cons_succ, val, List.getElem_cons_succ, Nat.pow_succ]
    have e : ∀ t, B ^ j * B * t = B * (B ^ j * t) := fun t => by rw [Nat.mul_comm (B ^ j) B, Nat.mul_assoc]
    rw [e, e, Nat.add_assoc, ← Nat.mul_add, ih, Nat.mul_add]
    omega
/-- The digits after some digits of the first number. -/
structure MulSt (us vs : List Nat) (g : Nat) (w0 wr : World) (i : Nat) (zs : List Nat) : Prop where
  len : zs.length = i + vs.length
  dig : Dig zs
  sum : val zs = val (us.take i) * val vs
  blk : Blk wr g 137 (darr (zs ++ List.replicate (us.length - i) 0))
  below : Below w0.heap.size w0 wr
/-- Inside one row. -/
structure MulIn (us vs : List Nat) (g : Nat) (w0 wr : World) (i x k c : Nat) (zs : List Nat) : Prop where
  len : zs.length = i + vs.length
  dig : Dig zs
  car : c < B
  sum : val zs + B ^ (i + k) * c = val (us.take i) * val vs + B ^ i * (x * val (vs.take k))
  blk : Blk wr g 137 (darr (zs ++ List.replicate (us.length - i) 0))
  below : Below w0.heap.size w0 wr
theorem mul_bound {c x y o : Nat} (hc : c < B) (hx : x < B) (hy : y < B) (ho : o < B) : c + (x * y + o) < B * B := by
  have h : x * y ≤ (B - 1) * (B - 1) := Nat.mul_le_mul (by omega) (by omega)
  have e : (B - 1) * (B - 1) = B * B - 2 * B + 1 := by decide
  have e2 : 2 * B ≤ B * B := by decide
  omega
theorem MulIn.step {us vs : List Nat} {g : Nat} {w0 wo : World} {i x k c : Nat} {zs : List Nat} (h : MulIn us vs g w0 wo i x k c zs) (hk : k < vs.length) (hg : w0.heap.size ≤ g) {y o : Nat} (hx : x < B) (hy : y < B)
    (ho : zs[i + k]'(by rw [h.len]; omega) = o) (h2 : val (vs.take (k + 1)) = val (vs.take k) + B ^ k * y) :
    MulIn us vs g w0 (wo.setCell ⟨g, i + k, none⟩ (.int .u32 (((c + (x * y + o)) % B : Nat) : Int))) i x (k + 1) ((c + (x * y + o)) / B) (zs.set (i + k) ((c + (x * y + o)) % B)) := by
  have hl : i + k < zs.length := by rw [h.len]; omega
  have hoB : o < B := by rw [← ho]; exact h.dig _ (List.getElem_mem _)
  refine ⟨by rw [List.length_set, h.len], fun z hz => ?_, ?_, ?_, ?_, below_far h.below hg _ _⟩
  · rcases List.mem_or_eq_of_mem_set hz with hz | rfl
    · exact h.dig z hz
    · exact Nat.mod_lt _ (by decide)
  · rw [Nat.div_lt_iff_lt_mul (by decide)]
    exact mul_bound h.car hx hy hoB
  · have hv := val_set zs (i + k) hl ((c + (x * y + o)) % B)
    rw [ho] at hv
    have hs := h.sum
    have hm := Nat.mod_add_div (c + (x * y + o)) B
    have e1 : B ^ (i + (k + 1)) * ((c + (x * y + o)) / B) = B ^ (i + k) * (B * ((c + (x * y + o)) / B)) := by rw [← Nat.add_assoc, Nat.pow_succ, Nat.mul_assoc]
    have e2 : B ^ (i + k) * ((c + (x * y + o)) % B) + B ^ (i + k) * (B * ((c + (x * y + o)) / B)) = B ^ (i + k) * (c + (x * y + o)) := by rw [← Nat.mul_add, hm]
    have e3 : B ^ (i + k) * (c + (x * y + o)) = B ^ (i + k) * c + B ^ (i + k) * (x * y) + B ^ (i + k) * o := by rw [Nat.mul_add, Nat.mul_add, Nat.add_assoc]
    have e4 : B ^ i * (x * val (vs.take (k + 1))) = B ^ i * (x * val (vs.take k)) + B ^ (i + k) * (x * y) := by
      rw [h2, Nat.mul_add, Nat.mul_add, Nat.pow_add]
      congr 1
      rw [Nat.mul_assoc (B ^ i), Nat.mul_left_comm x]
    rw [e1, e4]
    omega
  · have := h.blk.set (i + k) (.int .u32 (((c + (x * y + o)) % B : Nat) : Int))
    rwa [darr_set, List.set_append_left _ _ hl] at this
theorem MulIn.drew {us vs : List Nat} {g : Nat} {w0 wo : World} {i x k c : Nat} {zs : List Nat} (h : MulIn us vs g w0 wo i x k c zs) : MulIn us vs g w0 wo.drew i x k c zs :=
  ⟨h.len, h.dig, h.car, h.sum, h.blk.drew, h.below.drew⟩
theorem MulSt.into {us vs : List Nat} {g : Nat} {w0 wo : World} {i : Nat} {zs : List Nat} (h : MulSt us vs g w0 wo i zs) (x : Nat) : MulIn us vs g w0 wo i x 0 0 zs :=
  ⟨h.len, h.dig, by decide, by simp [h.sum, val], h.blk, h.below⟩
theorem MulIn.out {us vs : List Nat} {g : Nat} {w0 wo : World} {i x c : Nat} {zs : List Nat} (h : MulIn us vs g w0 wo i x vs.length c zs) (hi : i < us.length) (hg : w0.heap.size ≤ g) (h1 : val (us.take (i + 1)) = val (us.take i) + B ^ i * x) :
    MulSt us vs g w0 (wo.setCell ⟨g, i + vs.length, none⟩ (.int .u32 (c : Nat))) (i + 1) (zs ++ [c]) := by
  refine ⟨by rw [List.length_append, h.len]; simp; omega, fun z hz => ?_, ?_, ?_, below_far h.below hg _ _⟩
  · rcases List.mem_append.1 hz with hz | hz
    · exact h.dig z hz
    · rw [List.mem_singleton.1 hz]; exact h.car
  · have hs := h.sum
    rw [List.take_length] at hs
    rw [val_app, h.len, h1, Nat.add_mul, Nat.mul_assoc, ← hs]
    simp [val]
  · have := h.blk.set (i + vs.length) (.int .u32 (c : Nat))
    rwa [darr_set, List.set_append_right _ _ (by rw [h.len]; exact Nat.le_refl _), h.len, Nat.sub_self, show us.length - i = (us.length - (i + 1)) + 1 by omega, List.replicate_succ, List.set_cons_zero, show zs ++ c :: List.replicate (us.length - (i + 1)) 0 = (zs ++ [c]) ++ List.replicate (us.length - (i + 1)) 0 by simp] at this
theorem mulloop (X Y : Option Addr) (cx cy : Nat) (us vs : List Nat) (w : World) (hX : Digs w X us) (hY : Digs w Y vs) (hu : Dig us) (hv : Dig vs) (hu0 : 0 < us.length) (hv0 : 0 < vs.length) (hn : us.length ≤ 200000) (hm : vs.length ≤ 200000) :
    Calls Tryz.prog 94 #[.slice X us.length cx, .slice Y vs.length cy] w (RetDg (val us * val vs) w) := by
  have HU := Lib.hid hu
  have HV := Lib.hid hv
  have HX := Lib.hid hX
  have HY := Lib.hid hY
  have n1 : ¬ (us.length = 0) := by omega
  have n2 : ¬ (vs.length = 0) := by omega
  have n3 : ((us.length : Int) == 0) = false := beq_eq_false_iff_ne.2 (by omega)
  have n4 : ((vs.length : Int) == 0) = false := beq_eq_false_iff_ne.2 (by omega)
  have hmk := fun W => make_digs (us.length + vs.length) (by omega) W
  have hc1 : ((us.length + vs.length : Nat) : Int) = (us.length : Int) + (vs.length : Int) := by omega
  rw [hc1] at hmk
  clear hc1
  clear hu hv hX hY
  go_enter Tryz.func94, Tryz.ntmps94
  go_upto_region 4 with (fail)
  obtain ⟨W, hW⟩ : ∃ W, w.alloc (.cells (madeCells #[.int .u32 0] (us.length + vs.length)) 137) = W := ⟨_, rfl⟩
  have G5 : Blk W w.heap.size 137 (darr (List.replicate vs.length 0 ++ List.replicate (us.length - 0) 0)) := by
    rw [← hW, List.replicate_append_replicate, Nat.sub_zero, Nat.add_comm, ← darr_made]
    exact Blk.new _ _ _
  have hbW : Below w.heap.size w W := by rw [← hW]; exact (Below.refl _ _).alloc (Nat.le_refl _) _
  rw [hW]
  clear hW hmk
  go_wp2
  go_loopw [6] (fun s6 wr => ∃ (i : Nat) (zs : List Nat), s6 = .int .i64 i ∧ i ≤ us.length ∧ Hid (MulSt us vs w.heap.size w wr i zs)) (fun s6 _ => us.length - (intOf s6).toNat)
  case atStart => exact ⟨0, _, rfl, Nat.zero_le _, Lib.hid (MulSt.mk (by simp) (fun x hx => by rw [List.eq_of_mem_replicate hx]; decide) (by simp [val, val_zeros]) G5 hbW)⟩
  case round =>
    clear G5 hbW
    obtain ⟨wo, rfl⟩ : ∃ wo : World, wo = wr := ⟨_, rfl⟩
    obtain ⟨i, zs0, rfl, hi, HST⟩ := hrel
    by_cases hiu : i < us.length
    · have hxB : us[i] < 4294967296 := HU.out us[i] (List.getElem_mem _)
      have HTX := Lib.hid (val_take_succ hiu)
      have p1 : (i : Int) < (us.length : Int) := by omega
      go_wp2
      go_loopw [7, 8] (fun s7 s8 wr => ∃ (k c : Nat) (zs : List Nat), s7 = .int .u64 c ∧ s8 = .int .i64 k ∧ k ≤ vs.length ∧ Hid (MulIn us vs w.heap.size w wr i us[i] k c zs)) (fun _ s8 _ => vs.length - (intOf s8).toNat)
      case atStart => exact ⟨0, 0, _, rfl, rfl, Nat.zero_le _, Lib.hid (HST.out.into _)⟩
      case round =>
        obtain ⟨wn, rfl⟩ : ∃ wn : World, wn = wr := ⟨_, rfl⟩
        obtain ⟨k, c, zs, rfl, rfl, hk, HIN⟩ := hrel
        have hcB : c < 4294967296 := HIN.out.car
        by_cases hkv : k < vs.length
        · have hyB : vs[k] < 4294967296 := HV.out vs[k] (List.getElem_mem _)
          have HTY := Lib.hid (val_take_succ hkv)
          obtain ⟨ad, rfl, hcx⟩ := Digs.at (HX.out.keep HIN.out.below) hiu
          obtain ⟨bd, rfl, hcy⟩ := Digs.at (HY.out.keep HIN.out.below) hkv
          generalize us[i] = x at *
          generalize vs[k] = y at *
          have hj : i + k < zs.length := by rw [HIN.out.len]; omega
          obtain ⟨o, ho⟩ : ∃ o, zs[i + k] = o := ⟨_, rfl⟩
          have hoB : o < 4294967296 := by rw [← ho]; exact HIN.out.dig _ (List.getElem_mem _)
          have c0 := HIN.out.blk.cell (i + k)
          have f0 := HIN.out.blk.frozen (i + k)
          have hzl : (zs ++ List.replicate (us.length - i) 0).length = us.length + vs.length := by rw [List.length_append, List.length_replicate, HIN.out.len]; omega
          rw [darr_at _ (by rw [hzl]; omega), List.getElem_append_left hj, ho] at c0
          have hbd := mul_bound hcB hxB hyB hoB
          simp only [B] at hbd
          have q0 : (0 : Int) ≤ (k : Int) := by omega
          have q1 : (k : Int) < (vs.length : Int) := by omega
          have q2 : (0 : Int) ≤ (i : Int) + (k : Int) := by omega
          have q3 : (i : Int) + (k : Int) < (us.length : Int) + (vs.length : Int) := by omega
          have q4 : ((i : Int) + (k : Int)).toNat = i + k := by omega
          have hxy : x * y < 18446744073709551616 := by omega
          have w1 : IntKind.u64.wrap ((x : Int) * (y : Int)) = ((x * y : Nat) : Int) := by have := wrap_nat (x * y) hxy; simpa using this
          have w2 : IntKind.u64.wrap (((x * y : Nat) : Int) + (o : Int)) = ((x * y + o : Nat) : Int) := by have := wrap_nat (x * y + o) (by omega); simpa using this
          have w3 : IntKind.u64.wrap ((c : Int) + ((x * y + o : Nat) : Int)) = ((c + (x * y + o) : Nat) : Int) := by have := wrap_nat (c + (x * y + o)) (by omega); simpa using this
          go_wp2
          go_region
          go_wp2
          go_roundw
          case rel =>
            have hs := (HIN.out.step hkv (Nat.le_refl _) hxB hyB ho HTY.out).drew
            have e1 : (((c + (x * y + o)) % B : Nat) : Int) = ((c : Int) + ((x : Int) * (y : Int) + (o : Int))) % 4294967296 := by simp [B]
            have e2 : (((c + (x * y + o)) / B : Nat) : Int) = ((c : Int) + ((x : Int) * (y : Int) + (o : Int))) / 4294967296 := by simp [B]
            rw [e1] at hs
            exact ⟨k + 1, (c + (x * y + o)) / B, _, by rw [e2], by go_num, by omega, Lib.hid hs⟩
          case measure => simp [intOf]; omega
        · obtain rfl : k = vs.length := by omega
          have dd : decide (vs.length < vs.length) = false := by simp
          generalize us[i] = x at *
          have c0 := HIN.out.blk.cell (i + vs.length)
          have f0 := HIN.out.blk.frozen (i + vs.length)
          have hzl : (zs ++ List.replicate (us.length - i) 0).length = us.length + vs.length := by rw [List.length_append, List.length_replicate, HIN.out.len]; omega
          rw [darr_at _ (by rw [hzl]; omega)] at c0
          generalize (zs ++ List.replicate (us.length - i) 0)[i + vs.length]'(by rw [hzl]; omega) = old at c0
          have q2 : (0 : Int) ≤ (i : Int) + (vs.length : Int) := by omega
          have q3 : (i : Int) + (vs.length : Int) < (us.length : Int) + (vs.length : Int) := by omega
          have q4 : ((i : Int) + (vs.length : Int)).toNat = i + vs.length := by omega
          have w1 : (c : Int) % 4294967296 = (c : Int) := by omega
          go_wp2
          go_roundw
          case rel => exact ⟨i + 1, _, by go_num, by omega, Lib.hid (HIN.out.out hiu (Nat.le_refl _) HTX.out)⟩
          case measure => simp [intOf]; omega
    · obtain rfl : i = us.length := by omega
      have dd : decide (us.length < us.length) = false := by simp
      have hb1 := HST.out.blk
      rw [Nat.sub_self, List.replicate_zero, List.append_nil] at hb1
      have hdig := HST.out.dig
      have hlen := HST.out.len
      have hsum := HST.out.sum
      rw [List.take_length] at hsum
      have HT := Lib.hid (trim_dg (some ⟨w.heap.size, 0, none⟩) (us.length + vs.length) zs0 _ (digs_of hb1) hdig (by omega) (by omega))
      have hdl := dg_val_len hdig
      rw [hlen, hsum] at HT
      rw [hlen, hsum] at hdl
      clear hsum hb1 hdig hlen
      go_wp2_with (go_at_call 79; refine HT.out.mono ?_; rintro e w' ⟨rfl, rfl, hD⟩)
      go_ret
      exact ⟨_, _, rfl, ND.some hD hdl, HST.out.below⟩
theorem mul_first0 (X Y : Option Addr) (cx cy m : Nat) (w : World) :
    Calls Tryz.prog 94 #[.slice X 0 cx, .slice Y m cy] w fun e w' => e = .returned (.slice none 0 0) ∧ w = w' := by
  go_enter Tryz.func94, Tryz.ntmps94
  go_wp2
  go_ret
  exact ⟨rfl, rfl⟩
theorem mul_second0 (X Y : Option Addr) (cx cy n : Nat) (w : World) (hn : 0 < n) :
    Calls Tryz.prog 94 #[.slice X n cx, .slice Y 0 cy] w fun e w' => e = .returned (.slice none 0 0) ∧ w = w' := by
  have n1 : ¬ (n = 0) := by omega
  have n3 : ((n : Int) == 0) = false := beq_eq_false_iff_ne.2 (by omega)
  go_enter Tryz.func94, Tryz.ntmps94
  go_wp2
  go_ret
  exact ⟨rfl, rfl⟩
theorem dg_len0 {a : Nat} (h : (dg a).length = 0) : a = 0 := by
  have := val_dg a
  rw [List.length_eq_zero_iff.1 h] at this
  exact this.symm
theorem retDg_zero {w : World} {e : Ending} {w' : World} (h : e = .returned (.slice none 0 0) ∧ w = w') : RetDg 0 w e w' := by
  obtain ⟨rfl, rfl⟩ := h
  refine ⟨none, 0, ?_, ND.zero _, Below.refl _ _⟩
  rw [dg_zero]; rfl
theorem nmul_any (X Y : Option Addr) (cx cy a b : Nat) (w : World) (hX : Digs w X (dg a)) (hY : Digs w Y (dg b)) (ha : (dg a).length ≤ 200000) (hb : (dg b).length ≤ 200000) :
    Calls Tryz.prog 94 #[.slice X (dg a).length cx, .slice Y (dg b).length cy] w (RetDg (a * b) w) := by
  by_cases h : 0 < (dg a).length ∧ 0 < (dg b).length
  · have := mulloop X Y cx cy (dg a) (dg b) w hX hY (dg_dig a) (dg_dig b) h.1 h.2 ha hb
    rwa [val_dg, val_dg] at this
  · by_cases h1 : (dg a).length = 0
    · rw [h1, dg_len0 h1, Nat.zero_mul]
      exact (mul_first0 X Y cx cy _ w).mono fun e w' hh => retDg_zero hh
    · have h2 : (dg b).length = 0 := by omega
      rw [h2, dg_len0 h2, Nat.mul_zero]
      exact (mul_second0 X Y cx cy _ w (by omega)).mono fun e w' hh => retDg_zero hh
end Go.Proofs.Tg
end
section
/- The harness's Mul of numbers of any size. -/
namespace Go.Proofs.Tg
open Go.RowKit Go.Gr Go.Bn
set_option maxHeartbeats 4000000
set_option maxRecDepth 100000
theorem nMul_any (p q : Bool) (X Y : Option Addr) (cx cy a b : Nat) (w : World) (hX : ND w X cx a) (hY : ND w Y cy b) (ha : (dg a).length ≤ 200000) (hb : (dg b).length ≤ 200000) (hr : (dg (a * b)).length ≤ 1000000) :
    Calls Tryz.prog 55 #[.agg #[.bool p, .slice X (dg a).length cx], .agg #[.bool q, .slice Y (dg b).length cy]] w (RetSg ((p != q) && decide (0 < (dg (a * b)).length)) (a * b) w) := by
  obtain ⟨na, hna⟩ : ∃ na, (dg a).length = na := ⟨_, rfl⟩
  obtain ⟨nb, hnb⟩ : ∃ nb, (dg b).length = nb := ⟨_, rfl⟩
  obtain ⟨W, hW⟩ : ∃ W, ((w.alloc (.cells #[.bool p, .slice X na cx] 50)).alloc (.cells #[.bool q, .slice Y nb cy] 50)).alloc (.cells #[.bool false, .slice none 0 0] 50) = W := ⟨_, rfl⟩
  have B0 : Blk W w.heap.size 50 #[.bool p, .slice X na cx] := by rw [← hW]; exact ((Blk.new _ _ _).alloc _).alloc _
  have B1 : Blk W (w.heap.size + 1) 50 #[.bool q, .slice Y nb cy] := by
    rw [← hW]; have := (Blk.new (w.alloc (.cells #[.bool p, .slice X na cx] 50)) 50 #[.bool q, .slice Y nb cy]).alloc (.cells #[.bool false, .slice none 0 0] 50)
    simpa using this
  have B2 : Blk W (w.heap.size + 1 + 1) 50 #[.bool false, .slice none 0 0] := by
    rw [← hW]; have := Blk.new ((w.alloc (.cells #[.bool p, .slice X na cx] 50)).alloc (.cells #[.bool q, .slice Y nb cy] 50)) 50 #[.bool false, .slice none 0 0]
    simpa using this
  have hbW : Below w.heap.size w W := by rw [← hW]; exact (((Below.refl _ _).alloc (Nat.le_refl _) _).alloc (by simp) _).alloc (by simp; omega) _
  have HF : Hid (∀ V, Below W.heap.size W V → Calls Tryz.prog 94 #[.slice X na cx, .slice Y nb cy] V (RetDg (a * b) V)) := Lib.hid (fun V h => by rw [← hna, ← hnb]; exact nmul_any X Y cx cy a b V ((hX.keep hbW).keep h).digs ((hY.keep hbW).keep h).digs ha hb)
  obtain ⟨m, hm⟩ : ∃ m, a * b = m := ⟨_, rfl⟩
  rw [hm] at HF hr ⊢
  unfold RetDg at HF
  obtain ⟨nm, hnm⟩ : ∃ nm, (dg m).length = nm := ⟨_, rfl⟩
  have HLST : Hid (∀ (V : World) (R : Option Addr) (c : Nat) (v : Bool), Below W.heap.size W V → ND V R c m → Blk V (w.heap.size + 1 + 1) 50 #[.bool false, .slice none 0 0] → RetSg v m w (.returned (.agg #[.bool v, .slice R nm c])) ((V.setCell ⟨w.heap.size + 1 + 1, 0, none⟩ (.bool v)).setCell ⟨w.heap.size + 1 + 1, 1, none⟩ (.slice R nm c))) := Lib.hid (fun V R c v h1 h2 h3 => by rw [← hnm]; exact retSg_last hbW h1 h2 (by omega) h3)
  obtain ⟨v, hv⟩ : ∃ v, ((p != q) && decide (0 < nm)) = v := ⟨_, rfl⟩
  have HM : Hid (∀ V R c, Calls Tryz.prog 73 #[.bool (!(p == q)), .slice R nm c] V fun e w' => e = .returned (.agg #[.bool v, .slice R nm c]) ∧ Below V.heap.size V w') := Lib.hid (fun V R c => make1_any (!(p == q)) R nm c V v hv (by omega))
  rw [hnm] at HF ⊢
  rw [hna, hnb]
  rw [hv]
  have HW := Lib.hid hW
  have HB2 := Lib.hid B2
  have hl2 := B2.lt
  have n1 : (w.heap.size = w.heap.size + 1 + 1) = False := eq_false (by omega)
  have n2 : (w.heap.size + 1 + 1 = w.heap.size) = False := eq_false (by omega)
  obtain ⟨a0, a1, _, _⟩ := B0.two
  obtain ⟨b0, b1, _, _⟩ := B1.two
  obtain ⟨d0, d1, d2, d3⟩ := B2.two
  have hbe : Below W.heap.size W W.drew := (Below.refl _ _).drew
  clear hX hY hna hnb hm hnm hv hW B0 B1 B2 ha hb hr
  go_enter Tryz.func55, Tryz.ntmps55
  go_upto_region 1 with (fail)
  rw [HW.out]
  go_region_held3 (fun w' => w'.cell? ⟨w.heap.size, 0, none⟩ = some (.bool p) ∧ w'.cell? ⟨w.heap.size, 1, none⟩ = some (.slice X na cx) ∧ w'.cell? ⟨w.heap.size + 1, 0, none⟩ = some (.bool q) ∧ w'.cell? ⟨w.heap.size + 1, 1, none⟩ = some (.slice Y nb cy))
    (first | exact ⟨keep_cell hbe a0, keep_cell hbe a1, keep_cell hbe b0, keep_cell hbe b1⟩ | go_keep | (dsimp only; refine ⟨?_, ?_, ?_, ?_⟩ <;> go_keep) | (refine ⟨?_, ?_, ?_, ?_⟩ <;> (rw [World.cell?_setCell_ne, World.cell?_setCell_ne] <;> first | exact keep_cell hbe a0 | exact keep_cell hbe a1 | exact keep_cell hbe b0 | exact keep_cell hbe b1 | (simp; omega) | simp)))
    (first
      | (go_at_call 94; with_reducible refine Calls.mono (HF.out _ (by assumption)) ?_; rintro e w2 ⟨R, c, rfl, hD, hb2⟩
         have hbe := below_all hbe hb2)
      | (go_at_call 73; with_reducible refine Calls.mono (HM.out _ _ _) ?_; rintro e w3 ⟨rfl, hb3⟩
         have hD := hD.keep hb3
         have hbe := below_all hbe hb3
         have Y2 := HB2.out.keep hbe hl2
         obtain ⟨d0, d1, d2, d3⟩ := Y2.two))
  all_goals
    go_wp2
    exact bodyPost_ret (v := .agg #[.bool v, .slice R nm c]) (by simp [results, Tryz.results55, go_sem, d0, d1]) rfl (HLST.out w3 R c v hbe hD Y2)
/-- The product of two numbers. -/
theorem imul_any (x y : Int) (X Y : Option Addr) (cx cy : Nat) (w : World) (hX : ND w X cx x.natAbs) (hY : ND w Y cy y.natAbs) (ha : (dg x.natAbs).length ≤ 200000) (hb : (dg y.natAbs).length ≤ 200000) (hr : (dg (x.natAbs * y.natAbs)).length ≤ 1000000) :
    Calls Tryz.prog 55 #[.agg #[.bool (decide (x < 0)), .slice X (dg x.natAbs).length cx], .agg #[.bool (decide (y < 0)), .slice Y (dg y.natAbs).length cy]] w (RetZ (x * y) w) :=
  (nMul_any _ _ X Y cx cy _ _ w hX hY ha hb hr).mono fun _ _ h => retSg_int h (Int.natAbs_mul x y) (by
    by_cases h0 : x.natAbs * y.natAbs = 0
    · have e : x * y = 0 := by rw [← Int.natAbs_eq_zero, Int.natAbs_mul]; exact h0
      rw [h0, e, dg_zero]; simp
    · have hp := dg_len_pos.2 h0
      have hx : x ≠ 0 := fun e => h0 (by rw [e]; simp)
      have hy : y ≠ 0 := fun e => h0 (by rw [e]; simp)
      rw [decide_eq_true hp, Bool.and_true]
      rcases Int.lt_or_gt_of_ne hx with h1 | h1 <;> rcases Int.lt_or_gt_of_ne hy with h2 | h2
      · have := Int.mul_pos_of_neg_of_neg h1 h2
        simp [h1, h2]; omega
      · have := Int.mul_neg_of_neg_of_pos h1 h2
        have h3 : ¬ y < 0 := by omega
        simp [h1, h3]; omega
      · have := Int.mul_neg_of_pos_of_neg h1 h2
        have h3 : ¬ x < 0 := by omega
        simp [h2, h3]; omega
      · have := Int.mul_pos h1 h2
        have h3 : ¬ x < 0 := by omega
        have h4 : ¬ y < 0 := by omega
        simp [h3, h4]; omega)
end Go.Proofs.Tg
end
section
/- Walks: the echelon form. -/
namespace Go.Proofs.Tg
open Go.RowKit Go.Gr Go.Ev
set_option maxHeartbeats 2000000
set_option maxRecDepth 100000
/-- The vectors lie in block g; nothing below B has turned. -/
structure VecAt (W0 : World) (base g cap : Nat) (us : List Nat) (w : World) : Prop where
  own : w.ownsRow base 3 1 (.slice (some ⟨g, 0, none⟩) us.length cap) us.length (us.map vn)
  below : Below W0.heap.size W0 w
theorem VecAt.base_le {W0 w : World} {base g cap : Nat} {us : List Nat} (h : VecAt W0 base g cap us w) : base ≤ g := (h.own.lt g rfl).1
theorem VecAt.cell {W0 w : World} {base g cap : Nat} {us : List Nat} (h : VecAt W0 base g cap us w) {j : Nat} (hj : j < us.length) : w.cell? ⟨g, j, none⟩ = some (.int .i64 (us.getD j 0 : Nat)) := by
  rw [h.own.cellAt j (by omega)]
  simp [hj, vn]
theorem VecAt.drewN {W0 w : World} {base g cap : Nat} {us : List Nat} (h : VecAt W0 base g cap us w) (n : Nat) : VecAt W0 base g cap us (w.drewN n) := ⟨h.own, below_drewN h.below n⟩
theorem VecAt.drew {W0 w : World} {base g cap : Nat} {us : List Nat} (h : VecAt W0 base g cap us w) : VecAt W0 base g cap us w.drew := ⟨h.own, h.below.drew⟩
theorem VecAt.put {W0 w : World} {base g cap : Nat} {us : List Nat} (h : VecAt W0 base g cap us w) (hB : W0.heap.size ≤ base) (j x : Nat) : VecAt W0 base g cap (us.set j x) (w.setCell ⟨g, j, none⟩ (.int .i64 (x : Nat))) := by
  have h1 := (h.own.stored j (.int .i64 (x : Nat))).1
  have e : (us.map vn).set j (.int .i64 (x : Nat)) = (us.set j x).map vn := by rw [List.map_set]; rfl
  rw [e] at h1
  refine ⟨by rw [List.length_set]; exact h1, h.below.setCell (Nat.le_trans hB h.base_le) _⟩
end Go.Proofs.Tg
end
section
/- Walks: the parts of a number's text. -/
namespace Go.Proofs.Tg
open Go.RowKit Go.Qn
set_option maxHeartbeats 1000000
set_option maxRecDepth 100000
theorem bs_toList (l : List UInt8) : (bs l).toList = l := by rw [Lib.toList_data, bs_data]
theorem bs_pos {l : List UInt8} (h : l ≠ []) : 0 < (bs l).size := by rw [bs_size]; exact List.length_pos_iff.2 h
theorem bs_nil : bs [] = ByteArray.empty := rfl
theorem of_head {l : List UInt8} {N : ByteArray} (hN : bs l = N) {h : 0 < N.size} {c : UInt8} (k : (((N[0]).toNat : Int) == (c.toNat : Int)) = true) : l.head? = some c := by
  subst hN
  cases l with
  | nil => exact absurd h (by decide)
  | cons x t =>
    have e : (x.toNat : Int) = (c.toNat : Int) := eq_of_beq k
    have : x = c := UInt8.toNat_inj.1 (by omega)
    rw [this]; rfl
theorem of_not_head {l : List UInt8} {N : ByteArray} (hN : bs l = N) {h : 0 < N.size} {c : UInt8} (k : (((N[0]).toNat : Int) == (c.toNat : Int)) = false) : l.head? ≠ some c := by
  subst hN
  cases l with
  | nil => simp
  | cons x t =>
    have e : ¬ (x.toNat : Int) = (c.toNat : Int) := ne_of_beq_false k
    simp only [List.head?_cons, ne_eq, Option.some.injEq]
    rintro rfl
    exact e rfl
end Go.Proofs.Tg
end
section
/- Walks: digits as one word. -/
namespace Go.Proofs.Tg
open Go.RowKit Go.Qn
set_option maxHeartbeats 1000000
set_option maxRecDepth 100000
theorem val_take (l : List UInt8) (k : Nat) (hk : k < l.length) : val (l.take (k + 1)) = 10 * val (l.take k) + (l[k].toNat - 48) := by
  rw [List.take_succ_eq_append_getElem hk, val_snoc]
end Go.Proofs.Tg
end
section
/- Walks: a polynomial read. -/
namespace Go.Proofs.Tg
open Go.RowKit Go.Qn Go.Gr Go.Mo
set_option maxHeartbeats 4000000
set_option maxRecDepth 100000
theorem cells_new (w : World) (t : TypeId) (xs : List Value) : ∀ j u, xs[j]? = some u → (w.alloc (.cells xs.toArray t)).cell? ((⟨w.heap.size, 0, none⟩ : Addr).add j) = some u := by
  intro j u hu
  rw [add_lit, Nat.zero_add, Blk.cell (Blk.new w t xs.toArray) j]
  simpa using hu
end Go.Proofs.Tg
end
section
/- Walks: the sign symmetries of polynomials. -/
namespace Go.Proofs.Tg
open Go.RowKit Go.Gr Go.Ev Go.Mo Go.Qn
set_option maxHeartbeats 4000000
set_option maxRecDepth 100000
/-- Lists that a call has made: block G j holds list j. -/
structure Made (G : Nat → Nat) (k n : Nat) (ls : Nat → List Int) (w : World) : Prop where
  blk : ∀ j, j < k → Blk w (G j) 3 (iarr (ls j))
  len : ∀ j, j < k → (ls j).length = n
theorem Made.lists {G : Nat → Nat} {k n base c : Nat} {ls : Nat → List Int} {w : World} {A : Option Addr} (h : Made G k n ls w) (ho : w.ownsRow base 41 1 (.slice A k c) k ((List.range k).map fun j => .slice (some ⟨G j, 0, none⟩) n n)) :
    Lists w A ((List.range k).map ls) := by
  refine ⟨fun j => (some ⟨G j, 0, none⟩, n), ?_, fun i hi => ?_⟩
  · have := Sl.own ho
    have e : ((List.range ((List.range k).map ls).length).map fun i => Value.slice (some ⟨G i, 0, none⟩) (((List.range k).map ls).getD i []).length n) = (List.range k).map fun j => .slice (some ⟨G j, 0, none⟩) n n := by
      rw [List.length_map, List.length_range]
      refine List.map_congr_left fun i hi => ?_
      have hi := List.mem_range.1 hi
      simp [hi, h.len i hi]
    rw [show ((List.range k).map ls).length = k by simp] at e ⊢
    rw [e]
    exact this
  · have hi' : i < k := by simpa using hi
    have e : ((List.range k).map ls).getD i [] = ls i := by simp [hi']
    rw [e]
    have hB := h.blk i hi'
    refine ⟨by simp, fun _ => ⟨_, rfl, hB.lt, fun j u hu => ?_⟩⟩
    rw [add_lit, Nat.zero_add, hB.cell j]
    simpa [iarr] using hu
theorem VecAt.keep {W0 w w' : World} {base g cap : Nat} {us : List Nat} (h : VecAt W0 base g cap us w) (hb : Below w.heap.size w w') : VecAt W0 base g cap us w' :=
  ⟨own_below h.own hb (Nat.le_refl _), below_all h.below hb⟩
end Go.Proofs.Tg
end
section
/- The reference's polynomials in memory, and its Rows. -/
namespace Go.Proofs.Tg
open Go.RowKit Go.Gr Go.Ev Go.Mo
set_option maxHeartbeats 4000000
set_option maxRecDepth 100000
/-- A term of the reference: the coefficient's four cells, the exponents. -/
structure RT where
  c0 : Value
  c1 : Value
  c2 : Value
  c3 : Value
  adr : Option Addr
  cap : Nat
  exps : List Int
def RT.sl (t : RT) : Value := .slice t.adr t.exps.length t.cap
def RT.cells (t : RT) : List Value := [t.c0, t.c1, t.c2, t.c3, t.sl]
structure RTermsAt (w : World) (T : Option Addr) (ts : List RT) : Prop where
  sl : Sl w T ts.length 5 (ts.flatMap RT.cells)
  ints : ∀ t ∈ ts, Ints w t.adr t.exps
theorem RTermsAt.keep {w w' : World} {T : Option Addr} {ts : List RT} (h : RTermsAt w T ts) (hb : Below w.heap.size w w') : RTermsAt w' T ts :=
  ⟨h.sl.keep hb, fun t ht => (h.ints t ht).keep hb⟩
theorem off_four (a : Addr) (k : Nat) : (⟨(a.add k).block, (a.add k).off + 4, none⟩ : Addr) = a.add (k + 4) := by
  rw [← add_add]; simp [Addr.add]
theorem RTermsAt.at {w : World} {T : Option Addr} {ts : List RT} (h : RTermsAt w T ts) {k : Nat} (hk : k < ts.length) :
    ∃ ad, T = some ad ∧ w.cell? ⟨(ad.add (k * 5)).block, (ad.add (k * 5)).off + 4, none⟩ = some (.slice ts[k].adr ts[k].exps.length ts[k].cap) ∧ Ints w ts[k].adr ts[k].exps := by
  obtain ⟨ad, rfl, _, ha⟩ := h.sl.lies (by omega)
  refine ⟨ad, rfl, (congrArg w.cell? (off_four ad (k * 5))).trans (ha _ _ ?_), h.ints _ (List.getElem_mem _)⟩
  exact flat_get RT.cells 5 (fun _ => rfl) ts k 4 hk (by omega)
structure RP where
  vars : Int
  adr : Option Addr
  cap : Nat
  ts : List RT
def RP.cells (p : RP) : List Value := [.int .i64 p.vars, .slice p.adr p.ts.length p.cap]
structure RPolysAt (w : World) (L : Option Addr) (ps : List RP) : Prop where
  sl : Sl w L ps.length 2 (ps.flatMap RP.cells)
  tms : ∀ p ∈ ps, RTermsAt w p.adr p.ts
theorem RPolysAt.keep {w w' : World} {L : Option Addr} {ps : List RP} (h : RPolysAt w L ps) (hb : Below w.heap.size w w') : RPolysAt w' L ps :=
  ⟨h.sl.keep hb, fun p hp => (h.tms p hp).keep hb⟩
theorem RPolysAt.at {w : World} {L : Option Addr} {ps : List RP} (h : RPolysAt w L ps) {k : Nat} (hk : k < ps.length) :
    ∃ ad, L = some ad ∧ w.cell? (ad.add (k * 2)) = some (.int .i64 ps[k].vars) ∧ w.cell? ⟨(ad.add (k * 2)).block, (ad.add (k * 2)).off + 1, none⟩ = some (.slice ps[k].adr ps[k].ts.length ps[k].cap) ∧ RTermsAt w ps[k].adr ps[k].ts := by
  obtain ⟨ad, rfl, _, ha⟩ := h.sl.lies (by omega)
  refine ⟨ad, rfl, ha _ _ ?_, (congrArg w.cell? (off_one ad (k * 2))).trans (ha _ _ ?_), h.tms _ (List.getElem_mem _)⟩
  · have := flat_get RP.cells 2 (fun _ => rfl) ps k 0 hk (by omega)
    rw [Nat.add_zero] at this
    exact this
  · exact flat_get RP.cells 2 (fun _ => rfl) ps k 1 hk (by omega)
end Go.Proofs.Tg
end
section
/- The reference's reading of a polynomial: well-formed or not. -/
namespace Go.Proofs.Tg
open Go.RowKit Go.Gr Go.Mo Go.Qn
set_option maxHeartbeats 4000000
set_option maxRecDepth 100000
/-- The same, where a condition on the world is held. -/
theorem wpAnyH_get {P : Program} {md : Region.Mode} {ops : Array Oper} {Q : Exit → Act → World → Prop} {S : World → Prop} (i : Nat) (d : Option Tmp) (v : Value) {oi : Oper} {fuel : Nat} {listed : Array Bool} {a : Act} {w : World} (hi : ops[i]? = some oi) (hd : oi.dst = d)
    (hs : Region.noSelect ops = true) (hf : Region.free md ops listed i = true) (hr : (Region.ready md ops listed).contains i = true) (hQ : ∀ c a w, Q (.panic c) (a.put d v) w → Q (.panic c) a w)
    (hw : Region.wanted oi (yielded ops a.tmps) = true) (hS : S w) (hy : ∀ w, S w → (execOp a.eval oi).run P w = .ok (.value v) w) (h : wpAnyH P md ops Q S fuel (listed.setIfInBounds i true) (a.put d v) w) : wpAnyH P md ops Q S (fuel + 1) listed a w := by
  subst hd
  exact wpAnyH_take hi hs hf hr hQ (.inl ⟨hw, hy⟩) hS h
/-- The coefficient's cells hold the number that the text says. -/
def RCo (w : World) (t : RT) (s : ByteArray) : Prop := ∃ b n m N cn D cd, rd s.data.toList = some (b, n, m) ∧ n < 1000000000 ∧ m < 1000000000 ∧ m ≠ 0 ∧ t.c0 = .bool b ∧ t.c1 = .slice N (mg n).length cn ∧ t.c2 = .bool false ∧ t.c3 = .slice D (dl m).length cd ∧ Digs w N (mg n) ∧ Digs w D (dl m)
theorem RCo.keep {w w' : World} {t : RT} {s : ByteArray} (h : RCo w t s) (hb : Below w.heap.size w w') : RCo w' t s := by
  obtain ⟨b, n, m, N, cn, D, cd, h1, h2, h3, h4, h5, h6, h7, h8, h9, h10⟩ := h
  exact ⟨b, n, m, N, cn, D, cd, h1, h2, h3, h4, h5, h6, h7, h8, h9.keep hb, h10.keep hb⟩
theorem RCo.grown {w w' : World} {t : RT} {s : ByteArray} {ys : List Value} {b sz n : Nat} {ty : TypeId} {v : Value} (h : RCo w t s) (ho : w.ownsRow b ty sz v n ys) (hg : w.grownBy w' v.ownBlock) (hne : ty ≠ 137) : RCo w' t s := by
  obtain ⟨b, n, m, N, cn, D, cd, h1, h2, h3, h4, h5, h6, h7, h8, h9, h10⟩ := h
  exact ⟨b, n, m, N, cn, D, cd, h1, h2, h3, h4, h5, h6, h7, h8, h9.grown ho hg hne, h10.grown ho hg hne⟩
theorem RCo.far {w : World} {t : RT} {s : ByteArray} {g : Nat} {ty : TypeId} {cs : Array Value} (h : RCo w t s) (B : Blk w g ty cs) (hne : ty ≠ 137) (i : Nat) (u : Value) : RCo (w.setCell ⟨g, i, none⟩ u) t s := by
  obtain ⟨b, n, m, N, cn, D, cd, h1, h2, h3, h4, h5, h6, h7, h8, h9, h10⟩ := h
  exact ⟨b, n, m, N, cn, D, cd, h1, h2, h3, h4, h5, h6, h7, h8, h9.far (h9.off_ty B hne) i u, h10.far (h10.off_ty B hne) i u⟩
end Go.Proofs.Tg
end
