/- Parts of the proof: IW5, IM1, IM2, IM3. -/
import Derived.Shelf.Spec.BitsCarry
import Derived.Shelf.Bits.Mul64
import Derived.Deep.CutBlock
import Derived.Test.YtbgaiceakmmfdaaGreatDoorMMR0
import Derived.Test.YtbgaiceakmmfdaaGreatDoorMMR1
import Derived.Test.YtbgaiceakmmfdaaGreatDoorMMR2
import Derived.Test.YtbgaiceakmmfdaaGreatDoorMMR9
set_option maxHeartbeats 64000000
set_option maxRecDepth 100000
namespace Go.Proofs.Tg.Iw
section
open Go.RowKit Go.Bw Go.Gr Go.Proofs.Tg
structure Only (g : Nat) (w w' : World) : Prop where
  os : w'.os = w.os
  tape : w'.tape = w.tape
  output : w'.output = w.output
  size : w'.heap.size = w.heap.size
  block : ∀ k, k ≠ g → w'.heap[k]? = w.heap[k]?
theorem Only.refl (g : Nat) (w : World) : Only g w w := ⟨rfl, rfl, rfl, rfl, fun _ _ => rfl⟩
theorem Only.set {g : Nat} {w w' : World} (h : Only g w w') (i : Nat) (u : Value) : Only g w (w'.setCell ⟨g, i, none⟩ u) :=
  ⟨h.os, h.tape, h.output, by simpa [World.setCell] using h.size, fun k hk => (Below.heap_setCell w' ⟨g, i, none⟩ u k hk).trans (h.block k hk)⟩
theorem Only.blk {g k : Nat} {w w' : World} {t : TypeId} {cs : Array Value} (h : Only g w w') (B : Blk w k t cs) (hk : k ≠ g) : Blk w' k t cs := (h.block k hk).trans B
theorem Only.cell {g : Nat} {w w' : World} {p : Addr} (h : Only g w w') (hp : p.block ≠ g) : w'.cell? p = w.cell? p := World.cell?_of_block (w := w) (h.block _ hp)
theorem Only.below {g B : Nat} {w V V' : World} (h : Only g V V') (hb : Below B w V) (hg : B ≤ g) : Below B w V' :=
  ⟨h.os.trans hb.os, h.tape.trans hb.tape, h.output.trans hb.output, by rw [h.size]; exact hb.size, fun k hk => (h.block k (by omega)).trans (hb.block k hk)⟩
end
end Go.Proofs.Tg.Iw
section
namespace Go.Bw
theorem blen64 {x : Nat} (h0 : x ≠ 0) (hx : x < B) : 0 < Lib.bitLen x ∧ Lib.bitLen x ≤ 64 ∧ 2 ^ (Lib.bitLen x - 1) ≤ x ∧ x < 2 ^ Lib.bitLen x := by
 have key : ∀ f x, x ≠ 0 → x < 2 ^ f → 0 < Lib.bitLenAux f x ∧ Lib.bitLenAux f x ≤ f ∧ 2 ^ (Lib.bitLenAux f x - 1) ≤ x ∧ x < 2 ^ Lib.bitLenAux f x := by
  intro f
  induction f with
  | zero => intro x h0 hx; simp at hx; omega
  | succ f ih =>
    intro x h0 hx; unfold Lib.bitLenAux; rw [if_neg h0]
    by_cases h1 : x / 2 = 0
    ·rw [h1]
     have : Lib.bitLenAux f 0 = 0 := by cases f <;> simp [Lib.bitLenAux]
     rw [this]
     have : x = 1 := by omega
     subst this; exact ⟨by decide, by omega, by decide, by decide⟩
    ·obtain ⟨g1, g2, g3, g4⟩ := ih (x / 2) h1 (by rw [Nat.pow_succ] at hx; omega); obtain ⟨n, hn⟩ : ∃ n, Lib.bitLenAux f (x / 2) = n + 1 := ⟨Lib.bitLenAux f (x / 2) - 1, by omega⟩; rw [hn] at g2 g3 g4 ⊢; rw [show n + 1 - 1 = n by omega] at g3; rw [show 1 + (n + 1) - 1 = n + 1 by omega, show 1 + (n + 1) = n + 2 by omega]
     have e1 : 2 ^ (n + 1) = 2 * 2 ^ n := by rw [Nat.pow_succ]; omega
     have e2 : 2 ^ (n + 2) = 4 * 2 ^ n := by rw [Nat.pow_succ, Nat.pow_succ]; omega
     omega
 exact key 64 x h0 (by simpa using hx)
theorem lz_spec {x : Nat} (h0 : x ≠ 0) (hx : x < B) : 64 - Lib.bitLen x < 64 ∧ x * 2 ^ (64 - Lib.bitLen x) < B ∧ 9223372036854775808 ≤ x * 2 ^ (64 - Lib.bitLen x) := by
 obtain ⟨h1, h2, h3, h4⟩ := blen64 h0 hx
 generalize Lib.bitLen x = n at *
 refine ⟨by omega, ?_, ?_⟩
 ·have : x * 2 ^ (64 - n) < 2 ^ n * 2 ^ (64 - n) := (Nat.mul_lt_mul_right (Nat.pow_pos (by omega))).2 h4
  rw [← Nat.pow_add, show n + (64 - n) = 64 by omega] at this; exact this
 ·have : 2 ^ (n - 1) * 2 ^ (64 - n) ≤ x * 2 ^ (64 - n) := Nat.mul_le_mul_right _ h3
  rw [← Nat.pow_add, show n - 1 + (64 - n) = 63 by omega] at this; exact this
end Go.Bw
namespace Go.Proofs.Tg.Iw
open Go.RowKit Go.Bw Go.Gr Go.Proofs.Tg Go.Shelf
theorem add64 (x y c : Nat) (hc : c ≤ 1) (w : World) : (callFunc 122 #[.int .u64 x, .int .u64 y, .int .u64 c]).run Tryz.prog w =
    .ok (.value (.tuple #[.int .u64 (((x + y + c) % B : Nat) : Int), .int .u64 (((x + y + c) / B : Nat) : Int)])) w := by
  rw [run_callFunc_extern Tryz.func122 (by kernel_rfl) (by kernel_rfl) (by kernel_rfl) (e := add64Entry) (by kernel_rfl), run_add64 x y c (by omega) (by omega) (by omega) (by omega)]; simp only [Result.andThen]
  congr 5 <;> omega
theorem sub64 (x y b : Nat) (hb : b ≤ 1) (w : World) : (callFunc 113 #[.int .u64 x, .int .u64 y, .int .u64 b]).run Tryz.prog w =
    .ok (.value (.tuple #[.int .u64 (((x + B - y - b) % B : Nat) : Int), .int .u64 ((if x < y + b then 1 else 0 : Nat) : Int)])) w := by
  rw [run_callFunc_extern Tryz.func113 (by kernel_rfl) (by kernel_rfl) (by kernel_rfl) (e := sub64Entry) (by kernel_rfl), run_sub64 x y b hb]
  rfl
def mulLay_ren : Go.Shelf.Ren := ⟨fun | 264 => 121 | n => n, fun | 46 => 124 | 53 => 118 | n => n, fun n => n⟩
theorem mulLay : Go.Proofs.Lays.n264 Tryz.prog mulLay_ren := {
  mixed := by kernel_rfl
  f264 := Tryz.func121.trans (congrArg some (by kernel_rfl))
  t46 := Tryz.underlying124
  a46 := Tryz.isAgg124
  z46 := Tryz.sizeOf124
  v46 := Tryz.zeroValue124
  t53 := Tryz.underlying118
  a53 := Tryz.isAgg118
  z53 := Tryz.sizeOf118
  v53 := Tryz.zeroValue118 }
theorem mul64 (x y : Nat) (hx : x < B) (hy : y < B) (w : World) : Calls Tryz.prog 121 #[.int .u64 x, .int .u64 y] w fun e w' => e = .returned (.tuple #[.int .u64 ((x * y / B : Nat) : Int), .int .u64 ((x * y % B : Nat) : Int)]) ∧ w = w' :=
  (Go.Proofs.Any.bits_Mul64 mulLay x y hx hy w).mono fun _ _ h => ⟨h.1, h.2.symm⟩
theorem len64 (x : Nat) (hx : x < B) (w : World) : Calls Tryz.prog 117 #[.int .u64 x] w fun e w' => e = .returned (.int .i64 (Lib.bitLen x : Nat)) ∧ w = w' :=
  (Go.Proofs.Any.bits_Len64 (ρ := Fi.fmtLay_ren) { Fi.fmtLay with } (x : Int) w (by omega) (by have : x < 18446744073709551616 := hx; omega)).mono fun _ _ h => ⟨by have := h.1; simpa using this, h.2.symm⟩
theorem lz64 (x k : Nat) (hx : x < B) (hk : 64 - Lib.bitLen x = k) (hl : Lib.bitLen x ≤ 64) (w : World) : Calls Tryz.prog 109 #[.int .u64 x] w fun e w' => e = .returned (.int .i64 k) ∧ w = w' := by
 have HL := zh (len64 x hx w)
 have w1 : IntKind.i64.wrap (64 - (Lib.bitLen x : Int)) = (k : Int) := (IntWalk.i64_in _ (by omega)).trans (by omega)
 clear hk hl
 generalize Lib.bitLen x = n at *
 go_enter Tryz.func109, Tryz.ntmps109
 go_wp2_with (go_at_call 117; refine HL.out.mono ?_; rintro e w1 ⟨rfl, rfl⟩)
 go_ret
 exact ⟨rfl, rfl⟩
end Go.Proofs.Tg.Iw
end
section
namespace Go.Bn
theorem tops_two {U u1 V v1 v2 : Nat} (hV : V = v1 * 4294967296 + v2) (hb : 2147483648 ≤ v1) (h1 : v1 < 4294967296) (h2 : v2 < 4294967296) (hu : u1 < 4294967296) : Tops (U * 4294967296 + u1) V U u1 v1 v2 1 := by
 have e : B = 4294967296 := rfl
 refine ⟨?_, ?_, ?_, ?_, ?_, ?_, ?_, ?_⟩ <;> rw [e] <;> omega
theorem Est.exact {u v top u2 v1 v2 q e r : Nat} (h : Tops u v top u2 v1 v2 1) (hq : q = u / v) (hv : 0 < v) (s : Est top v1 q e r) (heB : e ≤ B) (ht : e * v2 ≤ r * B + u2 ∨ B ≤ r) : e = q := by
 have h1 : v = v1 * B + v2 := by have := h.v_hi; have := h.v_lo; omega
 have h2 : u = top * B + u2 := by have := h.u_hi; have := h.u_lo; omega
 have h3 : e * v2 ≤ r * B + u2 := by
  rcases ht with ht | ht
  ·exact ht
  ·have a1 : e * v2 ≤ B * B := Nat.mul_le_mul heB (Nat.le_of_lt h.v2lt); have a2 : B * B ≤ r * B := Nat.mul_le_mul_right _ ht; omega
 have h4 : e * v ≤ u := by
  have := s.eq; rw [h1, h2, ← this, Nat.mul_add, ← Nat.mul_assoc, Nat.add_mul]; omega
 have h5 : e ≤ u / v := (Nat.le_div_iff_mul_le hv).2 h4
 have := s.ge
 omega
end Go.Bn
namespace Go.Bw
theorem dv64_shift {hi lo y k : Nat} (hk : k < 64) (hlt : hi < y) (hlo : lo < B) (hy : y * 2 ^ k < B) : hi * 2 ^ k < B ∧ lo / 2 ^ (64 - k) < 2 ^ k ∧ hi * 2 ^ k ||| lo / 2 ^ (64 - k) = hi * 2 ^ k + lo / 2 ^ (64 - k) ∧ hi * 2 ^ k + lo / 2 ^ (64 - k) < y * 2 ^ k ∧ (hi * B + lo) * 2 ^ k = (hi * 2 ^ k + lo / 2 ^ (64 - k)) * B + lo * 2 ^ k % B := by
 have hB : B = 2 ^ k * 2 ^ (64 - k) := pow_split hk
 have hp : 0 < 2 ^ (64 - k) := Nat.pow_pos (by omega)
 have hpk : 0 < 2 ^ k := Nat.pow_pos (by omega)
 have h1 : lo / 2 ^ (64 - k) < 2 ^ k := by
  rw [Nat.div_lt_iff_lt_mul hp, ← hB]; exact hlo
 have h2 : hi * 2 ^ k + 2 ^ k ≤ y * 2 ^ k := by
  have := Nat.mul_le_mul_right (2 ^ k) (show hi + 1 ≤ y from hlt)
  rwa [Nat.add_mul, Nat.one_mul] at this
 refine ⟨by omega, h1, ?_, by omega, ?_⟩
 ·rw [Nat.mul_comm]
  exact (Nat.two_pow_add_eq_or_of_lt h1 hi).symm
 ·have h3 : lo * 2 ^ k % B = lo % 2 ^ (64 - k) * 2 ^ k := by
   rw [hB, Nat.mul_comm (2 ^ k), Nat.mul_mod_mul_right]
  have h4 := Nat.div_add_mod lo (2 ^ (64 - k)); rw [h3, Nat.add_mul, Nat.add_mul]
  have e1 : lo / 2 ^ (64 - k) * B = 2 ^ (64 - k) * (lo / 2 ^ (64 - k)) * 2 ^ k := by rw [hB]; simp only [Nat.mul_comm, Nat.mul_left_comm, Nat.mul_assoc]
  have e2 : lo * 2 ^ k = (2 ^ (64 - k) * (lo / 2 ^ (64 - k)) + lo % 2 ^ (64 - k)) * 2 ^ k := by rw [h4]
  have e3 : hi * B * 2 ^ k = hi * 2 ^ k * B := Nat.mul_right_comm _ _ _; rw [e1, e2, e3, Nat.add_mul, Nat.add_assoc]
theorem lt_shift {R V u : Nat} (h : R < V) (hu : u < 4294967296) : R * 4294967296 + u < V * 4294967296 := by omega
theorem dv64_join {U y un32 un1 un0 q1 r1 q0 r0 : Nat} (hU : U = (un32 * 4294967296 + un1) * 4294967296 + un0) (hy : 0 < y) (h1 : q1 = (un32 * 4294967296 + un1) / y) (g1 : r1 = (un32 * 4294967296 + un1) % y) (h0 : q0 = (r1 * 4294967296 + un0) / y) (g0 : r0 = (r1 * 4294967296 + un0) % y) : U / y = q1 * 4294967296 + q0 ∧ U % y = r0 := by
 have e1 := Nat.div_add_mod (un32 * 4294967296 + un1) y
 have e0 := Nat.div_add_mod (r1 * 4294967296 + un0) y
 rw [← h1, ← g1] at e1
 rw [← h0, ← g0] at e0
 have hr : r0 < y := by rw [g0]; exact Nat.mod_lt _ hy
 have hs : U = y * (q1 * 4294967296 + q0) + r0 := by
  rw [hU, ← e1, Nat.mul_add, ← Nat.mul_assoc]; generalize y * q1 = a at *; generalize y * q0 = b at *; clear hU h1 g1 h0 g0; omega
 constructor
 ·rw [hs, Nat.mul_add_div hy, Nat.div_eq_of_lt hr, Nat.add_zero]
 ·rw [hs, Nat.mul_add_mod, Nat.mod_eq_of_lt hr]
end Go.Bw
namespace Go.Proofs.Tg.Iw
open Go.RowKit Go.Bw Go.Gr Go.Proofs.Tg
open Go.Bn (tops_two)
theorem div64 (hi lo y : Nat) (hlt : hi < y) (hlo : lo < 18446744073709551616) (hy : y < 18446744073709551616) (w : World) :
    Calls Tryz.prog 115 #[.int .u64 hi, .int .u64 lo, .int .u64 y] w fun e w' => e = .returned (.tuple #[.int .u64 ((hi * B + lo) / y : Nat), .int .u64 ((hi * B + lo) % y : Nat)]) ∧ Below w.heap.size w w' := by
  have y0 : ((y : Int) == 0) = false := beq_eq_false_iff_ne.2 (by omega); have y0' : (y == 0) = false := beq_eq_false_iff_ne.2 (by omega); have y0n : ((y : Int) = 0) = False := eq_false (by omega); have y0nn : (y = 0) = False := eq_false (by omega); have yh : decide ((y : Int) ≤ (hi : Int)) = false := dF (by omega); have yh' : decide (y ≤ hi) = false := dF (by omega)
  by_cases hi0 : hi = 0
  ·subst hi0; obtain ⟨qq, hq⟩ := eqx (lo / y); obtain ⟨rr, hr⟩ := eqx (lo % y)
   have hqB : qq < 18446744073709551616 := by rw [← hq]; exact Nat.lt_of_le_of_lt (Nat.div_le_self _ _) hlo
   have D1 : (lo : Int).tdiv (y : Int) = (qq : Int) := by rw [← hq]; rfl
   have D1' : (lo : Int) / (y : Int) = (qq : Int) := by rw [← hq]; rfl
   have D2 : (lo : Int).tmod (y : Int) = (rr : Int) := by rw [← hr]; rfl
   have D2' : (lo : Int) % (y : Int) = (rr : Int) := by rw [← hr]; rfl
   have D3 : IntKind.u64.wrap (qq : Int) = (qq : Int) := Go.Proofs.Mul64.wrapN _ hqB; have HQ := zh hq; have HR := zh hr; clear hq hr; go_enter Tryz.func115, Tryz.ntmps115; go_wp2
   go_quiet (fail)
   go_wp2
   go_ret2
   have e : 0 * B + lo = lo := by rw [Nat.zero_mul, Nat.zero_add]
   refine ⟨?_, below_drewN brf _⟩; rw [e, HQ.out, HR.out]
   rfl
  ·have h0 : ((hi : Int) == 0) = false := beq_eq_false_iff_ne.2 (by omega); have h0' : (hi == 0) = false := beq_eq_false_iff_ne.2 (by omega); have h0n : ((hi : Int) = 0) = False := eq_false (by omega); have h0nn : (hi = 0) = False := eq_false (by omega)
   have hy0 : y ≠ 0 := by omega
   obtain ⟨b1, b2, b3⟩ := lz_spec (x := y) hy0 hy; obtain ⟨k, hk⟩ := eqx (64 - Lib.bitLen y); have HLZ := zh (lz64 y k hy hk (blen64 hy0 hy).2.1); rw [hk] at b1 b2 b3; clear hk; obtain ⟨c1, c2, c3, c4, c5⟩ := dv64_shift b1 hlt hlo b2; obtain ⟨V, hV⟩ := eqx (y * 2 ^ k); obtain ⟨hs, hhs⟩ := eqx (hi * 2 ^ k); obtain ⟨ls, hls⟩ := eqx (lo / 2 ^ (64 - k)); obtain ⟨un10, hun10⟩ := eqx (lo * 2 ^ k % B); rw [hV] at b2 b3 c4; rw [hhs, hls] at c3 c4 c5; rw [hhs] at c1; rw [hls] at c2; rw [hun10] at c5
   have hl10 : un10 < 18446744073709551616 := by rw [← hun10]; exact Nat.mod_lt _ (by decide)
   have hlsB : ls < 18446744073709551616 := Nat.lt_of_le_of_lt (by rw [← hls]; exact Nat.div_le_self _ _) hlo; obtain ⟨U, hU⟩ := eqx (hs + ls); rw [hU] at c3 c4 c5
   have W1 : IntKind.u64.wrap ((y : Int) * 2 ^ k) = (V : Int) := by
    have e : (y : Int) * 2 ^ k = ((y * 2 ^ k : Nat) : Int) := by simp
    rw [e, hV]; exact Go.Proofs.Mul64.wrapN _ b2
   have W4 : IntKind.u64.wrap ((hi : Int) * 2 ^ k) = (hs : Int) := by
    have e : (hi : Int) * 2 ^ k = ((hi * 2 ^ k : Nat) : Int) := by simp
    rw [e, hhs]; exact Go.Proofs.Mul64.wrapN _ c1
   have W5 : (lo : Int) / 2 ^ (64 - k) = (ls : Int) := by
    have e : (lo : Int) / 2 ^ (64 - k) = ((lo / 2 ^ (64 - k) : Nat) : Int) := by simp
    rw [e, hls]
   have W6 : bits .or .u64 (hs : Int) (ls : Int) = (U : Int) := by
    rw [u64_or_nat hs ls c1 hlsB, c3]
   have W7 : IntKind.u64.wrap ((lo : Int) * 2 ^ k) = (un10 : Int) := by
    have e : (lo : Int) * 2 ^ k = ((lo * 2 ^ k : Nat) : Int) := by simp
    rw [e, ← hun10]; exact Go.Proofs.Mul64.wrapM _
   have HFIN : Hid ((hi * B + lo) / y = (U * B + un10) / V ∧ (hi * B + lo) % y = (U * B + un10) % V / 2 ^ k) := zh (by
    obtain ⟨g1, g2⟩ := shift_div (a := hi * B + lo) (b := y) (s := k); rw [c5, hV] at g1 g2; rw [← g1, g2, Nat.mul_div_cancel _ (Nat.pow_pos (by omega))]
    exact ⟨rfl, rfl⟩)
   obtain ⟨v1, hv1⟩ := eqx (V / 4294967296); obtain ⟨v2, hv2⟩ := eqx (V % 4294967296); obtain ⟨un1, hun1⟩ := eqx (un10 / 4294967296); obtain ⟨un0, hun0⟩ := eqx (un10 % 4294967296)
   have W2 : (V : Int) / 4294967296 = (v1 : Int) := by omega
   have W3 : bits .and .u64 (V : Int) 4294967295 = (v2 : Int) := by rw [Go.Proofs.Mul64.maskN V b2, hv2]
   have W8 : (un10 : Int) / 4294967296 = (un1 : Int) := by omega
   have W9 : bits .and .u64 (un10 : Int) 4294967295 = (un0 : Int) := by rw [Go.Proofs.Mul64.maskN un10 hl10, hun0]
   have HY : Hid (un10 = un1 * 4294967296 + un0 ∧ V = v1 * 4294967296 + v2) := zh (by omega); have b2' : V < 18446744073709551616 := b2
   have v1b : 2147483648 ≤ v1 := by omega
   have v1B : v1 < 4294967296 := by omega
   have v2B : v2 < 4294967296 := by omega
   have u1B : un1 < 4294967296 := by omega
   have u0B : un0 < 4294967296 := by omega
   have UB : U < 18446744073709551616 := by omega
   clear b2'; have UV := c4; clear hV hhs hls hun10 hU c1 c2 c3 c4 c5 b2 b3 hv1 hv2 hun1 hun0 hlsB hl10; have v1n : ((v1 : Int) == 0) = false := beq_eq_false_iff_ne.2 (by omega); have v1nn : (v1 == 0) = false := beq_eq_false_iff_ne.2 (by omega); have v1e : ((v1 : Int) = 0) = False := eq_false (by omega); have v1ee : (v1 = 0) = False := eq_false (by omega); obtain ⟨e0, he0⟩ := eqx (U / v1); obtain ⟨r0, hr0⟩ := eqx (U % v1)
   have W10 : (U : Int).tdiv (v1 : Int) = (e0 : Int) := by rw [← he0]; rfl
   have he0B : e0 < 18446744073709551616 := by rw [← he0]; exact Nat.lt_of_le_of_lt (Nat.div_le_self _ _) UB
   have hdm : e0 * v1 + r0 = U := by rw [← he0, ← hr0, Nat.mul_comm]; exact Nat.div_add_mod _ _
   have W11 : IntKind.u64.wrap (e0 : Int) = (e0 : Int) := Go.Proofs.Mul64.wrapN _ he0B
   have W12 : IntKind.u64.wrap ((e0 : Int) * (v1 : Int)) = ((e0 * v1 : Nat) : Int) := by
    rw [Go.Proofs.Mul64.mulN]; exact Go.Proofs.Mul64.wrapN _ (by omega)
   have W13 : (U : Int) - (e0 : Int) * (v1 : Int) = (r0 : Int) := by
    rw [Go.Proofs.Mul64.mulN]; omega
   have W14 : IntKind.u64.wrap ((r0 : Nat) : Int) = (r0 : Int) := Go.Proofs.Mul64.wrapN _ (by have := Nat.mod_lt U (show 0 < v1 by omega); omega)
   have r0B : r0 < 4294967296 := by have := Nat.mod_lt U (show 0 < v1 by omega); omega
   have AT : Hid (Go.Bn.Tops (U * 4294967296 + un1) V U un1 v1 v2 1) := zh (by
    exact tops_two HY.out.2 v1b v1B v2B u1B)
   have hV0 : 0 < V := by have := HY.out; omega
   obtain ⟨q1, hq1⟩ := eqx ((U * 4294967296 + un1) / V); obtain ⟨R, hR⟩ := eqx ((U * 4294967296 + un1) % V); have hltA : U * 4294967296 + un1 < V * 4294967296 := lt_shift UV u1B; have hdA := Nat.div_add_mod (U * 4294967296 + un1) V; rw [hq1, hR] at hdA; have AQ : Hid (q1 * V ≤ U * 4294967296 + un1) := zh (by rw [Nat.mul_comm]; omega)
   have AB : Hid (q1 < Go.Bn.B) := zh (by
    rw [← hq1]
    exact Nat.div_lt_of_lt_mul hltA)
   have AD : Hid (q1 = (U * 4294967296 + un1) / V) := zh hq1.symm; have AV := zh hV0
   have AS : Hid (Go.Bn.Est U v1 q1 e0 r0) := zh (by
    have := Go.Bn.Est.start AT.out AQ.out hltA
    rwa [he0, hr0] at this)
   have hRV : R < V := by rw [← hR]; exact Nat.mod_lt _ hV0
   -- the second digit
   obtain ⟨e1, he1⟩ := eqx (R / v1); obtain ⟨r1, hr1⟩ := eqx (R % v1); obtain ⟨q0, hq0⟩ := eqx ((R * 4294967296 + un0) / V); obtain ⟨R0, hR0⟩ := eqx ((R * 4294967296 + un0) % V)
   have BT : Hid (Go.Bn.Tops (R * 4294967296 + un0) V R un0 v1 v2 1) := zh (by
    exact tops_two HY.out.2 v1b v1B v2B u0B)
   have hltB : R * 4294967296 + un0 < V * 4294967296 := lt_shift hRV u0B; have hdB := Nat.div_add_mod (R * 4294967296 + un0) V; rw [hq0, hR0] at hdB; have BQ : Hid (q0 * V ≤ R * 4294967296 + un0) := zh (by rw [Nat.mul_comm]; omega)
   have BB : Hid (q0 < Go.Bn.B) := zh (by
    rw [← hq0]
    exact Nat.div_lt_of_lt_mul hltB)
   have BD : Hid (q0 = (R * 4294967296 + un0) / V) := zh hq0.symm; have BV := zh hV0
   have BS : Hid (Go.Bn.Est R v1 q0 e1 r1) := zh (by
    have := Go.Bn.Est.start BT.out BQ.out hltB
    rwa [he1, hr1] at this)
   have hr1B : r1 < 4294967296 := by have := Nat.mod_lt R (show 0 < v1 by omega); omega
   have hRB : R < 18446744073709551616 := by have := HY.out; omega
   have hR0V : R0 < V := by rw [← hR0]; exact Nat.mod_lt _ hV0
   have X1 : (R : Int).tdiv (v1 : Int) = (e1 : Int) := by rw [← he1]; rfl
   have he1B : e1 < 18446744073709551616 := by rw [← he1]; exact Nat.lt_of_le_of_lt (Nat.div_le_self _ _) hRB
   have hdm1 : e1 * v1 + r1 = R := by rw [← he1, ← hr1, Nat.mul_comm]; exact Nat.div_add_mod _ _
   have X2 : IntKind.u64.wrap (e1 : Int) = (e1 : Int) := Go.Proofs.Mul64.wrapN _ he1B
   have X3 : IntKind.u64.wrap ((e1 : Int) * (v1 : Int)) = ((e1 * v1 : Nat) : Int) := by
    rw [Go.Proofs.Mul64.mulN]; exact Go.Proofs.Mul64.wrapN _ (by omega)
   have X4 : (R : Int) - (e1 : Int) * (v1 : Int) = (r1 : Int) := by
    rw [Go.Proofs.Mul64.mulN]; omega
   have X5 : IntKind.u64.wrap ((r1 : Nat) : Int) = (r1 : Int) := Go.Proofs.Mul64.wrapN _ (by omega); have q1B : q1 < 4294967296 := AB.out; have q0B : q0 < 4294967296 := BB.out
   -- the differences that wrap
   have Y1 : IntKind.u64.wrap (IntKind.u64.wrap (IntKind.u64.wrap ((U : Int) * 4294967296) + (un1 : Int)) - IntKind.u64.wrap ((q1 : Int) * (V : Int))) = (R : Int) := by
    have e : (q1 : Int) * (V : Int) = (U : Int) * 4294967296 + (un1 : Int) - (R : Int) := by
     rw [Int.mul_comm, Go.Proofs.Mul64.mulN]; omega
    rw [e]; simp only [IntKind.wrap_u64]; omega
   have Y2 : IntKind.u64.wrap (IntKind.u64.wrap (IntKind.u64.wrap ((R : Int) * 4294967296) + (un0 : Int)) - IntKind.u64.wrap ((q0 : Int) * (V : Int))) = (R0 : Int) := by
    have e : (q0 : Int) * (V : Int) = (R : Int) * 4294967296 + (un0 : Int) - (R0 : Int) := by
     rw [Int.mul_comm, Go.Proofs.Mul64.mulN]; omega
    rw [e]; simp only [IntKind.wrap_u64]; omega
   have Y3 : IntKind.u64.wrap (IntKind.u64.wrap ((q1 : Int) * 4294967296) + (q0 : Int)) = ((q1 * 4294967296 + q0 : Nat) : Int) := by
    simp only [IntKind.wrap_u64]; omega
   have HJ : Hid ((U * B + un10) / V = q1 * 4294967296 + q0 ∧ (U * B + un10) % V = R0) := zh (dv64_join (by rw [HY.out.1, Nat.add_mul, Nat.mul_assoc, Nat.add_assoc]) hV0 hq1.symm hR.symm hq0.symm hR0.symm)
   have HFIN2 : Hid ((hi * B + lo) / y = q1 * 4294967296 + q0 ∧ (hi * B + lo) % y = R0 / 2 ^ k) := zh (by
    obtain ⟨a1, a2⟩ := HFIN.out; obtain ⟨a3, a4⟩ := HJ.out
    exact ⟨a1.trans a3, by rw [a2, a4]⟩)
   obtain ⟨z, hz⟩ := eqx (R0 / 2 ^ k)
   have Y4 : (R0 : Int) / 2 ^ k = (z : Int) := by rw [← hz]; simp
   have HZ : Hid ((hi * B + lo) / y = q1 * 4294967296 + q0 ∧ (hi * B + lo) % y = z) := zh ⟨HFIN2.out.1, HFIN2.out.2.trans hz⟩; have HQ : Hid (∀ z' : Nat, z' = q1 * 4294967296 + q0 → z' = (hi * B + lo) / y) := zh (fun z' h => h.trans HZ.out.1.symm); clear hz; clear HFIN HJ hdA hdB hq1 hR hq0 hR0 he0 hr0 he1 hr1 hdm hdm1 hltA hltB; go_enter Tryz.func115, Tryz.ntmps115
   go_upto_block 0 with (go_at_call 109; refine (HLZ.out _).mono ?_; rintro e w1 ⟨rfl, rfl⟩)
   clear W1 W4 W5 W6 W7 W2 W3 W8 W9 W10 W11 W12 W13 W14 HLZ
   go_cut [15, 16] from 67 (fun s15 s16 wx => s15 = .int .u64 (q1 : Nat) ∧ (∃ r : Nat, s16 = .int .u64 (r : Nat)) ∧ w = wx)
   case first =>
    go_wp2
    go_loop [15, 16] (fun a b => ∃ e r : Nat, a = .int .u64 (e : Nat) ∧ b = .int .u64 (r : Nat) ∧ r < 4294967296 ∧ e ≤ 4294967297 ∧ Hid (Go.Bn.Est U v1 q1 e r)) (fun a _ => (intOf a).toNat)
    case atStart => exact ⟨e0, r0, rfl, rfl, by omega, AS.out.le, AS⟩
    case round =>
     obtain ⟨e, r, rfl, rfl, hrB, heB, HE⟩ := hrel; have m1 := Nat.mul_le_mul heB (show v2 ≤ 4294967295 by omega)
     have x1 : IntKind.u64.wrap ((e : Int) * (v2 : Int)) = (e : Int) * (v2 : Int) := by
      rw [Go.Proofs.Mul64.mulN]; exact Go.Proofs.Mul64.wrapN _ (by omega)
     have x2 : IntKind.u64.wrap (4294967296 * (r : Int)) = 4294967296 * (r : Int) := by
      rw [show (4294967296 : Int) * (r : Int) = ((4294967296 * r : Nat) : Int) by omega]; exact Go.Proofs.Mul64.wrapN _ (by omega)
     have x3 : IntKind.u64.wrap (4294967296 * (r : Int) + (un1 : Int)) = 4294967296 * (r : Int) + (un1 : Int) := by
      rw [show (4294967296 : Int) * (r : Int) + (un1 : Int) = ((4294967296 * r + un1 : Nat) : Int) by omega]; exact Go.Proofs.Mul64.wrapN _ (by omega)
     obtain ⟨p, hp⟩ := eqx (e * v2 : Nat)
     have hpi : (e : Int) * (v2 : Int) = (p : Int) := by rw [Go.Proofs.Mul64.mulN, hp]
     rw [hpi] at x1; have HP := zh hp; have HPI := zh hpi; clear m1 hp
     by_cases hc : 4294967296 ≤ e ∨ r * 4294967296 + un1 < p
     ·obtain ⟨g1, g2, g3⟩ := Go.Bn.Est.round AT.out AQ.out AB.out HE.out (by rw [HP.out]; exact hc); have g2' : e - 1 ≤ 4294967296 := g2
      have y1 : IntKind.u64.wrap ((e : Int) - 1) = ((e - 1 : Nat) : Int) := by
       rw [show (e : Int) - 1 = ((e - 1 : Nat) : Int) by omega]; exact Go.Proofs.Mul64.wrapN _ (by omega)
      have y2 : IntKind.u64.wrap ((r : Int) + (v1 : Int)) = ((r + v1 : Nat) : Int) := by
       rw [show (r : Int) + (v1 : Int) = ((r + v1 : Nat) : Int) by omega]; exact Go.Proofs.Mul64.wrapN _ (by omega)
      obtain ⟨d, hd⟩ := eqx (e - 1); obtain ⟨r', hr'⟩ := eqx (r + v1); rw [hd] at g1 g2' y1; rw [hr'] at g1 y2; have HG := zh g1
      have hed : d < e := by omega
      have HX : Hid (4294967296 ≤ r' → d = q1) := zh (fun h => Go.Bn.Est.exact AT.out AD.out AV.out g1 g2' (.inr h)); have y3 : IntKind.u64.wrap ((e : Int) - 1) = (d : Int) := y1
      have y4 : (e : Int) - 1 = (d : Int) := by omega
      have y5 : (r : Int) + (v1 : Int) = (r' : Int) := by omega
      clear g1 hd hr' g2 g3
      by_cases hr2 : 4294967296 ≤ r'
      ·have z1 : decide ((4294967296 : Int) ≤ (r' : Int)) = true := dT (by omega); have z1' : decide (4294967296 ≤ r') = true := dT hr2; obtain rfl : d = q1 := HX.out hr2; clear HX
       by_cases h1 : 4294967296 ≤ e
       ·have d1 : decide ((4294967296 : Int) ≤ (e : Int)) = true := dT (by omega); have d1' : decide (4294967296 ≤ e) = true := dT h1; go_wp2; go_meet; exact ⟨rfl, ⟨r', rfl⟩, rfl⟩
       ·have d1 : decide ((4294967296 : Int) ≤ (e : Int)) = false := dF (by omega); have d1' : decide (4294967296 ≤ e) = false := dF h1; have d2 : decide (4294967296 * (r : Int) + (un1 : Int) < (p : Int)) = true := dT (by omega); go_wp2; go_meet; exact ⟨rfl, ⟨r', rfl⟩, rfl⟩
      ·have z1 : decide ((4294967296 : Int) ≤ (r' : Int)) = false := dF (by omega); have z1' : decide (4294967296 ≤ r') = false := dF hr2; clear HX
       by_cases h1 : 4294967296 ≤ e
       ·have d1 : decide ((4294967296 : Int) ≤ (e : Int)) = true := dT (by omega); have d1' : decide (4294967296 ≤ e) = true := dT h1; go_wp2; go_round
        case rel => exact ⟨d, r', rfl, rfl, by omega, by omega, HG⟩
        case measure => simp [intOf]; omega
       ·have d1 : decide ((4294967296 : Int) ≤ (e : Int)) = false := dF (by omega); have d1' : decide (4294967296 ≤ e) = false := dF h1; have d2 : decide (4294967296 * (r : Int) + (un1 : Int) < (p : Int)) = true := dT (by omega); go_wp2; go_round
        case rel => exact ⟨d, r', rfl, rfl, by omega, by omega, HG⟩
        case measure => simp [intOf]; omega
     ·have h1 : ¬ 4294967296 ≤ e := fun h => hc (.inl h)
      have h2 : ¬ r * 4294967296 + un1 < p := fun h => hc (.inr h)
      obtain rfl : e = q1 := Go.Bn.Est.exact AT.out AD.out AV.out HE.out (show e ≤ 4294967296 by omega) (.inl (by rw [HP.out]; show p ≤ r * 4294967296 + un1; omega)); have d1 : decide ((4294967296 : Int) ≤ (e : Int)) = false := dF (by omega); have d1' : decide (4294967296 ≤ e) = false := dF h1; have d2 : decide (4294967296 * (r : Int) + (un1 : Int) < (p : Int)) = false := dF (by omega); go_wp2; go_meet; exact ⟨rfl, ⟨r, rfl⟩, rfl⟩
   case rest =>
    obtain ⟨rfl, ⟨r, rfl⟩, rfl⟩ := hcut; go_upto_block 2 with (fail)
    go_cut [18, 16] from 102 (fun s18 s16 wx => s18 = .int .u64 (q0 : Nat) ∧ (∃ r : Nat, s16 = .int .u64 (r : Nat)) ∧ w = wx)
    case first =>
     go_wp2
     go_loop [18, 16] (fun a b => ∃ e r : Nat, a = .int .u64 (e : Nat) ∧ b = .int .u64 (r : Nat) ∧ r < 4294967296 ∧ e ≤ 4294967297 ∧ Hid (Go.Bn.Est R v1 q0 e r)) (fun a _ => (intOf a).toNat)
     case atStart => exact ⟨e1, r1, rfl, rfl, by omega, BS.out.le, BS⟩
     case round =>
      obtain ⟨e, r, rfl, rfl, hrB, heB, HE⟩ := hrel; have m1 := Nat.mul_le_mul heB (show v2 ≤ 4294967295 by omega)
      have x1 : IntKind.u64.wrap ((e : Int) * (v2 : Int)) = (e : Int) * (v2 : Int) := by
       rw [Go.Proofs.Mul64.mulN]; exact Go.Proofs.Mul64.wrapN _ (by omega)
      have x2 : IntKind.u64.wrap (4294967296 * (r : Int)) = 4294967296 * (r : Int) := by
       rw [show (4294967296 : Int) * (r : Int) = ((4294967296 * r : Nat) : Int) by omega]; exact Go.Proofs.Mul64.wrapN _ (by omega)
      have x3 : IntKind.u64.wrap (4294967296 * (r : Int) + (un0 : Int)) = 4294967296 * (r : Int) + (un0 : Int) := by
       rw [show (4294967296 : Int) * (r : Int) + (un0 : Int) = ((4294967296 * r + un0 : Nat) : Int) by omega]; exact Go.Proofs.Mul64.wrapN _ (by omega)
      obtain ⟨p, hp⟩ := eqx (e * v2 : Nat)
      have hpi : (e : Int) * (v2 : Int) = (p : Int) := by rw [Go.Proofs.Mul64.mulN, hp]
      rw [hpi] at x1; have HP := zh hp; have HPI := zh hpi; clear m1 hp
      by_cases hc : 4294967296 ≤ e ∨ r * 4294967296 + un0 < p
      ·obtain ⟨g1, g2, g3⟩ := Go.Bn.Est.round BT.out BQ.out BB.out HE.out (by rw [HP.out]; exact hc); have g2' : e - 1 ≤ 4294967296 := g2
       have y1 : IntKind.u64.wrap ((e : Int) - 1) = ((e - 1 : Nat) : Int) := by
        rw [show (e : Int) - 1 = ((e - 1 : Nat) : Int) by omega]; exact Go.Proofs.Mul64.wrapN _ (by omega)
       have y2 : IntKind.u64.wrap ((r : Int) + (v1 : Int)) = ((r + v1 : Nat) : Int) := by
        rw [show (r : Int) + (v1 : Int) = ((r + v1 : Nat) : Int) by omega]; exact Go.Proofs.Mul64.wrapN _ (by omega)
       obtain ⟨d, hd⟩ := eqx (e - 1); obtain ⟨r', hr'⟩ := eqx (r + v1); rw [hd] at g1 g2' y1; rw [hr'] at g1 y2; have HG := zh g1
       have hed : d < e := by omega
       have HX : Hid (4294967296 ≤ r' → d = q0) := zh (fun h => Go.Bn.Est.exact BT.out BD.out BV.out g1 g2' (.inr h)); have y3 : IntKind.u64.wrap ((e : Int) - 1) = (d : Int) := y1
       have y4 : (e : Int) - 1 = (d : Int) := by omega
       have y5 : (r : Int) + (v1 : Int) = (r' : Int) := by omega
       clear g1 hd hr' g2 g3
       by_cases hr2 : 4294967296 ≤ r'
       ·have z1 : decide ((4294967296 : Int) ≤ (r' : Int)) = true := dT (by omega); have z1' : decide (4294967296 ≤ r') = true := dT hr2; obtain rfl : d = q0 := HX.out hr2; clear HX
        by_cases h1 : 4294967296 ≤ e
        ·have d1 : decide ((4294967296 : Int) ≤ (e : Int)) = true := dT (by omega); have d1' : decide (4294967296 ≤ e) = true := dT h1; go_wp2; go_meet; exact ⟨rfl, ⟨r', rfl⟩, rfl⟩
        ·have d1 : decide ((4294967296 : Int) ≤ (e : Int)) = false := dF (by omega); have d1' : decide (4294967296 ≤ e) = false := dF h1; have d2 : decide (4294967296 * (r : Int) + (un0 : Int) < (p : Int)) = true := dT (by omega); go_wp2; go_meet; exact ⟨rfl, ⟨r', rfl⟩, rfl⟩
       ·have z1 : decide ((4294967296 : Int) ≤ (r' : Int)) = false := dF (by omega); have z1' : decide (4294967296 ≤ r') = false := dF hr2; clear HX
        by_cases h1 : 4294967296 ≤ e
        ·have d1 : decide ((4294967296 : Int) ≤ (e : Int)) = true := dT (by omega); have d1' : decide (4294967296 ≤ e) = true := dT h1; go_wp2; go_round
         case rel => exact ⟨d, r', rfl, rfl, by omega, by omega, HG⟩
         case measure => simp [intOf]; omega
        ·have d1 : decide ((4294967296 : Int) ≤ (e : Int)) = false := dF (by omega); have d1' : decide (4294967296 ≤ e) = false := dF h1; have d2 : decide (4294967296 * (r : Int) + (un0 : Int) < (p : Int)) = true := dT (by omega); go_wp2; go_round
         case rel => exact ⟨d, r', rfl, rfl, by omega, by omega, HG⟩
         case measure => simp [intOf]; omega
      ·have h1 : ¬ 4294967296 ≤ e := fun h => hc (.inl h)
       have h2 : ¬ r * 4294967296 + un0 < p := fun h => hc (.inr h)
       obtain rfl : e = q0 := Go.Bn.Est.exact BT.out BD.out BV.out HE.out (show e ≤ 4294967296 by omega) (.inl (by rw [HP.out]; show p ≤ r * 4294967296 + un0; omega)); have d1 : decide ((4294967296 : Int) ≤ (e : Int)) = false := dF (by omega); have d1' : decide (4294967296 ≤ e) = false := dF h1; have d2 : decide (4294967296 * (r : Int) + (un0 : Int) < (p : Int)) = false := dF (by omega); go_wp2; go_meet; exact ⟨rfl, ⟨r, rfl⟩, rfl⟩
    case rest =>
     obtain ⟨rfl, ⟨r, rfl⟩, rfl⟩ := hcut; go_wp2
     go_ret2
     refine ⟨?_, Below.refl _ _⟩; rw [HZ.out.1, HZ.out.2]; simp
end Go.Proofs.Tg.Iw
end
section
namespace Go.Bw
theorem ma_lo {p k : Nat} : (p % B + k) % B = (p + k) % B := by simp only [B]; omega
theorem ma_hi {p k : Nat} : p / B + (p % B + k) / B = (p + k) / B := by simp only [B]; omega
theorem ma_fit {x y k : Nat} (hx : x < B) (hy : y < B) (hk : k < B) : x * y + k < B * B ∧ (x * y + k) / B < B := by
 have h1 : x * y ≤ (B - 1) * (B - 1) := Nat.mul_le_mul (by omega) (by omega)
 have h2 : (B - 1) * (B - 1) + B ≤ B * B := by decide
 have h3 : x * y + k < B * B := by omega
 exact ⟨h3, Nat.div_lt_of_lt_mul h3⟩
theorem addp_digit {x p k : Nat} (hx : x < B) (hp : (p + k) / B < B) (hp2 : x + (p + k) < B * B) : (x + (p + k) % B) % B + B * ((p + k) / B + (x + (p + k) % B) / B) = x + (p + k) ∧ (p + k) / B + (x + (p + k) % B) / B < B := by
 have e : B * B = 340282366920938463463374607431768211456 := by decide
 rw [e] at hp2
 simp only [B] at *
 omega
theorem subp_digit {x p k : Nat} (hx : x < B) (hp2 : p + k ≤ (B - 1) * B) : (x + B - (p + k) % B - 0) % B + (p + k) = x + B * ((p + k) / B + (if x < (p + k) % B + 0 then 1 else 0)) ∧ (p + k) / B + (if x < (p + k) % B + 0 then 1 else 0) < B := by
 have e : (B - 1) * B = 340282366920938463444927863358058659840 := by decide
 rw [e] at hp2
 simp only [B] at *
 split <;> omega
theorem lin_add {Z W Y P k x y h d k' : Nat} (hs : Z + P * k = W + h * Y) (hd : d + B * k' = x + (y * h + k)) : Z + P * d + P * B * k' = W + P * x + h * (Y + P * y) := by
 have h1 := congrArg (P * ·) hd
 simp only [Nat.mul_add] at h1
 have e1 : P * (B * k') = P * B * k' := (Nat.mul_assoc _ _ _).symm
 have e2 : h * (P * y) = P * (y * h) := by rw [Nat.mul_left_comm, Nat.mul_comm h y]
 rw [Nat.mul_add, e2]
 omega
theorem lin_sub {Z W Y P k x y h d k' : Nat} (hs : Z + h * Y = W + P * k) (hd : d + (y * h + k) = x + B * k') : Z + P * d + h * (Y + P * y) = W + P * x + P * B * k' := by
 have h1 := congrArg (P * ·) hd
 simp only [Nat.mul_add] at h1
 have e1 : P * (B * k') = P * B * k' := (Nat.mul_assoc _ _ _).symm
 have e2 : h * (P * y) = P * (y * h) := by rw [Nat.mul_left_comm, Nat.mul_comm h y]
 rw [Nat.mul_add, e2]
 omega
theorem val_snoc (zs : List Nat) (d : Nat) : val (zs ++ [d]) = val zs + B ^ zs.length * d := by
 rw [val_app]; simp [val]
theorem dig_snoc {zs : List Nat} {d : Nat} (h : Dig zs) (hd : d < B) : Dig (zs ++ [d]) := dig_app h (dig_cons hd (fun _ h => by cases h))
theorem win_at {us : List Nat} {o i : Nat} (h : o + i < us.length) : (us.drop o)[i]'(by rw [List.length_drop]; omega) = us[o + i] := by rw [List.getElem_drop]
theorem win_succ {us : List Nat} {o i : Nat} (h : o + i < us.length) : val ((us.drop o).take (i + 1)) = val ((us.drop o).take i) + B ^ i * us[o + i] := by
 rw [val_snoc_take (by rw [List.length_drop]; omega), win_at h]
theorem win_get {us zs : List Nat} {o i : Nat} (hl : zs.length = i) (h : o + i < us.length) : (us.take o ++ (zs ++ us.drop (o + i)))[o + i]? = some us[o + i] := mid_get h hl
end Go.Bw
namespace Go.Proofs.Tg.Iw
open Go.RowKit Go.Bw Go.Gr Go.Proofs.Tg
def warr (l : List Nat) : Array Value := (l.map vs).toArray
theorem warr_size (l : List Nat) : (warr l).size = l.length := by simp [warr]
theorem warr_at {l : List Nat} {k v : Nat} (h : l[k]? = some v) : (warr l)[k]? = some (.int .u64 (v : Nat)) := by simp [warr, h, vs]
theorem warr_set (l : List Nat) (k v : Nat) : (warr l).setIfInBounds k (.int .u64 (v : Nat)) = warr (l.set k v) := by simp [warr, List.map_set, vs]
theorem warr_made (n : Nat) : madeCells #[.int .u64 0] n = warr (List.replicate n 0) := by
 apply Array.ext
 ·simp [warr, size_madeCells]
 ·intro i h1 h2
  simp [madeCells, warr, vs, Nat.mod_one]
theorem Only.keepBelow {g B : Nat} {w V : World} (h : Only g w V) (hg : B ≤ g) : Below B w V := h.below brf hg
structure ApM (w : World) (g o h : Nat) (us ys : List Nat) (wr : World) (i k : Nat) (zs : List Nat) : Prop where
  len : zs.length = i
  dig : Dig zs
  lt : k < B
  eq : val zs + B ^ i * k = val ((us.drop o).take i) + h * val (ys.take i)
  blk : Blk wr g 118 (warr (us.take o ++ (zs ++ us.drop (o + i))))
  only : Only g w wr
structure SpM (w : World) (g o h : Nat) (us ys : List Nat) (wr : World) (i k : Nat) (zs : List Nat) : Prop where
  len : zs.length = i
  dig : Dig zs
  lt : k < B
  eq : val zs + h * val (ys.take i) = val ((us.drop o).take i) + B ^ i * k
  blk : Blk wr g 118 (warr (us.take o ++ (zs ++ us.drop (o + i))))
  only : Only g w wr
theorem pow_snoc (i : Nat) : B ^ (i + 1) = B ^ i * B := Nat.pow_succ ..
theorem ApM.next {w wr : World} {g o h i k d k' : Nat} {us ys zs : List Nat} (s : ApM w g o h us ys wr i k zs) (hi : i < ys.length) (ho : o + i < us.length) (hd : d + B * k' = us[o + i] + (ys[i] * h + k)) (hdB : d < B) (hk : k' < B) :
    ApM w g o h us ys (wr.setCell ⟨g, o + i, none⟩ (.int .u64 (d : Nat))) (i + 1) k' (zs ++ [d]) := by
  have hb := s.blk.set (o + i) (.int .u64 (d : Nat)); rw [warr_set, mid_set ho s.len] at hb; refine ⟨by rw [List.length_append, s.len]; rfl, dig_snoc s.dig hdB, hk, ?_, hb, s.only.set _ _⟩; rw [val_snoc, s.len, win_succ ho, val_snoc_take hi, pow_snoc]; exact lin_add s.eq hd
theorem SpM.next {w wr : World} {g o h i k d k' : Nat} {us ys zs : List Nat} (s : SpM w g o h us ys wr i k zs) (hi : i < ys.length) (ho : o + i < us.length) (hd : d + (ys[i] * h + k) = us[o + i] + B * k') (hdB : d < B) (hk : k' < B) :
    SpM w g o h us ys (wr.setCell ⟨g, o + i, none⟩ (.int .u64 (d : Nat))) (i + 1) k' (zs ++ [d]) := by
  have hb := s.blk.set (o + i) (.int .u64 (d : Nat)); rw [warr_set, mid_set ho s.len] at hb; refine ⟨by rw [List.length_append, s.len]; rfl, dig_snoc s.dig hdB, hk, ?_, hb, s.only.set _ _⟩; rw [val_snoc, s.len, win_succ ho, val_snoc_take hi, pow_snoc]; exact lin_sub s.eq hd
def RetAp (w : World) (g o h : Nat) (us ys : List Nat) (e : Ending) (w' : World) : Prop := ∃ (k : Nat) (zs : List Nat), e = .returned (.int .u64 (k : Nat)) ∧ ApM w g o h us ys w' ys.length k zs
def RetSp (w : World) (g o h : Nat) (us ys : List Nat) (e : Ending) (w' : World) : Prop := ∃ (k : Nat) (zs : List Nat), e = .returned (.int .u64 (k : Nat)) ∧ SpM w g o h us ys w' ys.length k zs
theorem addp_any (g o h c cx : Nat) (us ys : List Nat) (X : Option Addr) (w : World) (hB : Blk w g 118 (warr us)) (hX : Sets w X ys) (hne : ∀ ad, X = some ad → ad.block ≠ g) (hdu : Dig us) (hdy : Dig ys) (hh : h < B) (ho : o + ys.length ≤ us.length) (hn : us.length ≤ 1000000) :
    Calls Tryz.prog 97 #[.slice (some ⟨g, o, none⟩) ys.length c, .slice X ys.length cx, .int .u64 (h : Nat)] w (RetAp w g o h us ys) := by
  obtain ⟨Q, hQ⟩ := eqx (RetAp w g o h us ys); have HRET : Hid (∀ (k : Nat) (zs : List Nat) w', ApM w g o h us ys w' ys.length k zs → Q (.returned (.int .u64 (k : Nat))) w') := zh (fun k zs w' hs => by rw [← hQ]; exact ⟨k, zs, rfl, hs⟩); rw [hQ]; clear hQ
  have H0 : Hid (ApM w g o h us ys w 0 0 []) := zh ⟨rfl, fun _ hx => absurd hx (by simp), by decide, by simp [val], by
   rw [List.nil_append, Nat.add_zero, List.take_append_drop]; exact hB, Only.refl _ _⟩
  have HX := zh hX; have HNE := zh hne; have HDU := zh hdu; have HDY := zh hdy; have HH := zh hh; obtain ⟨n, hnn⟩ := eqx (ys.length); rw [hnn] at HRET ho ⊢; have HN := zh hnn; have HO := zh ho; clear hB hX hne hdu hdy hh hnn; go_enter Tryz.func97, Tryz.ntmps97; go_wp2
  go_loopw [7, 16] (fun s7 s16 wr => ∃ (i k : Nat) (zs : List Nat), s16 = .int .i64 i ∧ i ≤ n ∧ s7 = .int .u64 (k : Nat) ∧ Hid (ApM w g o h us ys wr i k zs)) (fun _ s16 _ => n - (intOf s16).toNat)
  case atStart => exact ⟨0, 0, [], rfl, Nat.zero_le _, rfl, H0⟩
  case round =>
   clear H0; obtain ⟨wo, rfl⟩ : ∃ wo : World, wo = wr := ⟨_, rfl⟩; obtain ⟨i, k, zs, rfl, hi, rfl, HS⟩ := hrel
   by_cases hin : i < n
   ·have hiy : i < ys.length := by rw [HN.out]; exact hin
    have hiu : o + i < us.length := by have := HO.out; omega
    obtain ⟨ad, hX2, hcy⟩ := Sets.at' (HX.out) hiy; have hnb := HNE.out ad hX2; subst hX2; have hcy : wo.cell? (ad.add i) = some (.int .u64 (ys[i] : Nat)) := (HS.out.only.cell (p := ad.add i) (by rw [add_block]; exact hnb)).trans hcy; have hbc := HS.out.blk.cell (o + i); rw [warr_at (win_get HS.out.len hiu)] at hbc; have hbf := HS.out.blk.frozen (o + i); have hxB := HDU.out us[o + i] (List.getElem_mem _); have hyB := HDY.out ys[i] (List.getElem_mem _); have hkB := HS.out.lt; have HNX : Hid (∀ d k', d + B * k' = us[o + i] + (ys[i] * h + k) → d < B → k' < B → ApM w g o h us ys (wo.setCell ⟨g, o + i, none⟩ (.int .u64 (d : Nat))) (i + 1) k' (zs ++ [d])) := zh (fun d k' a b c => HS.out.next hiy hiu a b c); generalize us[o + i] = x at *; generalize ys[i] = y at *; obtain ⟨f1, f2⟩ := ma_fit hyB HH.out hkB; have hM := mul64 y h hyB HH.out; obtain ⟨hi2, hhi⟩ := eqx (y * h / B)
    obtain ⟨lo, hlo⟩ := eqx (y * h % B); rw [hhi, hlo] at hM; have HM := zh hM
    have hA1 : ∀ V, (callFunc 122 #[.int .u64 (lo : Nat), .int .u64 (k : Nat), .int .u64 0]).run Tryz.prog V = _ := fun V => add64 lo k 0 (by omega) V
    obtain ⟨s, hs⟩ := eqx ((lo + k + 0) % B); obtain ⟨c1, hc1⟩ := eqx ((lo + k + 0) / B); rw [hs, hc1] at hA1
    have hA2 : ∀ V, (callFunc 122 #[.int .u64 (x : Nat), .int .u64 (s : Nat), .int .u64 0]).run Tryz.prog V = _ := fun V => add64 x s 0 (by omega) V
    obtain ⟨d, hd⟩ := eqx ((x + s + 0) % B); obtain ⟨c2, hc2⟩ := eqx ((x + s + 0) / B); rw [hd, hc2] at hA2
    have e1 : s = (y * h + k) % B := by rw [← hs, ← hlo, Nat.add_zero, ma_lo]
    have e2 : hi2 + c1 = (y * h + k) / B := by rw [← hhi, ← hc1, ← hlo, Nat.add_zero, ma_hi]
    obtain ⟨g1, g2⟩ := addp_digit (x := x) (p := y * h) (k := k) hxB f2 (by
     have a1 : y * h ≤ (B - 1) * (B - 1) := Nat.mul_le_mul (by have := hyB; simp only [B] at *; omega) (by have := HH.out; simp only [B] at *; omega)
     have a2 : (B - 1) * (B - 1) + 2 * B - 1 = B * B := by decide
     have e : (B - 1) * (B - 1) = 340282366920938463426481119284349108225 := by decide
     have e' : B * B = 340282366920938463463374607431768211456 := by decide
     rw [e] at a1; rw [e']; simp only [B] at hxB hkB
     omega)
    rw [← e1] at g1 g2
    have e3 : (x + s) % B = d := by rw [← hd, Nat.add_zero]
    have e4 : (x + s) / B = c2 := by rw [← hc2, Nat.add_zero]
    rw [e3, e4, ← e2] at g1; rw [e4, ← e2] at g2; have HY := HNX.out d (hi2 + c1 + c2) g1 (by rw [← e3]; exact Nat.mod_lt _ (by decide)) g2; have HY := zh HY
    have w1 : IntKind.u64.wrap ((hi2 : Int) + (c1 : Int)) = ((hi2 + c1 : Nat) : Int) := by
     rw [Go.Proofs.Mul64.addN]; exact Go.Proofs.Mul64.wrapN _ (by simp only [B] at g2; omega)
    have w2 : IntKind.u64.wrap (((hi2 + c1 : Nat) : Int) + (c2 : Int)) = ((hi2 + c1 + c2 : Nat) : Int) := by
     rw [Go.Proofs.Mul64.addN]; exact Go.Proofs.Mul64.wrapN _ (by simp only [B] at g2; omega)
    obtain ⟨h2, hh2⟩ := eqx (hi2 + c1); obtain ⟨k', hk'⟩ := eqx (hi2 + c1 + c2); rw [hh2] at w1 w2; rw [hh2] at hk' HY; rw [hk'] at w2 HY; clear hhi hlo hs hc1 hd hc2 e1 e2 e3 e4 g1 g2 f1 f2 hh2 hk' HNX hM hxB hyB hkB hnb
    have q0 : (0 : Int) ≤ (i : Int) := by omega
    have q1 : (i : Int) < (n : Int) := by omega
    have q3 : ((i : Int)).toNat = i := by omega
    have d1 : decide ((i : Int) < (n : Int)) = true := dT q1; have d2 : decide (i < n) = true := dT hin
    go_wp2_with (go_at_call 121; refine (HM.out _).mono ?_; rintro e w1 ⟨rfl, rfl⟩)
    go_roundw
    case rel => exact ⟨i + 1, k', _, by go_num, by omega, rfl, HY⟩
    case measure => simp [intOf]; omega
   ·obtain rfl : i = n := by omega
    have d1 : decide ((i : Int) < (i : Int)) = false := by simp
    have hs := HS.out; go_wp2; exact HRET.out _ _ _ hs
theorem subp_any (g o h c cx : Nat) (us ys : List Nat) (X : Option Addr) (w : World) (hB : Blk w g 118 (warr us)) (hX : Sets w X ys) (hne : ∀ ad, X = some ad → ad.block ≠ g) (hdu : Dig us) (hdy : Dig ys) (hh : h < B) (ho : o + ys.length ≤ us.length) (hn : us.length ≤ 1000000) :
    Calls Tryz.prog 134 #[.slice (some ⟨g, o, none⟩) ys.length c, .slice X ys.length cx, .int .u64 (h : Nat)] w (RetSp w g o h us ys) := by
  obtain ⟨Q, hQ⟩ := eqx (RetSp w g o h us ys); have HRET : Hid (∀ (k : Nat) (zs : List Nat) w', SpM w g o h us ys w' ys.length k zs → Q (.returned (.int .u64 (k : Nat))) w') := zh (fun k zs w' hs => by rw [← hQ]; exact ⟨k, zs, rfl, hs⟩); rw [hQ]; clear hQ
  have H0 : Hid (SpM w g o h us ys w 0 0 []) := zh ⟨rfl, fun _ hx => absurd hx (by simp), by decide, by simp [val], by
   rw [List.nil_append, Nat.add_zero, List.take_append_drop]; exact hB, Only.refl _ _⟩
  have HX := zh hX; have HNE := zh hne; have HDU := zh hdu; have HDY := zh hdy; have HH := zh hh; obtain ⟨n, hnn⟩ := eqx (ys.length); rw [hnn] at HRET ho ⊢; have HN := zh hnn; have HO := zh ho; clear hB hX hne hdu hdy hh hnn; go_enter Tryz.func134, Tryz.ntmps134; go_wp2
  go_loopw [7, 16] (fun s7 s16 wr => ∃ (i k : Nat) (zs : List Nat), s16 = .int .i64 i ∧ i ≤ n ∧ s7 = .int .u64 (k : Nat) ∧ Hid (SpM w g o h us ys wr i k zs)) (fun _ s16 _ => n - (intOf s16).toNat)
  case atStart => exact ⟨0, 0, [], rfl, Nat.zero_le _, rfl, H0⟩
  case round =>
   clear H0; obtain ⟨wo, rfl⟩ : ∃ wo : World, wo = wr := ⟨_, rfl⟩; obtain ⟨i, k, zs, rfl, hi, rfl, HS⟩ := hrel
   by_cases hin : i < n
   ·have hiy : i < ys.length := by rw [HN.out]; exact hin
    have hiu : o + i < us.length := by have := HO.out; omega
    obtain ⟨ad, hX2, hcy⟩ := Sets.at' (HX.out) hiy; have hnb := HNE.out ad hX2; subst hX2; have hcy : wo.cell? (ad.add i) = some (.int .u64 (ys[i] : Nat)) := (HS.out.only.cell (p := ad.add i) (by rw [add_block]; exact hnb)).trans hcy; have hbc := HS.out.blk.cell (o + i); rw [warr_at (win_get HS.out.len hiu)] at hbc; have hbf := HS.out.blk.frozen (o + i); have hxB := HDU.out us[o + i] (List.getElem_mem _); have hyB := HDY.out ys[i] (List.getElem_mem _); have hkB := HS.out.lt; have HNX : Hid (∀ d k', d + (ys[i] * h + k) = us[o + i] + B * k' → d < B → k' < B → SpM w g o h us ys (wo.setCell ⟨g, o + i, none⟩ (.int .u64 (d : Nat))) (i + 1) k' (zs ++ [d])) := zh (fun d k' a b c => HS.out.next hiy hiu a b c); generalize us[o + i] = x at *; generalize ys[i] = y at *; obtain ⟨f1, f2⟩ := ma_fit hyB HH.out hkB; have hM := mul64 y h hyB HH.out; obtain ⟨hi2, hhi⟩ := eqx (y * h / B)
    obtain ⟨lo, hlo⟩ := eqx (y * h % B); rw [hhi, hlo] at hM; have HM := zh hM
    have hA1 : ∀ V, (callFunc 122 #[.int .u64 (lo : Nat), .int .u64 (k : Nat), .int .u64 0]).run Tryz.prog V = _ := fun V => add64 lo k 0 (by omega) V
    obtain ⟨s, hs⟩ := eqx ((lo + k + 0) % B); obtain ⟨c1, hc1⟩ := eqx ((lo + k + 0) / B); rw [hs, hc1] at hA1
    have hA2 : ∀ V, (callFunc 113 #[.int .u64 (x : Nat), .int .u64 (s : Nat), .int .u64 0]).run Tryz.prog V = _ := fun V => sub64 x s 0 (by omega) V
    obtain ⟨d, hd⟩ := eqx ((x + B - s - 0) % B); obtain ⟨c2, hc2⟩ := eqx ((if x < s + 0 then 1 else 0) : Nat); rw [hd, hc2] at hA2
    have e1 : s = (y * h + k) % B := by rw [← hs, ← hlo, Nat.add_zero, ma_lo]
    have e2 : hi2 + c1 = (y * h + k) / B := by rw [← hhi, ← hc1, ← hlo, Nat.add_zero, ma_hi]
    obtain ⟨g1, g2⟩ := subp_digit (x := x) (p := y * h) (k := k) hxB (by
     have a1 : y * h ≤ (B - 1) * (B - 1) := Nat.mul_le_mul (by have := hyB; simp only [B] at *; omega) (by have := HH.out; simp only [B] at *; omega)
     have e : (B - 1) * (B - 1) = 340282366920938463426481119284349108225 := by decide
     have e' : (B - 1) * B = 340282366920938463444927863358058659840 := by decide
     rw [e] at a1; rw [e']; simp only [B] at hxB hkB
     omega)
    rw [← e1, ← e2, hd, hc2] at g1; rw [← e1, ← e2, hc2] at g2; have HY := HNX.out d (hi2 + c1 + c2) g1 (by rw [← hd]; exact Nat.mod_lt _ (by decide)) g2; have HY := zh HY
    have w1 : IntKind.u64.wrap ((hi2 : Int) + (c1 : Int)) = ((hi2 + c1 : Nat) : Int) := by
     rw [Go.Proofs.Mul64.addN]; exact Go.Proofs.Mul64.wrapN _ (by simp only [B] at g2; omega)
    have w2 : IntKind.u64.wrap (((hi2 + c1 : Nat) : Int) + (c2 : Int)) = ((hi2 + c1 + c2 : Nat) : Int) := by
     rw [Go.Proofs.Mul64.addN]; exact Go.Proofs.Mul64.wrapN _ (by simp only [B] at g2; omega)
    obtain ⟨h2, hh2⟩ := eqx (hi2 + c1); obtain ⟨k', hk'⟩ := eqx (hi2 + c1 + c2); rw [hh2] at w1 w2; rw [hh2] at hk' HY; rw [hk'] at w2 HY; clear hhi hlo hs hc1 hd hc2 e1 e2 g1 g2 f1 f2 hh2 hk' HNX hM hxB hyB hkB hnb
    have q0 : (0 : Int) ≤ (i : Int) := by omega
    have q1 : (i : Int) < (n : Int) := by omega
    have q3 : ((i : Int)).toNat = i := by omega
    have d1 : decide ((i : Int) < (n : Int)) = true := dT q1; have d2 : decide (i < n) = true := dT hin
    go_wp2_with (go_at_call 121; refine (HM.out _).mono ?_; rintro e w1 ⟨rfl, rfl⟩)
    go_roundw
    case rel => exact ⟨i + 1, k', _, by go_num, by omega, rfl, HY⟩
    case measure => simp [intOf]; omega
   ·obtain rfl : i = n := by omega
    have d1 : decide ((i : Int) < (i : Int)) = false := by simp
    have hs := HS.out; go_wp2; exact HRET.out _ _ _ hs
end Go.Proofs.Tg.Iw
end
