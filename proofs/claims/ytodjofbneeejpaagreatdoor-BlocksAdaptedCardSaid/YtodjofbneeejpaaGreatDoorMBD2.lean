/- Parts of the proof: WD4, NU1, NU2, NU3, NU4, XD1, NU6, NU7, NU10, NU11. -/
import Derived.Laws.OwnMore
import Derived.Maps.AppendAt
import Derived.Maps.OwnOps
import Derived.Maps.OwnSet
import Derived.Maps.Views
import Derived.Laws.IdiomStrings
import Derived.Laws.BytesArg
import Derived.Carry
import Derived.Deep.Cut
import Derived.Deep.RegionHeld3
import Derived.Test.YtodjofbneeejpaaGreatDoorMBD0
import Derived.Test.YtodjofbneeejpaaGreatDoorMBD1
section
/- Walks: classes of monomials. -/
namespace Go.Proofs.Tg
open Go.RowKit Go.Gr Go.Ev Go.Mo
open Go.ChangeShapes Go.WideShapes
set_option maxHeartbeats 4000000
set_option maxRecDepth 100000
def vb (c : UInt8) : Value := .int .u8 (c.toNat : Int)
theorem byte_info : (Tryz.prog.info? 5).map (fun i => (i.zero, i.size, i.bytes)) = some (some (.int .u8 0), 1, 1) := by kernel_rfl
/-- The bytes of a slice as a text. -/
theorem conv_name (w : World) (A : Option Addr) (c : Nat) (l : List UInt8) (h : Sl w A l.length 1 (l.map vb)) : (convert 175 9 (.slice A l.length c)).run Tryz.prog w = .ok (.string (bs l)) w := by
 by_cases h0 : l = []
 ·subst h0
  cases A with
  | none => exact run_convert_bytes_nil w _ 5 Tryz.underlying175 Tryz.underlying5 0 c _ Tryz.underlying9
  | some ad => exact run_convert_bytes_back w _ _ 5 ad c [] Tryz.underlying175 Tryz.underlying5 Tryz.underlying9 (fun j hj => by simp at hj)
 ·obtain ⟨ad, rfl, _, ha⟩ := h.lies (List.length_pos_iff.2 h0)
  exact run_convert_bytes_back w _ _ 5 ad c l Tryz.underlying175 Tryz.underlying5 Tryz.underlying9 (fun j hj => ha j _ (by simp [hj, vb]))
end Go.Proofs.Tg
end
section
/- The harness's numbers: trim. -/
namespace Go.Proofs.Tg
open Go.RowKit Go.Gr
set_option maxHeartbeats 4000000
set_option maxRecDepth 100000
def vd (x : Nat) : Value := .int .u32 (x : Nat)
/-- A slice of digits, which lies in a block of digits. -/
structure Digs (w : World) (A : Option Addr) (xs : List Nat) : Prop where
  sl : Sl w A xs.length 1 (xs.map vd)
  u32 : 0 < xs.length → ∀ ad, A = some ad → ∃ cs fz, w.heap[ad.block]? = some (.cells cs 123 fz)
theorem Digs.nil (w : World) (A : Option Addr) : Digs w A [] := ⟨Sl.nil _ _ _, fun h => absurd h (by simp)⟩
theorem Digs.keep {w w' : World} {A : Option Addr} {xs : List Nat} (h : Digs w A xs) (hb : Below w.heap.size w w') : Digs w' A xs :=
  ⟨h.sl.keep hb, fun hp ad e => by
   obtain ⟨cs, fz, hc⟩ := h.u32 hp ad e
   exact ⟨cs, fz, (hb.block _ (Array.getElem?_eq_some_iff.1 hc).1).trans hc⟩⟩
theorem Digs.at {w : World} {A : Option Addr} {xs : List Nat} (h : Digs w A xs) {k : Nat} (hk : k < xs.length) : ∃ ad, A = some ad ∧ w.cell? (ad.add k) = some (.int .u32 (xs[k] : Nat)) := by
 obtain ⟨ad, rfl, hc⟩ := Sl.at1 h.sl hk
 exact ⟨ad, rfl, by simpa [vd] using hc⟩
theorem Digs.take {w : World} {A : Option Addr} {xs : List Nat} (h : Digs w A xs) (k : Nat) (hk : k ≤ xs.length) : Digs w A (xs.take k) := by
 have hl : (xs.take k).length = k := by rw [List.length_take]; omega
 refine ⟨⟨by simp, fun hp => ?_⟩, fun hp => h.u32 (by omega)⟩
 rw [hl] at hp
 obtain ⟨ad, rfl, hlt, ha⟩ := h.sl.lies (by omega)
 refine ⟨ad, rfl, hlt, fun j u hu => ha j u ?_⟩
 have hj := (List.getElem?_eq_some_iff.1 hu).1
 rw [List.length_map, hl] at hj
 rw [List.getElem?_map] at hu ⊢
 rwa [List.getElem?_take_of_lt hj] at hu
/-- The first cells of a block of digits. -/
theorem digs_pre {w : World} {g : Nat} {cs : Array Value} {xs : List Nat} (h : Blk w g 123 cs) (hx : ∀ (j : Nat) u, (xs.map vd)[j]? = some u → cs[j]? = some u) : Digs w (some ⟨g, 0, none⟩) xs :=
  ⟨⟨by simp, fun _ => ⟨_, rfl, h.lt, fun j u hu => by rw [add_lit, Nat.zero_add, h.cell j]; exact hx j u hu⟩⟩, fun _ ad e => by
   injection e with e
   subst e
   exact ⟨cs, (0, 0), h⟩⟩
theorem digs_of {w : World} {g : Nat} {xs : List Nat} (h : Blk w g 123 (xs.map vd).toArray) : Digs w (some ⟨g, 0, none⟩) xs := digs_pre h (fun j u hu => by simpa using hu)
theorem digs_own {w : World} {b n c : Nat} {A : Option Addr} {xs : List Nat} (h : w.ownsRow b 123 1 (.slice A n c) n (xs.map vd)) (hn : n = xs.length) : Digs w A xs := by
 subst hn
 refine ⟨Sl.own h, fun hp ad e => ?_⟩
 rcases h.2 with ⟨h1, h2⟩ | ⟨g, cap, cur, h1, _, hg, _⟩
 ·injection h1 with h1
  rw [e] at h1; cases h1
 ·injection h1 with h1
  rw [e] at h1
  injection h1 with h1
  subst h1
  exact ⟨cur, (0, 0), hg⟩
theorem Digs.far {w : World} {A : Option Addr} {g : Nat} {xs : List Nat} (h : Digs w A xs) (ho : Off A xs.length g) (i : Nat) (u : Value) : Digs (w.setCell ⟨g, i, none⟩ u) A xs :=
  ⟨Sl.far h.sl ho i u, fun hp ad e => by
   obtain ⟨cs, fz, hc⟩ := h.u32 hp ad e
   refine ⟨cs, fz, ?_⟩
   rw [Below.heap_setCell _ _ _ _ (ho hp ad e)]
   exact hc⟩
theorem Digs.put {w : World} {A : Option Addr} {xs : List Nat} (h : Digs w A xs) {p : Addr} {v : Value} (hp : w.cell? p = some v) (hv : v ∉ xs.map vd) (u : Value) : Digs (w.setCell p u) A xs :=
  ⟨Sl.put h.sl hp hv u, fun hl ad e => by
   obtain ⟨cs, fz, hc⟩ := h.u32 hl ad e
   by_cases hg : ad.block = p.block
   ·refine ⟨if p.spot.isSome then cs else cs.setIfInBounds p.off u, fz, ?_⟩
    simp [World.setCell, Array.getElem?_modify, ← hg, hc]
   ·exact ⟨cs, fz, by rw [Below.heap_setCell _ _ _ _ hg]; exact hc⟩⟩
/-- A block whose elements are of another type. -/
theorem Digs.off_ty {w : World} {A : Option Addr} {g : Nat} {t : TypeId} {xs : List Nat} {cs : Array Value} (h : Digs w A xs) (B : Blk w g t cs) (hne : t ≠ 123) : Off A xs.length g := by
 intro hp ad e hg
 obtain ⟨cs', fz, hc⟩ := h.u32 hp ad e
 rw [hg] at hc
 unfold Blk at B
 rw [B] at hc
 injection hc with hc
 injection hc with _ ht
 exact hne ht
/-- A row of the call's own that grows, of another type. -/
theorem Digs.grown {w w' : World} {A : Option Addr} {ys : List Value} {zs : List Nat} {b sz n : Nat} {t : TypeId} {v : Value} (h : Digs w A zs) (ho : w.ownsRow b t sz v n ys) (hg : w.grownBy w' v.ownBlock) (hne : t ≠ 123) : Digs w' A zs := by
 have key : 0 < zs.length → ∀ ad, A = some ad → some ad.block ≠ v.ownBlock := by
  intro hp ad e he
  obtain ⟨cs', fz, hc⟩ := h.u32 hp ad e
  rcases ho.2 with ⟨rfl, _⟩ | ⟨g, cap, cur, rfl, _, hg', _⟩
  ·simp [Value.ownBlock] at he
  ·have : ad.block = g := by simpa [Value.ownBlock] using he
   rw [this, hg'] at hc
   injection hc with hc
   injection hc with _ ht
   exact hne ht
 refine ⟨⟨h.sl.len, fun hp => ?_⟩, fun hp ad e => ?_⟩
 ·obtain ⟨ad, e, hlt, ha⟩ := h.sl.lies hp
  refine ⟨ad, e, Nat.lt_of_lt_of_le hlt hg.size, fun j u hu => hg.cell (ha j u hu) (by rw [add_block]; exact key hp ad e)⟩
 ·obtain ⟨cs, fz, hc⟩ := h.u32 hp ad e
  exact ⟨cs, fz, (hg.block _ (Array.getElem?_eq_some_iff.1 hc).1 (key hp ad e)).trans hc⟩
/-- How many digits are left of the first k when the leading zeros are struck. -/
def tzl (xs : List Nat) : Nat → Nat
  | 0 => 0
  | k + 1 => if xs.getD k 0 = 0 then tzl xs k else k + 1
theorem tzl_le (xs : List Nat) : ∀ k, tzl xs k ≤ k
  | 0 => Nat.le_refl _
  | k + 1 => by
    unfold tzl
    have := tzl_le xs k
    split <;> omega
theorem trim_any (A : Option Addr) (c : Nat) (xs : List Nat) (w : World) (hA : Digs w A xs) (hn : xs.length ≤ 1000000) (hc : xs.length ≤ c) :
    Calls Tryz.prog 127 #[.slice A xs.length c] w fun e w' => e = .returned (.slice A (tzl xs xs.length) c) ∧ w = w' := by
  obtain ⟨r, hr⟩ : ∃ r, tzl xs xs.length = r := ⟨_, rfl⟩
  rw [hr]
  have HR : Hid (tzl xs xs.length = r) := Lib.hid hr
  clear hr
  go_enter Tryz.func127, Tryz.ntmps127
  go_wp2
  go_loop [0] (fun s0 => ∃ k : Nat, s0 = .slice A k c ∧ k ≤ xs.length ∧ Hid (tzl xs k = r)) (fun s0 => match s0 with | .slice _ k _ => k | _ => 0)
  case atStart => exact ⟨xs.length, rfl, Nat.le_refl _, HR⟩
  case round =>
   obtain ⟨k, rfl, hk, HK⟩ := hrel
   cases k with
   | zero =>
     obtain rfl : r = 0 := HK.out.symm
     go_wp2
     go_ret
     exact ⟨rfl, rfl⟩
   | succ k =>
     obtain ⟨ad, rfl, hck⟩ := Digs.at hA (k := k) (by omega)
     have HX : Hid (xs.getD k 0 = xs[k]) := Lib.hid (by simp [show k < xs.length by omega])
     generalize xs[k] = x at hck HX
     by_cases hx : x = 0
     ·subst hx
      have HK2 : Hid (tzl xs k = r) := Lib.hid (by have := HK.out; unfold tzl at this; rwa [if_pos HX.out] at this)
      go_wp2
      go_round
      case rel => exact ⟨k, rfl, by omega, HK2⟩
      case measure => simp
     ·have hb : ((x : Int) == 0) = false := by simp [hx]
      have hb' : (x == 0) = false := by simp [hx]
      obtain rfl : r = k + 1 := by have := HK.out; unfold tzl at this; rw [if_neg (by rw [HX.out]; exact hx)] at this; exact this.symm
      go_wp2
      go_ret
      exact ⟨rfl, rfl⟩
theorem make1_any (b : Bool) (A : Option Addr) (n c : Nat) (w : World) (v : Bool) (hv : (b && decide (0 < n)) = v) (hn : n ≤ 1000000) :
    Calls Tryz.prog 118 #[.bool b, .slice A n c] w fun e w' => e = .returned (.agg #[.bool v, .slice A n c]) ∧ Below w.heap.size w w' := by
  have hbA : Below w.heap.size w (w.alloc (.cells #[.bool v, .slice A n c] 107)) := (Below.refl _ _).alloc (Nat.le_refl _) _
  have hB := Blk.new w 107 #[.bool v, .slice A n c]
  cases b with
  | false =>
    obtain rfl : v = false := by rw [← hv]; rfl
    obtain ⟨a0, a1, _, _⟩ := hB.two
    go_enter Tryz.func118, Tryz.ntmps118
    go_wp2
    exact bodyPost_ret (v := .agg #[.bool false, .slice A n c]) (by simp [results, Tryz.results118, go_sem, a0, a1]) rfl ⟨rfl, hbA⟩
  | true =>
    obtain rfl : decide (0 < n) = v := by rw [← hv]; rfl
    obtain ⟨a0, a1, _, _⟩ := hB.two
    by_cases h0 : 0 < n
    ·have hd : decide ((0 : Int) < (n : Int)) = true := by simp; omega
     have hd' : decide (0 < n) = true := by simp; omega
     rw [hd'] at a0 a1 hbA ⊢
     clear hv hB
     go_enter Tryz.func118, Tryz.ntmps118
     go_wp2
     exact bodyPost_ret (v := .agg #[.bool true, .slice A n c]) (by simp [results, Tryz.results118, go_sem, a0, a1]) rfl ⟨rfl, hbA⟩
    ·have hd : decide ((0 : Int) < (n : Int)) = false := by simp; omega
     have hd' : decide (0 < n) = false := by simp; omega
     rw [hd'] at a0 a1 hbA ⊢
     clear hv hB
     go_enter Tryz.func118, Tryz.ntmps118
     go_wp2
     exact bodyPost_ret (v := .agg #[.bool false, .slice A n c]) (by simp [results, Tryz.results118, go_sem, a0, a1]) rfl ⟨rfl, hbA⟩
theorem sign_any (b : Bool) (A : Option Addr) (n c : Nat) (w : World) (hn : n ≤ 1000000) (s : Int) (hs : (if b = true then -1 else if n = 0 then 0 else 1) = s) :
    Calls Tryz.prog 95 #[.agg #[.bool b, .slice A n c]] w fun e w' => e = .returned (.int .i64 s) ∧ Below w.heap.size w w' := by
  have hbA : Below w.heap.size w (w.alloc (.cells #[.bool b, .slice A n c] 107)) := (Below.refl _ _).alloc (Nat.le_refl _) _
  cases b with
  | true =>
    obtain rfl : s = -1 := by rw [← hs]; rfl
    clear hs
    go_enter Tryz.func95, Tryz.ntmps95
    go_wp2
    go_ret
    exact ⟨rfl, hbA⟩
  | false =>
    by_cases h0 : n = 0
    ·subst h0
     obtain rfl : s = 0 := by rw [← hs]; rfl
     clear hs
     go_enter Tryz.func95, Tryz.ntmps95
     go_wp2
     go_ret
     exact ⟨rfl, hbA⟩
    ·obtain rfl : s = 1 := by rw [← hs, if_neg (by simp), if_neg h0]
     have hz : ((n : Int) == 0) = false := beq_eq_false_iff_ne.2 (by omega)
     have hz' : (n == 0) = false := beq_eq_false_iff_ne.2 h0
     clear h0 hs
     go_enter Tryz.func95, Tryz.ntmps95
     go_wp2
     go_ret
     exact ⟨rfl, hbA⟩
end Go.Proofs.Tg
end
section
/- The harness's numbers: the sign of a fraction. -/
namespace Go.Proofs.Tg
open Go.RowKit Go.Gr
set_option maxHeartbeats 1000000
set_option maxRecDepth 100000
theorem rsign_any (b b2 : Bool) (A A2 : Option Addr) (n c n2 c2 : Nat) (w : World) (hn : n ≤ 1000000) (s : Int) (hs : (if b = true then -1 else if n = 0 then 0 else 1) = s) :
    Calls Tryz.prog 71 #[.agg #[.bool b, .slice A n c, .bool b2, .slice A2 n2 c2]] w fun e w' => e = .returned (.int .i64 s) ∧ Below w.heap.size w w' := by
  have hbA : Below w.heap.size w (w.alloc (.cells #[.bool b, .slice A n c, .bool b2, .slice A2 n2 c2] 109)) := (Below.refl _ _).alloc (Nat.le_refl _) _
  have HS := Lib.hid (fun W => sign_any b A n c W hn s hs)
  clear hs
  go_enter Tryz.func71, Tryz.ntmps71
  go_wp2_with (fail)
  refine (HS.out _).mono ?_
  rintro e w2 ⟨rfl, hb2⟩
  go_wp2
  go_ret
  exact ⟨rfl, below_all hbA hb2⟩
end Go.Proofs.Tg
end
section
/- The harness's numbers: the sum of nothing and one digit. -/
namespace Go.Proofs.Tg
open Go.RowKit Go.Gr
set_option maxHeartbeats 1000000
set_option maxRecDepth 100000
theorem dig_info : (Tryz.prog.info? 123).map (fun i => (i.zero, i.size, i.bytes)) = some (some (.int .u32 0), 1, 4) := by kernel_rfl
theorem make_digs (n : Nat) (hn : n ≤ 1000000) (w : World) : (Instr.makeSlice 105 (.int .i64 (n : Int)) (.int .i64 (n : Int))).run Tryz.prog w = .ok (.slice (some ⟨w.heap.size, 0, none⟩) n n) (w.alloc (.cells (madeCells #[.int .u32 0] n) 123)) := by
 obtain ⟨i0, hi, hz0, hz1, hz2⟩ := info_parts dig_info
 have hr := run_make (P := Tryz.prog) w 105 123 i0 (.int .u32 0) Tryz.underlying105 hi hz0 .i64 .i64 n n (by omega) (by omega) (by rw [hz2]; omega) (by omega)
 rw [hz1, Nat.mul_one, Int.toNat_natCast] at hr
 exact hr
end Go.Proofs.Tg
end
section
/- The harness's numbers: one digit divided by one. -/
namespace Go.Proofs.Tg
open Go.RowKit Go.Gr
set_option maxHeartbeats 1000000
set_option maxRecDepth 100000
theorem make_digs1 (w : World) : (Instr.makeSlice 105 (.int .i64 1) (.int .i64 1)).run Tryz.prog w = .ok (.slice (some ⟨w.heap.size, 0, none⟩) 1 1) (w.alloc (.cells #[.int .u32 0] 123)) := by
 have e : madeCells #[Value.int .u32 0] 1 = #[.int .u32 0] := by kernel_rfl
 have := make_digs 1 (by omega) w
 rw [e] at this
 exact this
theorem sdiv_one (A : Option Addr) (c v d : Nat) (w : World) (hA : Digs w A [v]) (hv : v < 4294967296) (hd : d < 4294967296) (hd0 : 0 < d) :
    Calls Tryz.prog 145 #[.slice A 1 c, .int .u32 (d : Nat)] w fun e w' => e = .returned (.tuple #[.slice (some ⟨w.heap.size, 0, none⟩) (tzl [v / d] 1) 1, .int .u32 ((v % d : Nat))]) ∧ Blk w' w.heap.size 123 #[.int .u32 (v / d : Nat)] ∧ Below w.heap.size w w' := by
  have hmk := fun W => make_digs1 W
  obtain ⟨ad, rfl, hc⟩ := Digs.at hA (k := 0) (by simp)
  have hc : w.cell? ad = some (.int .u32 (v : Nat)) := by simpa [Addr.add] using hc
  have hlt : ad.block < w.heap.size := World.block_lt_of_cell? w _ hc
  have ho : bits BinOp.or IntKind.u64 0 (v : Int) = (v : Int) := by
   simp [bits]
   have e : (2 : Int) ^ IntKind.u64.bits = 18446744073709551616 := by decide
   rw [e, Int.emod_eq_of_lt (by omega) (by omega)]
   exact wrap_nat v (by omega)
  have hle : v / d ≤ v := Nat.div_le_self _ _
  have hml : v % d < d := Nat.mod_lt _ hd0
  obtain ⟨q, hq⟩ : ∃ q, v / d = q := ⟨_, rfl⟩
  obtain ⟨r, hr⟩ : ∃ r, v % d = r := ⟨_, rfl⟩
  have hq1 : (v : Int) / (d : Int) = (q : Int) := by rw [← hq]; simp
  have hr1 : (v : Int) % (d : Int) = (r : Int) := by rw [← hr]; simp
  rw [hq, hr]
  rw [hq] at hle
  rw [hr] at hml
  clear hq hr
  have hq2 : (q : Int) % 4294967296 = (q : Int) := Int.emod_eq_of_lt (by omega) (by omega)
  have hr2 : (r : Int) % 4294967296 = (r : Int) := Int.emod_eq_of_lt (by omega) (by omega)
  have hq3 := wrap_nat q (by omega)
  have hB2 := Blk.new w 123 #[.int .u32 (q : Nat)]
  have hbA : Below w.heap.size w (w.alloc (.cells #[.int .u32 (q : Nat)] 123)) := (Below.refl _ _).alloc (Nat.le_refl _) _
  have hD : Digs (w.alloc (.cells #[.int .u32 (q : Nat)] 123)) (some ⟨w.heap.size, 0, none⟩) [q] := digs_of hB2
  have HT := Lib.hid (trim_any (some ⟨w.heap.size, 0, none⟩) 1 [q] _ hD (by simp) (by simp))
  have HB2 := Lib.hid hB2
  clear hD hB2
  go_enter Tryz.func145, Tryz.ntmps145
  go_wp2
  refine wp_loop_rounds 2 ?_
  rw [rounds_succ]
  go_wp2_with (fail)
  rw [rounds_succ]
  go_wp2_with (fail)
  refine HT.out.mono ?_
  rintro e _ ⟨rfl, rfl⟩
  go_wp2
  go_ret2
  exact ⟨rfl, HB2.out, hbA⟩
end Go.Proofs.Tg
end
section
/- Walks of the reference: monomials, sign vectors, inner products, the check. -/
namespace Go.Proofs.Tg
open Go.RowKit Go.Gr Go.Ev Go.Mo
set_option maxHeartbeats 2000000
set_option maxRecDepth 100000
theorem rdeg_any (A : Option Addr) (c : Nat) (m : List Int) (w : World) (hA : Ints w A m) (hn : m.length ≤ 1000) :
    Calls Tryz.prog 89 #[.slice A m.length c] w fun e w' => e = .returned (.int .i64 (degM m)) ∧ w = w' := by
  by_cases hl : m.length ≤ 6
  ·have hd : decide ((6 : Int) < (m.length : Int)) = false := by simp; omega
   go_enter Tryz.func89, Tryz.ntmps89
   go_wp2
   go_loop [3, 4] (fun s i => ∃ k : Nat, k ≤ m.length ∧ i = .int .i64 k ∧ ∃ z : Int, s = .int .i64 z ∧ 0 ≤ z ∧ z ≤ 24 ∧ Hid (z = (m.take k).sum ∧ ∀ e ∈ m.take k, 0 ≤ e)) (fun _ i => m.length - (intOf i).toNat)
   case atStart => exact ⟨0, Nat.zero_le _, rfl, 0, rfl, by omega, by omega, Lib.hid ⟨rfl, by simp⟩⟩
   case round =>
    obtain ⟨k, hk, rfl, z, rfl, hz0, hz1, HZ⟩ := hrel
    by_cases hlt : k < m.length
    ·obtain ⟨ad, rfl, hc⟩ := Ints.at hA hlt
     have HS : Hid ((m.take (k + 1)).sum = z + m[k]) := Lib.hid (by rw [sum_take_succ m k hlt, ← HZ.out.1])
     have HB : Hid (m[k] < 0 ∨ 24 - z < m[k] → vldM m = false) := Lib.hid (fun h => vldM_bad hlt (by rw [← HZ.out.1]; exact h))
     have HT : Hid (m.take (k + 1) = m.take k ++ [m[k]]) := Lib.hid (List.take_succ_eq_append_getElem hlt)
     clear hA
     generalize m[k] = x at hc HS HB HT
     by_cases h1 : x < 0
     ·have b1 : decide (x < 0) = true := by simpa using h1
      have HF : Hid (degM m = -1) := Lib.hid (by unfold degM; rw [HB.out (.inl h1)]; rfl)
      go_wp2
      go_ret
      exact ⟨by rw [HF.out]; rfl, rfl⟩
     ·have b1 : decide (x < 0) = false := by simpa using h1
      by_cases h2 : 24 - z < x
      ·have b2 : decide (24 - z < x) = true := by simpa using h2
       have HF : Hid (degM m = -1) := Lib.hid (by unfold degM; rw [HB.out (.inr h2)]; rfl)
       go_wp2
       go_ret
       exact ⟨by rw [HF.out]; rfl, rfl⟩
      ·have b2 : decide (24 - z < x) = false := by simpa using h2
       go_wp2
       go_round
       case rel =>
        refine ⟨k + 1, by omega, by go_num, z + x, rfl, by omega, by omega, Lib.hid ⟨HS.out.symm, fun e he => ?_⟩⟩
        rw [HT.out] at he
        rcases List.mem_append.1 he with he | he
        ·exact HZ.out.2 e he
        ·simp at he; omega
       case measure => simp [intOf]; omega
    ·obtain rfl : k = m.length := by omega
     have HF : Hid (degM m = z) := Lib.hid (by
      have h := HZ.out
      rw [List.take_length] at h
      unfold degM
      rw [if_pos (vldM_iff.2 ⟨hl, h.2, by omega⟩), h.1])
     go_wp2
     go_ret
     exact ⟨by rw [HF.out]; rfl, rfl⟩
  ·have hd : decide ((6 : Int) < (m.length : Int)) = true := by simp; omega
   have HF : Hid (degM m = -1) := Lib.hid (by
    unfold degM
    rw [if_neg (by rw [vldM_iff]; exact fun h => hl h.1)])
   go_enter Tryz.func89, Tryz.ntmps89
   go_wp2
   go_ret
   exact ⟨by rw [HF.out]; rfl, rfl⟩
theorem rvalid_any (A : Option Addr) (c : Nat) (m : List Int) (w : World) (hA : Ints w A m) (hn : m.length ≤ 1000) :
    Calls Tryz.prog 67 #[.slice A m.length c] w fun e w' => e = .returned (.bool (vldM m)) ∧ w = w' := by
  have HD : Hid (decide (0 ≤ degM m) = vldM m) := Lib.hid degM_ge
  have HC := Lib.hid (rdeg_any A c m w hA hn)
  by_cases hl : m.length ≤ 6
  ·have hd : decide ((m.length : Int) ≤ 6) = true := by simp; omega
   generalize degM m = z at *
   go_enter Tryz.func67, Tryz.ntmps67
   go_wp2_with (go_at_call 89; refine HC.out.mono ?_; rintro e w' ⟨rfl, rfl⟩)
   go_ret
   exact ⟨by rw [← HD.out]; rfl, rfl⟩
  ·have hd : decide ((m.length : Int) ≤ 6) = false := by simp; omega
   have HF : Hid (vldM m = false) := Lib.hid (eq_false_of_ne_true (by rw [vldM_iff]; exact fun h => hl h.1))
   go_enter Tryz.func67, Tryz.ntmps67
   go_wp2
   go_ret
   exact ⟨by rw [HF.out]; rfl, rfl⟩
end Go.Proofs.Tg
end
section
/- The harness's numbers: how many bits a number of at most one digit has. -/
namespace Go.Proofs.Tg
open Go.RowKit Go.Gr
set_option maxHeartbeats 1000000
set_option maxRecDepth 100000
/-- The bits of v, counted by halving. -/
def blen (v : Nat) : Nat := if v = 0 then 0 else blen (v / 2) + 1
termination_by v
decreasing_by omega
theorem blen_zero : blen 0 = 0 := by unfold blen; simp
theorem blen_pos {v : Nat} (h : v ≠ 0) : blen v = blen (v / 2) + 1 := by rw [blen]; simp [h]
theorem blen_one {v : Nat} : blen v = 1 ↔ v = 1 := by
 by_cases h : v = 0
 ·subst h; rw [blen_zero]
 ·rw [blen_pos h]
  by_cases h2 : v / 2 = 0
  ·rw [h2, blen_zero]; omega
  ·rw [blen_pos h2]; omega
theorem blen_gt {v : Nat} : 1 < blen v ↔ 1 < v := by
 by_cases h : v = 0
 ·subst h; rw [blen_zero]
 ·rw [blen_pos h]
  by_cases h2 : v / 2 = 0
  ·rw [h2, blen_zero]; omega
  ·rw [blen_pos h2]; omega
theorem blen_le : ∀ (n v : Nat), v ≤ n → blen v ≤ v
  | 0, v, h => by
    obtain rfl : v = 0 := by omega
    rw [blen_zero]; exact Nat.le_refl _
  | n + 1, v, h => by
    by_cases h0 : v = 0
    ·subst h0; rw [blen_zero]; exact Nat.le_refl _
    ·rw [blen_pos h0]
     have := blen_le n (v / 2) (by omega)
     omega
theorem bits_one (b : Bool) (A : Option Addr) (c v : Nat) (w : World) (hA : Digs w A [v]) (hv : v < 4294967296) :
    Calls Tryz.prog 124 #[.agg #[.bool b, .slice A 1 c]] w fun e w' => e = .returned (.int .i64 (blen v : Nat)) ∧ Below w.heap.size w w' := by
  have hbA : Below w.heap.size w (w.alloc (.cells #[.bool b, .slice A 1 c] 107)) := (Below.refl _ _).alloc (Nat.le_refl _) _
  obtain ⟨ad, rfl, ha⟩ := Digs.at hA (k := 0) (by simp)
  have ha : w.cell? ad = some (.int .u32 (v : Nat)) := by simpa [Addr.add] using ha
  have hlt : ad.block < w.heap.size := World.block_lt_of_cell? w _ ha
  have hle := blen_le v v (Nat.le_refl _)
  obtain ⟨q, hq⟩ : ∃ q, blen v = q := ⟨_, rfl⟩
  rw [hq] at hle ⊢
  have HQ := Lib.hid hq
  clear hA hq
  go_enter Tryz.func124, Tryz.ntmps124
  go_wp2
  go_loop [3, 4] (fun s3 s4 => ∃ k x : Nat, s3 = .int .i64 k ∧ s4 = .int .u32 x ∧ x < 4294967296 ∧ k ≤ q ∧ Hid (k + blen x = q)) (fun _ s4 => (intOf s4).toNat)
  case atStart => exact ⟨0, v, rfl, rfl, hv, Nat.zero_le _, Lib.hid (by rw [HQ.out]; omega)⟩
  case round =>
   obtain ⟨k, x, rfl, rfl, hx, hk, HK⟩ := hrel
   by_cases h0 : x = 0
   ·subst h0
    obtain rfl : k = q := by have := HK.out; rw [blen_zero] at this; omega
    go_wp2
    go_ret
    exact ⟨rfl, hbA⟩
   ·have hd : decide ((0 : Int) < (x : Int)) = true := by simp; omega
    have hd' : decide (0 < x) = true := by simp; omega
    have HK2 : Hid (k + 1 + blen (x / 2) = q) := Lib.hid (by have := HK.out; rw [blen_pos h0] at this; omega)
    have hk1 : k + 1 ≤ q := by have := HK2.out; omega
    have hx2 : (x : Int).fdiv (2 ^ min (Int.toNat 1) IntKind.u32.bits) = ((x / 2 : Nat) : Int) := by
     have e : (2 : Int) ^ min (Int.toNat 1) IntKind.u32.bits = 2 := by decide
     rw [e, Int.fdiv_eq_ediv_of_nonneg _ (by omega)]; simp
    go_wp2
    go_round
    case rel => exact ⟨k + 1, x / 2, by go_num, by simp, by omega, hk1, HK2⟩
    case measure => simp [intOf]; omega
end Go.Proofs.Tg
end
section
/- The harness's numbers: divMag of numbers of one digit. -/
namespace Go.Proofs.Tg
open Go.RowKit Go.Gr
set_option maxHeartbeats 1000000
set_option maxRecDepth 100000
/-- The digits of a number below 2^32. -/
def mg (v : Nat) : List Nat := if v = 0 then [] else [v]
theorem mg_zero : mg 0 = [] := rfl
theorem mg_pos {v : Nat} (h : v ≠ 0) : mg v = [v] := if_neg h
end Go.Proofs.Tg
end
section
/- The harness's numbers: quotient and remainder with signs; fractions in lowest terms. -/
namespace Go.Proofs.Tg
open Go.RowKit Go.Gr
set_option maxHeartbeats 2000000
set_option maxRecDepth 100000
def dl (x : Nat) : List Nat := if x = 1 then [] else mg x
end Go.Proofs.Tg
end
section
/- The harness's numbers: the decimal digits of a number below 10^9. -/
namespace Go.Proofs.Tg
open Go.RowKit Go.Gr Go.Qn
set_option maxHeartbeats 2000000
set_option maxRecDepth 100000
def ddg (v : Nat) : List UInt8 := if v = 0 then [] else Lib.decDigits v
theorem ddg_step (x r : Nat) (hr : r < 10) (h : ¬ (x = 0 ∧ r = 0)) : ddg (10 * x + r) = ddg x ++ [UInt8.ofNat (48 + r)] := by
 unfold ddg
 rw [if_neg (by omega)]
 by_cases h0 : x = 0
 ·subst h0
  rw [if_pos rfl, Lib.decDigits, dif_pos (by omega)]; simp
 ·rw [if_neg h0, Lib.decDigits, dif_neg (by omega), show (10 * x + r) / 10 = x by omega, show (10 * x + r) % 10 = r by omega]
theorem pow_split (v j : Nat) : v / 10 ^ j = 10 * (v / 10 ^ (j + 1)) + v / 10 ^ j % 10 := by
 have : v / 10 ^ (j + 1) = v / 10 ^ j / 10 := by rw [Nat.pow_succ, Nat.div_div_eq_div_mul]
 rw [this]; omega
theorem digits_nil (b : Bool) (A : Option Addr) (c : Nat) (w : World) :
    Calls Tryz.prog 128 #[.agg #[.bool b, .slice A 0 c]] w fun e w' => e = .returned (.string ⟨#[48]⟩) ∧ Below w.heap.size w w' := by
  have hbA : Below w.heap.size w (w.alloc (.cells #[.bool b, .slice A 0 c] 107)) := (Below.refl _ _).alloc (Nat.le_refl _) _
  go_enter Tryz.func128, Tryz.ntmps128
  go_wp2
  go_ret
  exact ⟨rfl, hbA⟩
theorem digits_one (b : Bool) (A : Option Addr) (c v : Nat) (w : World) (hA : Digs w A [v]) (hv : v < 1000000000) (hv0 : v ≠ 0) :
    Calls Tryz.prog 128 #[.agg #[.bool b, .slice A 1 c]] w fun e w' => e = .returned (.string (bs (Lib.decDigits v))) ∧ Below w.heap.size w w' := by
  have hbA : Below w.heap.size w (w.alloc (.cells #[.bool b, .slice A 1 c] 107)) := (Below.refl _ _).alloc (Nat.le_refl _) _
  have HDV : Hid (ddg v = Lib.decDigits v) := Lib.hid (by unfold ddg; rw [if_neg hv0])
  have HS : Hid (∀ W, Below w.heap.size w W → Calls Tryz.prog 145 #[.slice A 1 c, .int .u32 1000000000] W fun e w' => e = .returned (.tuple #[.slice (some ⟨W.heap.size, 0, none⟩) 0 1, .int .u32 (v : Nat)]) ∧ Below W.heap.size W w') := Lib.hid (fun W hW => by
   have h1 := sdiv_one A c v 1000000000 W (hA.keep hW) (by omega) (by omega) (by omega)
   rw [Nat.div_eq_of_lt hv, Nat.mod_eq_of_lt hv] at h1
   exact h1.mono fun e w' ⟨h1, _, h3⟩ => ⟨h1, h3⟩)
  obtain ⟨i0, hi, hz0, hz1, hz2⟩ := info_parts dig_info
  obtain ⟨ib, hib, hbz0, hbz1, hbz2⟩ := info_parts byte_info
  clear hA hv0
  go_enter Tryz.func128, Tryz.ntmps128
  go_wp2
  refine wp_loop_rounds 2 ?_
  rw [rounds_succ]
  go_wp2_with (first
    | (go_at_call 145; refine (HS.out _ hbA).mono ?_; rintro e w1 ⟨rfl, hb1⟩; have hs1 : w.heap.size + 1 ≤ w1.heap.size := by (have := hb1.size; simpa using this))
    | (at_builtin; refine wpList_append_own _ rfl _ _ 105 rfl w.heap.size 123 i0 (.int .u32 0) 1 4 Tryz.underlying105 hi hz0 hz1 hz2 rfl (by decide) (.slice none 0 0) 0 [] rfl (World.ownsRow_nil _ _ _ _) ⟨w1.heap.size, 0, none⟩ 1 1 [.int .u32 v] rfl rfl ?c1 ?c2 ?c3 ?c4 ?c5 ?_
       case c1 => exact cell_one_new _ _ _
       case c2 => simp [Value.oneCell']
       case c3 => simp only [maxLen]; omega
       case c4 => omega
       case c5 => simp; omega
       intro v' w2 hown' hgrow _
       obtain ⟨R, cr, hvv, hcr, hS⟩ := Sl.of_own hown'
       subst hvv))
  have hb1' := hbA.trans (hb1.mono (by simp))
  have hb2 : Below w.heap.size w w2 := (hb1'.alloc hb1'.size _).grown hgrow (by simp; have := hb1'.size; omega) (fun k hk => by simp [Value.ownBlock] at hk)
  obtain ⟨pd, rfl, hp0⟩ := Sl.at1 hS (k := 0) (by simp)
  have hp : w2.cell? pd = some (.int .u32 (v : Nat)) := by simpa [Addr.add] using hp0
  clear hp0
  clear hgrow hS hb1 hb1' hbA
  rw [rounds_succ]
  go_wp2
  refine wp_loop_rounds 2 ?_
  rw [rounds_succ]
  go_wp2
  go_loopw [7, 9] (fun s7 s9 wr => ∃ (j dv : Nat) (O : Option Addr) (co : Nat) (L : List UInt8), s7 = .slice O L.length co ∧ s9 = .int .u32 dv ∧ j ≤ 9 ∧ dv ≤ 100000000 ∧ Hid (dv = 10 ^ j / 10) ∧ Hid (L = ddg (v / 10 ^ j)) ∧ L.length + j ≤ 9 ∧ wr.ownsRow w2.heap.size 5 1 (.slice O L.length co) L.length (L.map vb) ∧ Below w2.heap.size w2 wr) (fun _ s9 _ => (intOf s9).toNat)
  case atStart => exact ⟨9, 100000000, none, 0, [], rfl, rfl, by omega, by omega, Lib.hid (by decide), Lib.hid (by rw [Nat.div_eq_of_lt (by simpa using hv)]; rfl), by simp, World.ownsRow_nil _ _ _ _, Below.refl _ _⟩
  case round =>
   obtain ⟨wo, rfl⟩ : ∃ wo : World, wo = wr := ⟨_, rfl⟩
   obtain ⟨j, dv, O, co, L, rfl, rfl, hj, hdv, HDD, HL, hLj, hown, hbr⟩ := hrel
   cases j with
   | zero =>
     obtain rfl : dv = 0 := HDD.out
     obtain ⟨O', co', hvv, hcc, hS⟩ := Sl.of_own hown
     injection hvv with e1 e2 e3
     subst e1 e3
     have hconv := conv_name wo O co L hS
     have HF : Hid (L = Lib.decDigits v) := Lib.hid (by rw [HL.out, Nat.pow_zero, Nat.div_one, HDV.out])
     clear hown hS hcc
     go_wp2
     rw [rounds_succ]
     go_wp2
     go_ret
     have hf := HF.out
     subst hf
     exact ⟨rfl, below_all hb2 hbr⟩
   | succ j =>
     have e10 : 10 ^ (j + 1) / 10 = 10 ^ j := by rw [Nat.pow_succ]; omega
     have hpos : 0 < 10 ^ j := Nat.pow_pos (by omega)
     have hdv' := HDD.out
     rw [e10] at hdv'
     have hdp : 0 < dv := by omega
     have HPS := Lib.hid (pow_split v j)
     have hrl : v / dv % 10 < 10 := Nat.mod_lt _ (by omega)
     have hql : v / dv ≤ v := Nat.div_le_self _ _
     rw [← hdv'] at HPS
     have HDV2 := Lib.hid hdv'
     clear hdv' hpos e10
     obtain ⟨q, hq⟩ : ∃ q, v / dv = q := ⟨_, rfl⟩
     obtain ⟨r, hr⟩ : ∃ r, q % 10 = r := ⟨_, rfl⟩
     have hq1 : (v : Int) / (dv : Int) = (q : Int) := by rw [← hq]; simp
     have hr1 : (q : Int) % 10 = (r : Int) := by rw [← hr]; simp
     rw [hq, hr] at HPS hrl
     rw [hq] at hql
     have HQ : Hid (v / 10 ^ j = q) := Lib.hid (by rw [← HDV2.out]; exact hq)
     obtain ⟨x, hx⟩ : ∃ x, v / 10 ^ (j + 1) = x := ⟨_, rfl⟩
     rw [hx] at HL HPS
     clear hx hq hr
     have hcp := keep_cell hbr hp
     have hwr : ((48 : Int) + (r : Int)) % 4294967296 = 48 + (r : Int) := by omega
     have hw8 : ((48 : Int) + (r : Int)) % 256 = 48 + (r : Int) := by omega
     obtain ⟨dn, hdn⟩ : ∃ dn, dv / 10 = dn := ⟨_, rfl⟩
     have HDN : Hid (dn = 10 ^ j / 10) := Lib.hid (by rw [← hdn, HDV2.out])
     have hdn1 : (dv : Int).tdiv 10 = (dn : Int) := by rw [← hdn]; exact (Int.ofNat_tdiv dv 10).symm
     have hdn2 : (dv : Int) / 10 = (dn : Int) := by rw [← hdn]; simp
     have hdnl : dn < dv := by omega
     clear hdn
     have HX0 : Hid (L = [] ↔ x = 0) := Lib.hid (by
      rw [HL.out]
      unfold ddg
      by_cases h : x = 0
      ·simp [h]
      ·simp only [h, iff_false]
       exact Qn.dec_ne x)
     have hsz := hbr.size
     by_cases hz : x = 0 ∧ r = 0
     ·have HL2 : Hid (L = ddg (v / 10 ^ j)) := Lib.hid (by rw [HQ.out, HPS.out, HL.out, hz.1, hz.2])
      have hL0 := HX0.out.2 hz.1
      have hd0 : decide ((0 : Int) < (L.length : Int)) = false := by rw [hL0]; rfl
      have hd0' : decide (0 < L.length) = false := by rw [hL0]; rfl
      have hr0 : ((48 : Int) + (r : Int) != 48) = false := by rw [hz.2]; rfl
      clear HL HPS hL0 hz
      go_wp2
      go_roundw
      case rel => exact ⟨j, dn, O, co, L, rfl, rfl, by omega, by omega, HDN, HL2, by omega, hown, hbr⟩
      case measure => simp [intOf]; omega
     ·have HL2 : Hid (L ++ [UInt8.ofNat (48 + r)] = ddg (v / 10 ^ j)) := Lib.hid (by rw [HQ.out, HPS.out, ddg_step x r hrl hz, HL.out])
      have hvb : Value.int .u8 (48 + (r : Int)) = vb (UInt8.ofNat (48 + r)) := by
       have : (UInt8.ofNat (48 + r)).toNat = 48 + r := Qn.toNat_ofNat _ (by omega)
       unfold vb; rw [this]; simp
      have HVB := Lib.hid hvb
      clear hvb
      by_cases hL0 : L = []
      ·have hr0 : ((48 : Int) + (r : Int) != 48) = true := by
        have hx0 := HX0.out.1 hL0
        simp; omega
       have hd0 : decide ((0 : Int) < (L.length : Int)) = false := by rw [hL0]; rfl
       have hd0' : decide (0 < L.length) = false := by rw [hL0]; rfl
       clear HL HPS hz hL0
       go_wp2_with (at_builtin; refine wpList_append_own _ rfl _ _ 175 rfl w2.heap.size 5 ib (.int .u8 0) 1 1 Tryz.underlying175 hib hbz0 hbz1 hbz2 rfl (by decide) (.slice O L.length co) L.length (L.map vb) rfl (hown.alloc _) ⟨wo.heap.size, 0, none⟩ 1 1 [.int .u8 (48 + (r : Int))] rfl rfl ?c1 ?c2 ?c3 ?c4 ?c5 ?_
                    case c1 => exact cell_one_new _ _ _
                    case c2 => simp [Value.oneCell']
                    case c3 => simp only [maxLen]; omega
                    case c4 => omega
                    case c5 => simp; omega
                    intro v' w3 hown' hgrow _)
       obtain ⟨R, cr2, hvv, hcr2, hS⟩ := Sl.of_own hown'
       subst hvv
       go_roundw
       case rel =>
        refine ⟨j, dn, R, cr2, L ++ [UInt8.ofNat (48 + r)], by simp, rfl, by omega, by omega, HDN, HL2, by simp; omega, ?_, ?_⟩
        ·rw [HVB.out] at hown'
         simpa using hown'
        ·exact (hbr.alloc hbr.size _).grown hgrow (by simp; omega) (fun j hj => (hown.lt j hj).1)
       case measure => simp [intOf]; omega
      ·have hLp : 0 < L.length := List.length_pos_iff.2 hL0
       have hd0 : decide ((0 : Int) < (L.length : Int)) = true := by simp; omega
       have hd0' : decide (0 < L.length) = true := by simp; omega
       clear HL HPS hz hL0
       go_wp2_with (at_builtin; refine wpList_append_own _ rfl _ _ 175 rfl w2.heap.size 5 ib (.int .u8 0) 1 1 Tryz.underlying175 hib hbz0 hbz1 hbz2 rfl (by decide) (.slice O L.length co) L.length (L.map vb) rfl (hown.alloc _) ⟨wo.heap.size, 0, none⟩ 1 1 [.int .u8 (48 + (r : Int))] rfl rfl ?c1 ?c2 ?c3 ?c4 ?c5 ?_
                    case c1 => exact cell_one_new _ _ _
                    case c2 => simp [Value.oneCell']
                    case c3 => simp only [maxLen]; omega
                    case c4 => omega
                    case c5 => simp; omega
                    intro v' w3 hown' hgrow _)
       obtain ⟨R, cr2, hvv, hcr2, hS⟩ := Sl.of_own hown'
       subst hvv
       go_roundw
       case rel =>
        refine ⟨j, dn, R, cr2, L ++ [UInt8.ofNat (48 + r)], by simp, rfl, by omega, by omega, HDN, HL2, by simp; omega, ?_, ?_⟩
        ·rw [HVB.out] at hown'
         simpa using hown'
        ·exact (hbr.alloc hbr.size _).grown hgrow (by simp; omega) (fun j hj => (hown.lt j hj).1)
       case measure => simp [intOf]; omega
end Go.Proofs.Tg
end
