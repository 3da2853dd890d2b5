/- Parts of the proof: E2, WB1, NU1, NU2, NU3, NU4, N1. -/
import Derived.Laws.ShiftsVarLaws
import Derived.Lib.ItoaNum
import Derived.Test.YtpkompfkhoceoaaGreatDoorMMV0
section
/- Parities: the inner product modulo 2 of a list of exponents and a sign vector, by sums and by bits. Plain numbers. -/
namespace Go.Ev
open Go.Gr
def pr (row : List Int) (x : Nat) : Nat → Nat
  | 0 => 0
  | i + 1 => pr row x i + (if x.testBit i = true then (row.getD i 0).toNat else 0)
/-- The sign vectors of n variables that are orthogonal to all rows. -/
def V (rows : List (List Int)) (n x : Nat) : Prop := x < 2 ^ n ∧ ∀ row ∈ rows, pr row x n % 2 = 0
/-- A list of numbers as bits: bit i is the parity of number i. -/
def pk (l : List Int) : Nat → Nat
  | 0 => 0
  | k + 1 => pk l k ^^^ (((l.getD k 0).toNat % 2) <<< k)
/-- A list of zeros and ones. -/
def Bit01 (s : List Int) : Prop := ∀ x ∈ s, x = 0 ∨ x = 1
end Go.Ev
end
section
/- Walks: sign vectors as bits. -/
namespace Go.Proofs.Tg
open Go.RowKit Go.Gr
set_option maxHeartbeats 1000000
set_option maxRecDepth 100000
theorem int_info : (Tryz.prog.info? 3).map (fun i => (i.zero, i.size, i.bytes)) = some (some (.int .i64 0), 1, 8) := by kernel_rfl
theorem make_ints (l n : Nat) (hl : l ≤ n) (hn : n ≤ 1000000) (w : World) : (Instr.makeSlice 41 (.int .i64 (l : Int)) (.int .i64 (n : Int))).run Tryz.prog w = .ok (.slice (some ⟨w.heap.size, 0, none⟩) l n) (w.alloc (.cells (madeCells #[.int .i64 0] n) 3)) := by
  obtain ⟨i0, hi, hz0, hz1, hz2⟩ := info_parts int_info
  have hr := run_make (P := Tryz.prog) w 41 3 i0 (.int .i64 0) Tryz.underlying41 hi hz0 .i64 .i64 l n (by omega) (by omega) (by rw [hz2]; omega) (by omega)
  rw [hz1, Nat.mul_one, Int.toNat_natCast, Int.toNat_natCast] at hr
  exact hr
end Go.Proofs.Tg
end
section
/- The harness's numbers: trim. -/
namespace Go.Proofs.Tg
open Go.RowKit Go.Gr
set_option maxHeartbeats 4000000
set_option maxRecDepth 100000
def vd (x : Nat) : Value := .int .u32 (x : Nat)
/-- A slice of digits, which lies in a block of digits. -/
structure Digs (w : World) (A : Option Addr) (xs : List Nat) : Prop where
  sl : Sl w A xs.length 1 (xs.map vd)
  u32 : 0 < xs.length → ∀ ad, A = some ad → ∃ cs fz, w.heap[ad.block]? = some (.cells cs 137 fz)
theorem Digs.nil (w : World) (A : Option Addr) : Digs w A [] := ⟨Sl.nil _ _ _, fun h => absurd h (by simp)⟩
theorem Digs.keep {w w' : World} {A : Option Addr} {xs : List Nat} (h : Digs w A xs) (hb : Below w.heap.size w w') : Digs w' A xs :=
  ⟨h.sl.keep hb, fun hp ad e => by
    obtain ⟨cs, fz, hc⟩ := h.u32 hp ad e
    exact ⟨cs, fz, (hb.block _ (Array.getElem?_eq_some_iff.1 hc).1).trans hc⟩⟩
theorem Digs.at {w : World} {A : Option Addr} {xs : List Nat} (h : Digs w A xs) {k : Nat} (hk : k < xs.length) : ∃ ad, A = some ad ∧ w.cell? (ad.add k) = some (.int .u32 (xs[k] : Nat)) := by
  obtain ⟨ad, rfl, hc⟩ := Sl.at1 h.sl hk
  exact ⟨ad, rfl, by simpa [vd] using hc⟩
theorem Digs.take {w : World} {A : Option Addr} {xs : List Nat} (h : Digs w A xs) (k : Nat) (hk : k ≤ xs.length) : Digs w A (xs.take k) := by
  have hl : (xs.take k).length = k := by rw [List.length_take]; omega
  refine ⟨⟨by simp, fun hp => ?_⟩, fun hp => h.u32 (by omega)⟩
  rw [hl] at hp
  obtain ⟨ad, rfl, hlt, ha⟩ := h.sl.lies (by omega)
  refine ⟨ad, rfl, hlt, fun j u hu => ha j u ?_⟩
  have hj := (List.getElem?_eq_some_iff.1 hu).1
  rw [List.length_map, hl] at hj
  rw [List.getElem?_map] at hu ⊢
  rwa [List.getElem?_take_of_lt hj] at hu
/-- The first cells of a block of digits. -/
theorem digs_pre {w : World} {g : Nat} {cs : Array Value} {xs : List Nat} (h : Blk w g 137 cs) (hx : ∀ (j : Nat) u, (xs.map vd)[j]? = some u → cs[j]? = some u) : Digs w (some ⟨g, 0, none⟩) xs :=
  ⟨⟨by simp, fun _ => ⟨_, rfl, h.lt, fun j u hu => by rw [add_lit, Nat.zero_add, h.cell j]; exact hx j u hu⟩⟩, fun _ ad e => by
    injection e with e
    subst e
    exact ⟨cs, (0, 0), h⟩⟩
theorem digs_of {w : World} {g : Nat} {xs : List Nat} (h : Blk w g 137 (xs.map vd).toArray) : Digs w (some ⟨g, 0, none⟩) xs := digs_pre h (fun j u hu => by simpa using hu)
theorem digs_own {w : World} {b n c : Nat} {A : Option Addr} {xs : List Nat} (h : w.ownsRow b 137 1 (.slice A n c) n (xs.map vd)) (hn : n = xs.length) : Digs w A xs := by
  subst hn
  refine ⟨Sl.own h, fun hp ad e => ?_⟩
  rcases h.2 with ⟨h1, h2⟩ | ⟨g, cap, cur, h1, _, hg, _⟩
  · injection h1 with h1
    rw [e] at h1; cases h1
  · injection h1 with h1
    rw [e] at h1
    injection h1 with h1
    subst h1
    exact ⟨cur, (0, 0), hg⟩
theorem Digs.off {w : World} {A : Option Addr} {g : Nat} {t : TypeId} {xs : List Nat} {cs : Array Value} (h : Digs w A xs) (_ : 0 < 1) (B : Blk w g t cs) (hd : ∀ v ∈ cs.toList, v ∉ xs.map vd) : Off A xs.length g := Sl.off h.sl (by omega) B hd
theorem Digs.far {w : World} {A : Option Addr} {g : Nat} {xs : List Nat} (h : Digs w A xs) (ho : Off A xs.length g) (i : Nat) (u : Value) : Digs (w.setCell ⟨g, i, none⟩ u) A xs :=
  ⟨Sl.far h.sl ho i u, fun hp ad e => by
    obtain ⟨cs, fz, hc⟩ := h.u32 hp ad e
    refine ⟨cs, fz, ?_⟩
    rw [Below.heap_setCell _ _ _ _ (ho hp ad e)]
    exact hc⟩
theorem Digs.put {w : World} {A : Option Addr} {xs : List Nat} (h : Digs w A xs) {p : Addr} {v : Value} (hp : w.cell? p = some v) (hv : v ∉ xs.map vd) (u : Value) : Digs (w.setCell p u) A xs :=
  ⟨Sl.put h.sl hp hv u, fun hl ad e => by
    obtain ⟨cs, fz, hc⟩ := h.u32 hl ad e
    by_cases hg : ad.block = p.block
    · refine ⟨if p.spot.isSome then cs else cs.setIfInBounds p.off u, fz, ?_⟩
      simp [World.setCell, Array.getElem?_modify, ← hg, hc]
    · exact ⟨cs, fz, by rw [Below.heap_setCell _ _ _ _ hg]; exact hc⟩⟩
/-- A block whose elements are of another type. -/
theorem Digs.off_ty {w : World} {A : Option Addr} {g : Nat} {t : TypeId} {xs : List Nat} {cs : Array Value} (h : Digs w A xs) (B : Blk w g t cs) (hne : t ≠ 137) : Off A xs.length g := by
  intro hp ad e hg
  obtain ⟨cs', fz, hc⟩ := h.u32 hp ad e
  rw [hg] at hc
  unfold Blk at B
  rw [B] at hc
  injection hc with hc
  injection hc with _ ht
  exact hne ht
/-- A row of the call's own that grows, of another type. -/
theorem Digs.grown {w w' : World} {A : Option Addr} {ys : List Value} {zs : List Nat} {b sz n : Nat} {t : TypeId} {v : Value} (h : Digs w A zs) (ho : w.ownsRow b t sz v n ys) (hg : w.grownBy w' v.ownBlock) (hne : t ≠ 137) : Digs w' A zs := by
  have key : 0 < zs.length → ∀ ad, A = some ad → some ad.block ≠ v.ownBlock := by
    intro hp ad e he
    obtain ⟨cs', fz, hc⟩ := h.u32 hp ad e
    rcases ho.2 with ⟨rfl, _⟩ | ⟨g, cap, cur, rfl, _, hg', _⟩
    · simp [Value.ownBlock] at he
    · have : ad.block = g := by simpa [Value.ownBlock] using he
      rw [this, hg'] at hc
      injection hc with hc
      injection hc with _ ht
      exact hne ht
  refine ⟨⟨h.sl.len, fun hp => ?_⟩, fun hp ad e => ?_⟩
  · obtain ⟨ad, e, hlt, ha⟩ := h.sl.lies hp
    refine ⟨ad, e, Nat.lt_of_lt_of_le hlt hg.size, fun j u hu => hg.cell (ha j u hu) (by rw [add_block]; exact key hp ad e)⟩
  · obtain ⟨cs, fz, hc⟩ := h.u32 hp ad e
    exact ⟨cs, fz, (hg.block _ (Array.getElem?_eq_some_iff.1 hc).1 (key hp ad e)).trans hc⟩
/-- How many digits are left of the first k when the leading zeros are struck. -/
def tzl (xs : List Nat) : Nat → Nat
  | 0 => 0
  | k + 1 => if xs.getD k 0 = 0 then tzl xs k else k + 1
theorem tzl_le (xs : List Nat) : ∀ k, tzl xs k ≤ k
  | 0 => Nat.le_refl _
  | k + 1 => by
    unfold tzl
    have := tzl_le xs k
    split <;> omega
theorem trim_any (A : Option Addr) (c : Nat) (xs : List Nat) (w : World) (hA : Digs w A xs) (hn : xs.length ≤ 1000000) (hc : xs.length ≤ c) :
    Calls Tryz.prog 79 #[.slice A xs.length c] w fun e w' => e = .returned (.slice A (tzl xs xs.length) c) ∧ w = w' := by
  obtain ⟨r, hr⟩ : ∃ r, tzl xs xs.length = r := ⟨_, rfl⟩
  rw [hr]
  have HR : Hid (tzl xs xs.length = r) := Lib.hid hr
  clear hr
  go_enter Tryz.func79, Tryz.ntmps79
  go_wp2
  go_loop [0] (fun s0 => ∃ k : Nat, s0 = .slice A k c ∧ k ≤ xs.length ∧ Hid (tzl xs k = r)) (fun s0 => match s0 with | .slice _ k _ => k | _ => 0)
  case atStart => exact ⟨xs.length, rfl, Nat.le_refl _, HR⟩
  case round =>
    obtain ⟨k, rfl, hk, HK⟩ := hrel
    cases k with
    | zero =>
      obtain rfl : r = 0 := HK.out.symm
      go_wp2
      go_ret
      exact ⟨rfl, rfl⟩
    | succ k =>
      obtain ⟨ad, rfl, hck⟩ := Digs.at hA (k := k) (by omega)
      have HX : Hid (xs.getD k 0 = xs[k]) := Lib.hid (by simp [show k < xs.length by omega])
      generalize xs[k] = x at hck HX
      by_cases hx : x = 0
      · subst hx
        have HK2 : Hid (tzl xs k = r) := Lib.hid (by have := HK.out; unfold tzl at this; rwa [if_pos HX.out] at this)
        go_wp2
        go_round
        case rel => exact ⟨k, rfl, by omega, HK2⟩
        case measure => simp
      · have hb : ((x : Int) == 0) = false := by simp [hx]
        have hb' : (x == 0) = false := by simp [hx]
        obtain rfl : r = k + 1 := by have := HK.out; unfold tzl at this; rw [if_neg (by rw [HX.out]; exact hx)] at this; exact this.symm
        go_wp2
        go_ret
        exact ⟨rfl, rfl⟩
theorem make1_any (b : Bool) (A : Option Addr) (n c : Nat) (w : World) (v : Bool) (hv : (b && decide (0 < n)) = v) (hn : n ≤ 1000000) :
    Calls Tryz.prog 73 #[.bool b, .slice A n c] w fun e w' => e = .returned (.agg #[.bool v, .slice A n c]) ∧ Below w.heap.size w w' := by
  have hbA : Below w.heap.size w (w.alloc (.cells #[.bool v, .slice A n c] 50)) := (Below.refl _ _).alloc (Nat.le_refl _) _
  have hB := Blk.new w 50 #[.bool v, .slice A n c]
  cases b with
  | false =>
    obtain rfl : v = false := by rw [← hv]; rfl
    obtain ⟨a0, a1, _, _⟩ := hB.two
    go_enter Tryz.func73, Tryz.ntmps73
    go_wp2
    exact bodyPost_ret (v := .agg #[.bool false, .slice A n c]) (by simp [results, Tryz.results73, go_sem, a0, a1]) rfl ⟨rfl, hbA⟩
  | true =>
    obtain rfl : decide (0 < n) = v := by rw [← hv]; rfl
    obtain ⟨a0, a1, _, _⟩ := hB.two
    by_cases h0 : 0 < n
    · have hd : decide ((0 : Int) < (n : Int)) = true := by simp; omega
      have hd' : decide (0 < n) = true := by simp; omega
      rw [hd'] at a0 a1 hbA ⊢
      clear hv hB
      go_enter Tryz.func73, Tryz.ntmps73
      go_wp2
      exact bodyPost_ret (v := .agg #[.bool true, .slice A n c]) (by simp [results, Tryz.results73, go_sem, a0, a1]) rfl ⟨rfl, hbA⟩
    · have hd : decide ((0 : Int) < (n : Int)) = false := by simp; omega
      have hd' : decide (0 < n) = false := by simp; omega
      rw [hd'] at a0 a1 hbA ⊢
      clear hv hB
      go_enter Tryz.func73, Tryz.ntmps73
      go_wp2
      exact bodyPost_ret (v := .agg #[.bool false, .slice A n c]) (by simp [results, Tryz.results73, go_sem, a0, a1]) rfl ⟨rfl, hbA⟩
theorem sign_any (b : Bool) (A : Option Addr) (n c : Nat) (w : World) (hn : n ≤ 1000000) (s : Int) (hs : (if b = true then -1 else if n = 0 then 0 else 1) = s) :
    Calls Tryz.prog 74 #[.agg #[.bool b, .slice A n c]] w fun e w' => e = .returned (.int .i64 s) ∧ Below w.heap.size w w' := by
  have hbA : Below w.heap.size w (w.alloc (.cells #[.bool b, .slice A n c] 50)) := (Below.refl _ _).alloc (Nat.le_refl _) _
  cases b with
  | true =>
    obtain rfl : s = -1 := by rw [← hs]; rfl
    clear hs
    go_enter Tryz.func74, Tryz.ntmps74
    go_wp2
    go_ret
    exact ⟨rfl, hbA⟩
  | false =>
    by_cases h0 : n = 0
    · subst h0
      obtain rfl : s = 0 := by rw [← hs]; rfl
      clear hs
      go_enter Tryz.func74, Tryz.ntmps74
      go_wp2
      go_ret
      exact ⟨rfl, hbA⟩
    · obtain rfl : s = 1 := by rw [← hs, if_neg (by simp), if_neg h0]
      have hz : ((n : Int) == 0) = false := beq_eq_false_iff_ne.2 (by omega)
      have hz' : (n == 0) = false := beq_eq_false_iff_ne.2 h0
      clear h0 hs
      go_enter Tryz.func74, Tryz.ntmps74
      go_wp2
      go_ret
      exact ⟨rfl, hbA⟩
end Go.Proofs.Tg
end
section
/- The harness's numbers: the sign of a fraction. -/
namespace Go.Proofs.Tg
open Go.RowKit Go.Gr
set_option maxHeartbeats 1000000
set_option maxRecDepth 100000
theorem rsign_any (b b2 : Bool) (A A2 : Option Addr) (n c n2 c2 : Nat) (w : World) (hn : n ≤ 1000000) (s : Int) (hs : (if b = true then -1 else if n = 0 then 0 else 1) = s) :
    Calls Tryz.prog 89 #[.agg #[.bool b, .slice A n c, .bool b2, .slice A2 n2 c2]] w fun e w' => e = .returned (.int .i64 s) ∧ Below w.heap.size w w' := by
  have hbA : Below w.heap.size w (w.alloc (.cells #[.bool b, .slice A n c, .bool b2, .slice A2 n2 c2] 52)) := (Below.refl _ _).alloc (Nat.le_refl _) _
  have HS := Lib.hid (fun W => sign_any b A n c W hn s hs)
  clear hs
  go_enter Tryz.func89, Tryz.ntmps89
  go_wp2_with (fail)
  refine (HS.out _).mono ?_
  rintro e w2 ⟨rfl, hb2⟩
  go_wp2
  go_ret
  exact ⟨rfl, below_all hbA hb2⟩
end Go.Proofs.Tg
end
section
/- The harness's numbers: the sum of nothing and one digit. -/
namespace Go.Proofs.Tg
open Go.RowKit Go.Gr
set_option maxHeartbeats 1000000
set_option maxRecDepth 100000
theorem dig_info : (Tryz.prog.info? 137).map (fun i => (i.zero, i.size, i.bytes)) = some (some (.int .u32 0), 1, 4) := by kernel_rfl
theorem make_digs (n : Nat) (hn : n ≤ 1000000) (w : World) : (Instr.makeSlice 48 (.int .i64 (n : Int)) (.int .i64 (n : Int))).run Tryz.prog w = .ok (.slice (some ⟨w.heap.size, 0, none⟩) n n) (w.alloc (.cells (madeCells #[.int .u32 0] n) 137)) := by
  obtain ⟨i0, hi, hz0, hz1, hz2⟩ := info_parts dig_info
  have hr := run_make (P := Tryz.prog) w 48 137 i0 (.int .u32 0) Tryz.underlying48 hi hz0 .i64 .i64 n n (by omega) (by omega) (by rw [hz2]; omega) (by omega)
  rw [hz1, Nat.mul_one, Int.toNat_natCast] at hr
  exact hr
end Go.Proofs.Tg
end
section
/- The harness's numbers: one digit divided by one. -/
namespace Go.Proofs.Tg
open Go.RowKit Go.Gr
set_option maxHeartbeats 1000000
set_option maxRecDepth 100000
theorem make_digs1 (w : World) : (Instr.makeSlice 48 (.int .i64 1) (.int .i64 1)).run Tryz.prog w = .ok (.slice (some ⟨w.heap.size, 0, none⟩) 1 1) (w.alloc (.cells #[.int .u32 0] 137)) := by
  have e : madeCells #[Value.int .u32 0] 1 = #[.int .u32 0] := by kernel_rfl
  have := make_digs 1 (by omega) w
  rw [e] at this
  exact this
theorem sdiv_one (A : Option Addr) (c v d : Nat) (w : World) (hA : Digs w A [v]) (hv : v < 4294967296) (hd : d < 4294967296) (hd0 : 0 < d) :
    Calls Tryz.prog 85 #[.slice A 1 c, .int .u32 (d : Nat)] w fun e w' => e = .returned (.tuple #[.slice (some ⟨w.heap.size, 0, none⟩) (tzl [v / d] 1) 1, .int .u32 ((v % d : Nat))]) ∧ Blk w' w.heap.size 137 #[.int .u32 (v / d : Nat)] ∧ Below w.heap.size w w' := by
  have hmk := fun W => make_digs1 W
  obtain ⟨ad, rfl, hc⟩ := Digs.at hA (k := 0) (by simp)
  have hc : w.cell? ad = some (.int .u32 (v : Nat)) := by simpa [Addr.add] using hc
  have hlt : ad.block < w.heap.size := World.block_lt_of_cell? w _ hc
  have ho : bits BinOp.or IntKind.u64 0 (v : Int) = (v : Int) := by
    simp [bits]
    have e : (2 : Int) ^ IntKind.u64.bits = 18446744073709551616 := by decide
    rw [e, Int.emod_eq_of_lt (by omega) (by omega)]
    exact wrap_nat v (by omega)
  have hle : v / d ≤ v := Nat.div_le_self _ _
  have hml : v % d < d := Nat.mod_lt _ hd0
  obtain ⟨q, hq⟩ : ∃ q, v / d = q := ⟨_, rfl⟩
  obtain ⟨r, hr⟩ : ∃ r, v % d = r := ⟨_, rfl⟩
  have hq1 : (v : Int) / (d : Int) = (q : Int) := by rw [← hq]; simp
  have hr1 : (v : Int) % (d : Int) = (r : Int) := by rw [← hr]; simp
  rw [hq, hr]
  rw [hq] at hle
  rw [hr] at hml
  clear hq hr
  have hq2 : (q : Int) % 4294967296 = (q : Int) := Int.emod_eq_of_lt (by omega) (by omega)
  have hr2 : (r : Int) % 4294967296 = (r : Int) := Int.emod_eq_of_lt (by omega) (by omega)
  have hq3 := wrap_nat q (by omega)
  have hB2 := Blk.new w 137 #[.int .u32 (q : Nat)]
  have hbA : Below w.heap.size w (w.alloc (.cells #[.int .u32 (q : Nat)] 137)) := (Below.refl _ _).alloc (Nat.le_refl _) _
  have hD : Digs (w.alloc (.cells #[.int .u32 (q : Nat)] 137)) (some ⟨w.heap.size, 0, none⟩) [q] := digs_of hB2
  have HT := Lib.hid (trim_any (some ⟨w.heap.size, 0, none⟩) 1 [q] _ hD (by simp) (by simp))
  have HB2 := Lib.hid hB2
  clear hD hB2
  go_enter Tryz.func85, Tryz.ntmps85
  go_wp2
  refine wp_loop_rounds 2 ?_
  rw [rounds_succ]
  go_wp2_with (fail)
  rw [rounds_succ]
  go_wp2_with (fail)
  refine HT.out.mono ?_
  rintro e _ ⟨rfl, rfl⟩
  go_wp2
  go_ret2
  exact ⟨rfl, HB2.out, hbA⟩
end Go.Proofs.Tg
end
section
/- Decimal texts of rational numbers: what the program accepts and what the reference accepts is the same. Plain lists of bytes. -/
namespace Go.Qn
open Go.Lib
def isD (c : UInt8) : Bool := decide (48 ≤ c.toNat) && decide (c.toNat ≤ 57)
def val (l : List UInt8) : Nat := l.foldl (fun n c => 10 * n + (c.toNat - 48)) 0
theorem val_snoc (l : List UInt8) (c : UInt8) : val (l ++ [c]) = 10 * val l + (c.toNat - 48) := by unfold val; rw [List.foldl_append]; rfl
theorem isD_iff {c : UInt8} : isD c = true ↔ 48 ≤ c.toNat ∧ c.toNat ≤ 57 := by unfold isD; simp
theorem snoc_ind {P : List UInt8 → Prop} (h0 : P []) (h1 : ∀ l c, P l → P (l ++ [c])) (l : List UInt8) : P l := by
  have : ∀ l : List UInt8, P l.reverse := by
    intro l
    induction l with
    | nil => exact h0
    | cons c l ih => rw [List.reverse_cons]; exact h1 _ _ ih
  have h := this l.reverse
  rwa [List.reverse_reverse] at h
theorem val_lt (l : List UInt8) (h : ∀ c ∈ l, isD c = true) : val l < 10 ^ l.length := by
  revert h
  refine snoc_ind (P := fun l => (∀ c ∈ l, isD c = true) → val l < 10 ^ l.length) ?_ ?_ l
  · intro _; decide
  · intro l c ih h
    have h1 := ih fun x hx => h x (by simp [hx])
    have h2 := isD_iff.1 (h c (by simp))
    rw [val_snoc, List.length_append, List.length_singleton, Nat.pow_succ]
    omega
theorem toNat_ofNat (n : Nat) (h : n < 256) : (UInt8.ofNat n).toNat = n := by simp; omega
theorem val_dec (n : Nat) : val (decDigits n) = n := by
  induction n using Nat.strongRecOn with
  | _ n ih =>
    by_cases h : n < 10
    · rw [decDigits, dif_pos h]
      show 10 * 0 + ((UInt8.ofNat (48 + n)).toNat - 48) = n
      rw [toNat_ofNat _ (by omega)]; omega
    · rw [decDigits, dif_neg h, val_snoc, ih (n / 10) (by omega), toNat_ofNat _ (by omega)]; omega
theorem dec_allD (n : Nat) : ∀ c ∈ decDigits n, isD c = true := by
  induction n using Nat.strongRecOn with
  | _ n ih =>
    intro c hc
    by_cases h : n < 10
    · rw [decDigits, dif_pos h] at hc
      simp only [List.mem_cons, List.not_mem_nil, or_false] at hc
      subst hc
      rw [isD_iff, toNat_ofNat _ (by omega)]; omega
    · rw [decDigits, dif_neg h] at hc
      rcases List.mem_append.1 hc with hc | hc
      · exact ih (n / 10) (by omega) c hc
      · simp only [List.mem_cons, List.not_mem_nil, or_false] at hc
        subst hc
        rw [isD_iff, toNat_ofNat _ (by omega)]; omega
theorem dec_ne (n : Nat) : decDigits n ≠ [] := by
  rw [decDigits]; split <;> simp
theorem dec_head (n : Nat) (h0 : n ≠ 0) : (decDigits n).head? ≠ some 48 := by
  induction n using Nat.strongRecOn with
  | _ n ih =>
    by_cases h : n < 10
    · rw [decDigits, dif_pos h]
      simp only [List.head?_cons, ne_eq, Option.some.injEq]
      intro e
      have := congrArg UInt8.toNat e
      rw [toNat_ofNat _ (by omega)] at this
      have e2 : (48 : UInt8).toNat = 48 := rfl
      omega
    · rw [decDigits, dif_neg h]
      have := ih (n / 10) (by omega) (by omega)
      rw [List.head?_append]
      cases hh : (decDigits (n / 10)).head? with
      | none => exact absurd (List.head?_eq_none_iff.1 hh) (dec_ne _)
      | some x => rw [hh] at this; simpa using this
theorem dec_zero : decDigits 0 = [48] := by rw [decDigits, dif_pos (by omega)]; rfl
theorem dec_one : decDigits 1 = [49] := by rw [decDigits, dif_pos (by omega)]; rfl
theorem dec_inj {m n : Nat} (h : decDigits m = decDigits n) : m = n := by rw [← val_dec m, h, val_dec]
theorem dec_val (l : List UInt8) (h : ∀ c ∈ l, isD c = true) (hn : l ≠ []) (hz : l.head? ≠ some 48) : decDigits (val l) = l ∧ val l ≠ 0 := by
  revert h hn hz
  refine snoc_ind (P := fun l => (∀ c ∈ l, isD c = true) → l ≠ [] → l.head? ≠ some 48 → decDigits (val l) = l ∧ val l ≠ 0) ?_ ?_ l
  · intro _ h; exact absurd rfl h
  · intro l c ih h _ hz
    have h2 := isD_iff.1 (h c (by simp))
    rw [val_snoc]
    by_cases hl : l = []
    · subst hl
      have hc : c.toNat ≠ 48 := fun e => hz (by
        have : c = 48 := UInt8.toNat_inj.1 (by rw [e]; rfl)
        simp [this])
      refine ⟨?_, by omega⟩
      show decDigits (10 * 0 + (c.toNat - 48)) = [c]
      rw [decDigits, dif_pos (by omega)]
      simp only [List.cons.injEq, and_true]
      apply UInt8.toNat_inj.1
      rw [toNat_ofNat _ (by omega)]; omega
    · have hz' : l.head? ≠ some 48 := by
        rw [List.head?_append] at hz
        cases hh : l.head? with
        | none => simp
        | some x => rw [hh] at hz; simpa using hz
      obtain ⟨h3, h4⟩ := ih (fun x hx => h x (by simp [hx])) hl hz'
      refine ⟨?_, by omega⟩
      rw [decDigits, dif_neg (by omega), show (10 * val l + (c.toNat - 48)) / 10 = val l by omega, h3]
      congr 1
      simp only [List.cons.injEq, and_true]
      apply UInt8.toNat_inj.1
      rw [toNat_ofNat _ (by omega)]; omega
/-- The text of a number in lowest terms. -/
def text (neg : Bool) (n d : Nat) : List UInt8 := (if neg = true then [45] else []) ++ (decDigits n ++ if d = 1 then [] else 47 :: decDigits d)
def Canon (neg : Bool) (n d : Nat) : Prop := 0 < d ∧ Nat.gcd n d = 1 ∧ (n = 0 → neg = false)
def cut (l : List UInt8) : Bool × List UInt8 := if l.head? = some 45 then (true, l.tail) else (false, l)
/-- What the program reads. -/
def rdTail (neg : Bool) (num rest : List UInt8) : Option (Bool × Nat × Nat) :=
  match rest with
  | [] => some (neg, val num, 1)
  | c :: t => if c = 47 ∧ t.dropWhile isD = [] ∧ t.takeWhile isD ≠ [] ∧ (t.takeWhile isD).head? ≠ some 48 ∧ t.takeWhile isD ≠ [49] ∧ Nat.gcd (val num) (val (t.takeWhile isD)) = 1 then some (neg, val num, val (t.takeWhile isD)) else none
def rdBody (neg : Bool) (r : List UInt8) : Option (Bool × Nat × Nat) :=
  if r.takeWhile isD = [48] then (if neg = false ∧ r.dropWhile isD = [] then some (false, 0, 1) else none)
  else if r.takeWhile isD = [] ∨ (r.takeWhile isD).head? = some 48 then none
  else rdTail neg (r.takeWhile isD) (r.dropWhile isD)
def rd (l : List UInt8) : Option (Bool × Nat × Nat) := rdBody (cut l).1 (cut l).2
theorem tw_app {p : UInt8 → Bool} (a b : List UInt8) (ha : ∀ c ∈ a, p c = true) (hb : b = [] ∨ ∃ c t, b = c :: t ∧ p c = false) : (a ++ b).takeWhile p = a ∧ (a ++ b).dropWhile p = b := by
  induction a with
  | nil =>
    rcases hb with rfl | ⟨c, t, rfl, hc⟩
    · simp
    · simp [hc]
  | cons x a ih =>
    have := ih fun c hc => ha c (by simp [hc])
    simp [ha x (by simp), this]
theorem tw_all {p : UInt8 → Bool} (l : List UInt8) : ∀ c ∈ l.takeWhile p, p c = true := by
  exact List.all_eq_true.1 List.all_takeWhile
theorem cut_eq (l : List UInt8) : l = (if (cut l).1 = true then [45] else []) ++ (cut l).2 := by
  unfold cut
  cases l with
  | nil => simp
  | cons c t => by_cases h : c = 45 <;> simp [h]
theorem not_isD_47 : isD 47 = false := by decide
theorem not_isD_45 : isD 45 = false := by decide
theorem cut_text (neg : Bool) (n d : Nat) : cut (text neg n d) = (neg, decDigits n ++ if d = 1 then [] else 47 :: decDigits d) := by
  unfold cut text
  cases neg with
  | true => simp
  | false =>
    have h : ((if false = true then ([45] : List UInt8) else []) ++ (decDigits n ++ if d = 1 then [] else 47 :: decDigits d)).head? ≠ some 45 := by
      simp only [Bool.false_eq_true, if_false, List.nil_append, List.head?_append]
      cases hh : (decDigits n).head? with
      | none => exact absurd (List.head?_eq_none_iff.1 hh) (dec_ne _)
      | some x =>
        have hx : x ∈ decDigits n := List.mem_of_mem_head? (by rw [hh]; rfl)
        have := dec_allD n x hx
        simp only [Option.some_or, ne_eq, Option.some.injEq]
        rintro rfl
        rw [not_isD_45] at this
        exact Bool.noConfusion this
    rw [if_neg h]; simp
theorem tail_form (d : Nat) : (if d = 1 then ([] : List UInt8) else 47 :: decDigits d) = [] ∨ ∃ c t, (if d = 1 then ([] : List UInt8) else 47 :: decDigits d) = c :: t ∧ isD c = false := by
  by_cases h : d = 1
  · left; simp [h]
  · right; exact ⟨47, decDigits d, by simp [h], not_isD_47⟩
theorem rd_text {neg : Bool} {n d : Nat} (h : Canon neg n d) : rd (text neg n d) = some (neg, n, d) := by
  obtain ⟨hd, hg, hn⟩ := h
  unfold rd
  rw [cut_text]
  obtain ⟨t1, t2⟩ := tw_app (decDigits n) _ (dec_allD n) (tail_form d)
  simp only [rdBody, t1, t2]
  by_cases h0 : n = 0
  · subst h0
    rw [dec_zero, if_pos rfl, hn rfl]
    have : d = 1 := by simpa using hg
    simp [this]
  · have hh := dec_head n h0
    rw [if_neg (fun e => hh (by rw [e]; rfl)), if_neg (fun e => by rcases e with e | e; exact dec_ne n e; exact hh e)]
    by_cases h1 : d = 1
    · simp [rdTail, h1, val_dec]
    · simp only [rdTail, if_neg h1]
      obtain ⟨s1, s2⟩ := tw_app (p := isD) (decDigits d) [] (dec_allD d) (.inl rfl)
      rw [List.append_nil] at s1 s2
      rw [s1, s2, if_pos ⟨by trivial, by trivial, dec_ne d, dec_head d (by omega), fun e => h1 (dec_inj (e.trans dec_one.symm)), by rw [val_dec, val_dec]; exact hg⟩, val_dec, val_dec]
theorem rd_some {l : List UInt8} {neg : Bool} {n d : Nat} (h : rd l = some (neg, n, d)) : Canon neg n d ∧ l = text neg n d := by
  unfold rd rdBody at h
  have hl := cut_eq l
  generalize (cut l).1 = b at h hl
  generalize (cut l).2 = r at h hl
  subst hl
  have hr := (List.takeWhile_append_dropWhile (p := isD) (l := r)).symm
  have hD := tw_all (p := isD) r
  generalize r.takeWhile isD = num at h hr hD
  generalize r.dropWhile isD = rest at h hr
  subst hr
  by_cases e0 : num = [48]
  · rw [if_pos e0] at h
    by_cases e1 : b = false ∧ rest = []
    · rw [if_pos e1] at h
      obtain ⟨rfl, rfl⟩ := e1
      injection h with h
      injection h with h1 h2
      injection h2 with h2 h3
      subst h1 h2 h3 e0
      exact ⟨⟨by omega, by simp, fun _ => rfl⟩, by unfold text; rw [dec_zero]; rfl⟩
    · rw [if_neg e1] at h; cases h
  · rw [if_neg e0] at h
    by_cases e1 : num = [] ∨ num.head? = some 48
    · rw [if_pos e1] at h; cases h
    · rw [if_neg e1] at h
      have hv := dec_val num hD (fun e => e1 (.inl e)) (fun e => e1 (.inr e))
      cases rest with
      | nil =>
        simp only [rdTail, Option.some.injEq, Prod.mk.injEq] at h
        obtain ⟨rfl, rfl, rfl⟩ := h
        exact ⟨⟨by omega, by simp, fun e => absurd e hv.2⟩, by unfold text; rw [hv.1]; simp⟩
      | cons c t =>
        simp only [rdTail] at h
        split at h
        · rename_i hc
          obtain ⟨rfl, c2, c3, c4, c5, c6⟩ := hc
          simp only [Option.some.injEq, Prod.mk.injEq] at h
          obtain ⟨rfl, rfl, rfl⟩ := h
          have ht := (List.takeWhile_append_dropWhile (p := isD) (l := t)).symm
          have hD2 := tw_all (p := isD) t
          rw [c2, List.append_nil] at ht
          rw [← ht] at c3 c4 c5 c6 hD2 ⊢
          have hv2 := dec_val t hD2 c3 c4
          have h1 : val t ≠ 1 := fun e => c5 (by rw [← hv2.1, e, dec_one])
          refine ⟨⟨by have := hv2.2; omega, c6, fun e => absurd e hv.2⟩, ?_⟩
          unfold text
          rw [if_neg h1, hv.1, hv2.1]
        · cases h
/-! The reference: cut at the first '/', read both parts, divide by the greatest common divisor, write, compare. -/
def numOk (l : List UInt8) : Bool := l.all isD && !l.isEmpty
theorem numOk_iff {l : List UInt8} : numOk l = true ↔ (∀ c ∈ l, isD c = true) ∧ l ≠ [] := by unfold numOk; simp
/-! The parts of a text. -/
def SplitIs (l : List UInt8) (b : Bool) (num den : List UInt8) (ok : Bool) : Prop :=
  num.length ≤ l.length ∧ den.length ≤ l.length ∧ (ok = false → rd l = none) ∧
  (ok = true → numOk num = true ∧ (den = [] → rd l = some (b, val num, 1)) ∧ (den ≠ [] → numOk den = true ∧ val num ≠ 0 ∧ val den ≠ 0 ∧ rd l = if Nat.gcd (val num) (val den) = 1 then some (b, val num, val den) else none))
theorem cut_len (l : List UInt8) : (cut l).2.length ≤ l.length := by
  unfold cut; split
  · simp
  · exact Nat.le_refl _
theorem tw_len (p : UInt8 → Bool) (l : List UInt8) : (l.takeWhile p).length ≤ l.length := by
  have h := congrArg List.length (List.takeWhile_append_dropWhile (p := p) (l := l))
  rw [List.length_append] at h; omega
theorem dw_len (p : UInt8 → Bool) (l : List UInt8) : (l.dropWhile p).length ≤ l.length := by
  have h := congrArg List.length (List.takeWhile_append_dropWhile (p := p) (l := l))
  rw [List.length_append] at h; omega
section
variable {l r : List UInt8} {b : Bool} (hc : cut l = (b, r))
include hc
theorem spl_len : (r.takeWhile isD).length ≤ l.length ∧ r.length ≤ l.length := by
  have h1 := cut_len l
  have h2 := tw_len isD r
  rw [hc] at h1
  exact ⟨Nat.le_trans h2 h1, h1⟩
theorem rd_of : rd l = rdBody b r := by unfold rd; rw [hc]
theorem spl_zero (h : r.takeWhile isD = [48]) : SplitIs l b (r.takeWhile isD) [] (!b && (r.dropWhile isD).isEmpty) := by
  refine ⟨(spl_len hc).1, by simp, fun e => ?_, fun e => ⟨by rw [h]; rfl, fun _ => ?_, fun e => absurd rfl e⟩⟩
  · rw [rd_of hc, rdBody, if_pos h, if_neg]
    rintro ⟨h1, h2⟩
    rw [h1, h2] at e; cases e
  · rw [rd_of hc, rdBody, if_pos h, h]
    cases b with
    | true => cases e
    | false =>
      have : r.dropWhile isD = [] := by simpa using e
      rw [if_pos ⟨rfl, this⟩]; rfl
theorem spl_bad (h : r.takeWhile isD ≠ [48]) (h2 : r.takeWhile isD = [] ∨ (r.takeWhile isD).head? = some 48) : SplitIs l b (r.takeWhile isD) [] false :=
  ⟨(spl_len hc).1, by simp, fun _ => by rw [rd_of hc, rdBody, if_neg h, if_pos h2], fun e => by cases e⟩
theorem spl_whole (h : r.takeWhile isD ≠ [48]) (h2 : ¬ (r.takeWhile isD = [] ∨ (r.takeWhile isD).head? = some 48)) (h3 : r.dropWhile isD = []) : SplitIs l b (r.takeWhile isD) [] true :=
  ⟨(spl_len hc).1, by simp, fun e => (by cases e), fun _ => ⟨numOk_iff.2 ⟨tw_all _, fun e => h2 (.inl e)⟩, fun _ => by rw [rd_of hc, rdBody, if_neg h, if_neg h2, h3]; rfl, fun e => absurd rfl e⟩⟩
theorem spl_slash (h : r.takeWhile isD ≠ [48]) (h2 : ¬ (r.takeWhile isD = [] ∨ (r.takeWhile isD).head? = some 48)) {c : UInt8} {t : List UInt8} (h3 : r.dropWhile isD = c :: t) (h4 : c ≠ 47) : SplitIs l b (r.takeWhile isD) [] false :=
  ⟨(spl_len hc).1, by simp, fun _ => by rw [rd_of hc, rdBody, if_neg h, if_neg h2, h3, rdTail, if_neg (fun e => h4 e.1)], fun e => by cases e⟩
theorem spl_den (h : r.takeWhile isD ≠ [48]) (h2 : ¬ (r.takeWhile isD = [] ∨ (r.takeWhile isD).head? = some 48)) {t : List UInt8} (h3 : r.dropWhile isD = 47 :: t) {ok : Bool}
    (hok : ok = true ↔ t.dropWhile isD = [] ∧ t.takeWhile isD ≠ [] ∧ (t.takeWhile isD).head? ≠ some 48 ∧ t.takeWhile isD ≠ [49]) : SplitIs l b (r.takeWhile isD) (t.takeWhile isD) ok := by
  refine ⟨(spl_len hc).1, ?_, fun e => ?_, fun e => ⟨numOk_iff.2 ⟨tw_all _, fun e => h2 (.inl e)⟩, fun e2 => absurd e2 (hok.1 e).2.1, fun _ => ⟨numOk_iff.2 ⟨tw_all _, (hok.1 e).2.1⟩, (dec_val _ (tw_all _) (fun e => h2 (.inl e)) (fun e => h2 (.inr e))).2, (dec_val _ (tw_all _) (hok.1 e).2.1 (hok.1 e).2.2.1).2, ?_⟩⟩⟩
  · have a1 := tw_len isD t
    have a2 := dw_len isD r
    have a3 := (spl_len hc).2
    rw [h3, List.length_cons] at a2
    omega
  · rw [rd_of hc, rdBody, if_neg h, if_neg h2, h3, rdTail, if_neg]
    rintro ⟨_, a, b, c, d, _⟩
    rw [hok.2 ⟨a, b, c, d⟩] at e; cases e
  · obtain ⟨a, b, c, d⟩ := hok.1 e
    rw [rd_of hc, rdBody, if_neg h, if_neg h2, h3, rdTail]
    by_cases g : Nat.gcd (val (r.takeWhile isD)) (val (t.takeWhile isD)) = 1
    · rw [if_pos ⟨rfl, a, b, c, d, g⟩, if_pos g]
    · rw [if_neg (fun h => g h.2.2.2.2.2), if_neg g]
end
end Go.Qn
end
