/- Parts of the proof: E2, WB1, NU1, WC1, SM1, SM2, C1, E3, E4, N2, E6, E8. -/
import Derived.Laws.ShiftsVarLaws
import Derived.Laws.CopyOwn
import Derived.Laws.IdiomCopy
import Derived.Maps.OwnSet
import Derived.WalkKit
import Derived.DeepKeys5
import Derived.Test.YtpiedheafppnhaaGreatDoorMSF0
import Derived.Test.YtpiedheafppnhaaGreatDoorMSF1
section
/- Parities: the inner product modulo 2 of a list of exponents and a sign vector, by sums and by bits. Plain numbers. -/
namespace Go.Ev
open Go.Gr
def pr (row : List Int) (x : Nat) : Nat → Nat
  | 0 => 0
  | i + 1 => pr row x i + (if x.testBit i = true then (row.getD i 0).toNat else 0)
theorem pr_xor (row : List Int) (x y : Nat) : ∀ n, pr row (x ^^^ y) n % 2 = (pr row x n + pr row y n) % 2
  | 0 => rfl
  | n + 1 => by
    have ih := pr_xor row x y n
    simp only [pr, Nat.testBit_xor]
    cases x.testBit n <;> cases y.testBit n <;> simp <;> omega
/-- The sign vectors of n variables that are orthogonal to all rows. -/
def V (rows : List (List Int)) (n x : Nat) : Prop := x < 2 ^ n ∧ ∀ row ∈ rows, pr row x n % 2 = 0
theorem V_space (rows : List (List Int)) (n : Nat) : Space (V rows n) n :=
  ⟨fun _ h => h.1, fun x y hx hy => ⟨Nat.xor_lt_two_pow hx.1 hy.1, fun row hr => by
    have := pr_xor row x y n
    have h1 := hx.2 row hr
    have h2 := hy.2 row hr
    omega⟩⟩
/-- A list of numbers as bits: bit i is the parity of number i. -/
def pk (l : List Int) : Nat → Nat
  | 0 => 0
  | k + 1 => pk l k ^^^ (((l.getD k 0).toNat % 2) <<< k)
theorem pk_bit (l : List Int) (b : Nat) : ∀ k, (pk l k).testBit b = (decide (b < k) && decide ((l.getD b 0).toNat % 2 = 1))
  | 0 => by simp [pk]
  | k + 1 => by
    rw [pk, Nat.testBit_xor, pk_bit l b k, Nat.testBit_shiftLeft]
    have h01 : (l.getD k 0).toNat % 2 = 0 ∨ (l.getD k 0).toNat % 2 = 1 := by omega
    by_cases e : b = k
    · subst e
      rcases h01 with h | h <;> rw [h] <;> simp
    · by_cases hlt : b < k
      · simp [hlt, show b < k + 1 by omega, show ¬ k ≤ b by omega]
      · have : k ≤ b := by omega
        simp only [hlt, show ¬ b < k + 1 by omega, decide_false, Bool.false_and, Bool.false_xor, ge_iff_le, this, decide_true, Bool.true_and]
        rcases h01 with h | h
        · rw [h]; simp
        · rw [h]
          exact Nat.testBit_lt_two_pow (i := b - k) (x := 1) (Nat.lt_of_lt_of_le (show 1 < 2 ^ 1 by decide) (Nat.pow_le_pow_right (by omega) (by omega)))
theorem pk_lt (l : List Int) (k : Nat) : pk l k < 2 ^ k := by
  apply Nat.lt_pow_two_of_testBit
  intro i hi
  rw [pk_bit]; simp; omega
theorem cnt_and (l : List Int) (x k : Nat) : ∀ n, n ≤ k → ((List.range n).filter (x &&& pk l k).testBit).length % 2 = pr l x n % 2
  | 0, _ => rfl
  | n + 1, h => by
    have ih := cnt_and l x k n (by omega)
    rw [List.range_succ, List.filter_append, List.length_append, pr]
    simp only [List.filter_cons, List.filter_nil, Nat.testBit_and, pk_bit, show n < k by omega, decide_true, Bool.true_and]
    cases x.testBit n
    · simp; omega
    · by_cases h2 : (l.getD n 0).toNat % 2 = 1
      · simp only [h2, decide_true, Bool.and_true, if_true, List.length_singleton]; omega
      · simp only [h2, decide_false, Bool.and_false, Bool.false_eq_true, if_false, if_true, List.length_nil]; omega
theorem cnt_high (z k : Nat) (hz : z < 2 ^ k) : ∀ m, ((List.range (k + m)).filter z.testBit).length = ((List.range k).filter z.testBit).length
  | 0 => rfl
  | m + 1 => by
    have : z.testBit (k + m) = false := Nat.testBit_lt_two_pow (Nat.lt_of_lt_of_le hz (Nat.pow_le_pow_right (by omega) (by omega)))
    rw [show k + (m + 1) = k + m + 1 from rfl, List.range_succ, List.filter_append, List.length_append, cnt_high z k hz m]
    simp [this]
/-- The number of common bits of a sign vector and the packed exponents is odd exactly if the inner product is. -/
theorem size_and (l : List Int) (x k : Nat) (hk : k ≤ 64) : size (x &&& pk l k) % 2 = pr l x k % 2 := by
  have hz : x &&& pk l k < 2 ^ k := Nat.lt_of_le_of_lt Nat.and_le_right (pk_lt l k)
  have := cnt_high _ k hz (64 - k)
  rw [show k + (64 - k) = 64 by omega] at this
  unfold size verts
  rw [this]
  exact cnt_and l x k k (Nat.le_refl _)
/-- The inner product of two lists. -/
def dotN (a s : List Int) : Nat → Int
  | 0 => 0
  | i + 1 => dotN a s i + a.getD i 0 * s.getD i 0
/-- A list of zeros and ones. -/
def Bit01 (s : List Int) : Prop := ∀ x ∈ s, x = 0 ∨ x = 1
theorem getD_mem (s : List Int) (i : Nat) (h : i < s.length) : s.getD i 0 ∈ s := by
  rw [List.getD_eq_getElem?_getD, List.getElem?_eq_getElem h, Option.getD_some]; exact List.getElem_mem h
theorem dotN_pr (a s : List Int) (k : Nat) (hs : Bit01 s) (hk : k = s.length) (ha : ∀ x ∈ a, 0 ≤ x) : ∀ n, n ≤ k → dotN a s n = (pr a (pk s k) n : Nat)
  | 0, _ => rfl
  | n + 1, h => by
    have h0 : 0 ≤ a.getD n 0 := by
      rcases Nat.lt_or_ge n a.length with h1 | h1
      · exact ha _ (getD_mem a n h1)
      · rw [List.getD_eq_getElem?_getD, List.getElem?_eq_none h1]; simp
    rw [dotN, pr, dotN_pr a s k hs hk ha n (by omega), pk_bit]
    simp only [show n < k by omega, decide_true, Bool.true_and]
    generalize a.getD n 0 = x at *
    rcases hs _ (getD_mem s n (by omega)) with e | e <;> rw [e] <;> simp
    omega
/-- A sign vector as a list. -/
def unp (x n : Nat) : List Int := (List.range n).map fun i => if x.testBit i = true then 1 else 0
theorem unp_len (x n : Nat) : (unp x n).length = n := by simp [unp]
theorem unp_getD (x n i : Nat) (h : i < n) : (unp x n).getD i 0 = if x.testBit i = true then 1 else 0 := by
  unfold unp
  rw [List.getD_eq_getElem?_getD, List.getElem?_map, List.getElem?_range h]; rfl
theorem unp_bit (x n : Nat) : Bit01 (unp x n) := by
  intro v hv
  obtain ⟨i, _, rfl⟩ := List.mem_map.1 hv
  split <;> simp
theorem pk_unp {x n : Nat} (hx : x < 2 ^ n) : pk (unp x n) n = x := by
  refine Nat.eq_of_testBit_eq fun b => ?_
  rw [pk_bit]
  by_cases hb : b < n
  · rw [unp_getD x n b hb]
    cases x.testBit b <;> simp [hb]
  · simp [hb]
    exact (Nat.testBit_lt_two_pow (Nat.lt_of_lt_of_le hx (Nat.pow_le_pow_right (n := 2) (by omega) (by omega : n ≤ b))))
end Go.Ev
end
section
/- Walks: sign vectors as bits. -/
namespace Go.Proofs.Tg
open Go.RowKit Go.Gr
set_option maxHeartbeats 1000000
set_option maxRecDepth 100000
theorem i64_and_n (a b : Nat) (ha : a < 9223372036854775808) (hb : b < 9223372036854775808) : bits BinOp.and IntKind.i64 (a : Int) (b : Int) = ((a &&& b : Nat) : Int) := by
  have hx : a &&& b < 2 ^ 63 := Nat.and_lt_two_pow _ (by omega)
  show IntKind.i64.wrap ((BitVec.ofInt 64 (a : Int) &&& BitVec.ofInt 64 (b : Int)).toNat : Int) = _
  rw [BitVec.toNat_and, ofInt_u64 a (by omega), ofInt_u64 b (by omega), IntKind.wrap_i64]
  omega
theorem i64_xor_n (a b : Nat) (ha : a < 9223372036854775808) (hb : b < 9223372036854775808) : bits BinOp.xor IntKind.i64 (a : Int) (b : Int) = ((a ^^^ b : Nat) : Int) := by
  have hx : a ^^^ b < 2 ^ 63 := Nat.xor_lt_two_pow (by omega) (by omega)
  show IntKind.i64.wrap ((BitVec.ofInt 64 (a : Int) ^^^ BitVec.ofInt 64 (b : Int)).toNat : Int) = _
  rw [BitVec.toNat_xor, ofInt_u64 a (by omega), ofInt_u64 b (by omega), IntKind.wrap_i64]
  omega
theorem pow_62 {k : Nat} (hk : k < 62) : 2 ^ k ≤ 2305843009213693952 := by
  have : 2 ^ k ≤ 2 ^ 61 := Nat.pow_le_pow_right (by omega) (by omega)
  exact Nat.le_trans this (by decide)
theorem wrap64_nat (n : Nat) (h : n < 9223372036854775808) : wrap64 (n : Int) = (n : Int) := by unfold wrap64; omega
theorem pack_step (q k : Nat) (x : Int) (hx : 0 ≤ x) (hx2 : x < 9223372036854775808) (hk : k < 62) (hq : q < 2 ^ k) :
    bits BinOp.xor IntKind.i64 (q : Int) (wrap64 (bits BinOp.and IntKind.i64 x 1 * 2 ^ k)) = ((q ^^^ ((x.toNat % 2) <<< k) : Nat) : Int) := by
  obtain ⟨X, rfl⟩ := Int.eq_ofNat_of_zero_le hx
  have hp := pow_62 hk
  have e1 : bits BinOp.and IntKind.i64 (X : Int) 1 = ((X % 2 : Nat) : Int) := by
    rw [show (1 : Int) = ((1 : Nat) : Int) from rfl, i64_and_n X 1 (by omega) (by omega), Nat.and_one_is_mod]
  have h2 : X % 2 * 2 ^ k ≤ 2 ^ k := by
    have : X % 2 ≤ 1 := by omega
    calc X % 2 * 2 ^ k ≤ 1 * 2 ^ k := Nat.mul_le_mul_right _ this
      _ = 2 ^ k := Nat.one_mul _
  have e2 : ((X % 2 : Nat) : Int) * 2 ^ k = ((X % 2 * 2 ^ k : Nat) : Int) := by simp
  rw [e1, e2, wrap64_nat _ (by omega), i64_xor_n _ _ (by omega) (by omega), Int.toNat_natCast, Nat.shiftLeft_eq]
theorem int_info : (Tryz.prog.info? 3).map (fun i => (i.zero, i.size, i.bytes)) = some (some (.int .i64 0), 1, 8) := by kernel_rfl
theorem make_ints (l n : Nat) (hl : l ≤ n) (hn : n ≤ 1000000) (w : World) : (Instr.makeSlice 50 (.int .i64 (l : Int)) (.int .i64 (n : Int))).run Tryz.prog w = .ok (.slice (some ⟨w.heap.size, 0, none⟩) l n) (w.alloc (.cells (madeCells #[.int .i64 0] n) 3)) := by
  obtain ⟨i0, hi, hz0, hz1, hz2⟩ := info_parts int_info
  have hr := run_make (P := Tryz.prog) w 50 3 i0 (.int .i64 0) Tryz.underlying50 hi hz0 .i64 .i64 l n (by omega) (by omega) (by rw [hz2]; omega) (by omega)
  rw [hz1, Nat.mul_one, Int.toNat_natCast, Int.toNat_natCast] at hr
  exact hr
theorem shr_bit (x i : Nat) (hx : x < 9223372036854775808) : bits BinOp.and IntKind.i64 ((x : Int) / 2 ^ i) 1 = if x.testBit i = true then 1 else 0 := by
  have e : (x : Int) / 2 ^ i = ((x / 2 ^ i : Nat) : Int) := by simp
  have hl : x / 2 ^ i < 9223372036854775808 := Nat.lt_of_le_of_lt (Nat.div_le_self _ _) hx
  rw [e, show (1 : Int) = ((1 : Nat) : Int) from rfl, i64_and_n _ 1 hl (by omega), Nat.and_one_is_mod, Nat.testBit_eq_decide_div_mod_eq]
  by_cases h : x / 2 ^ i % 2 = 1
  · rw [h]; simp
  · have : x / 2 ^ i % 2 = 0 := by omega
    rw [this]; simp
/-- The value that a call returns is a new block of numbers. -/
def RetNew (l : List Int) (w : World) (e : Ending) (w' : World) : Prop :=
  e = .returned (.slice (some ⟨w.heap.size, 0, none⟩) l.length l.length) ∧ Blk w' w.heap.size 3 (iarr l) ∧ Below w.heap.size w w'
theorem unp_set (x n k : Nat) (hk : k < n) : (Ev.unp x k ++ List.replicate (n - k) 0).set k (if x.testBit k = true then 1 else 0) = Ev.unp x (k + 1) ++ List.replicate (n - (k + 1)) 0 := by
  obtain ⟨m, hm⟩ : ∃ m, n - k = m + 1 := ⟨n - k - 1, by omega⟩
  rw [hm, show n - (k + 1) = m by omega]
  have hl : (Ev.unp x k).length = k := Ev.unp_len x k
  have e : Ev.unp x (k + 1) = Ev.unp x k ++ [if x.testBit k = true then 1 else 0] := by
    unfold Ev.unp; rw [List.range_succ, List.map_append]; rfl
  rw [e, List.replicate_succ, List.set_append_right _ _ (by rw [hl]; exact Nat.le_refl _), hl, Nat.sub_self, List.set_cons_zero]; simp
def bit01 (l : List Int) : Bool := l.all fun x => x == 0 || x == 1
theorem bit01_iff {l : List Int} : bit01 l = true ↔ Ev.Bit01 l := by unfold bit01 Ev.Bit01; simp
theorem bit01_bad {l : List Int} {x : Int} (hx : x ∈ l) (h0 : ¬ x = 0) (h1 : ¬ x = 1) : bit01 l = false := by
  apply eq_false_of_ne_true
  rw [bit01_iff]
  exact fun h => (h x hx).elim h0 h1
end Go.Proofs.Tg
end
section
/- The harness's numbers: trim. -/
namespace Go.Proofs.Tg
open Go.RowKit Go.Gr
set_option maxHeartbeats 4000000
set_option maxRecDepth 100000
def vd (x : Nat) : Value := .int .u32 (x : Nat)
/-- A slice of digits, which lies in a block of digits. -/
structure Digs (w : World) (A : Option Addr) (xs : List Nat) : Prop where
  sl : Sl w A xs.length 1 (xs.map vd)
  u32 : 0 < xs.length → ∀ ad, A = some ad → ∃ cs fz, w.heap[ad.block]? = some (.cells cs 117 fz)
theorem Digs.nil (w : World) (A : Option Addr) : Digs w A [] := ⟨Sl.nil _ _ _, fun h => absurd h (by simp)⟩
theorem Digs.keep {w w' : World} {A : Option Addr} {xs : List Nat} (h : Digs w A xs) (hb : Below w.heap.size w w') : Digs w' A xs :=
  ⟨h.sl.keep hb, fun hp ad e => by
    obtain ⟨cs, fz, hc⟩ := h.u32 hp ad e
    exact ⟨cs, fz, (hb.block _ (Array.getElem?_eq_some_iff.1 hc).1).trans hc⟩⟩
theorem Digs.at {w : World} {A : Option Addr} {xs : List Nat} (h : Digs w A xs) {k : Nat} (hk : k < xs.length) : ∃ ad, A = some ad ∧ w.cell? (ad.add k) = some (.int .u32 (xs[k] : Nat)) := by
  obtain ⟨ad, rfl, hc⟩ := Sl.at1 h.sl hk
  exact ⟨ad, rfl, by simpa [vd] using hc⟩
theorem Digs.take {w : World} {A : Option Addr} {xs : List Nat} (h : Digs w A xs) (k : Nat) (hk : k ≤ xs.length) : Digs w A (xs.take k) := by
  have hl : (xs.take k).length = k := by rw [List.length_take]; omega
  refine ⟨⟨by simp, fun hp => ?_⟩, fun hp => h.u32 (by omega)⟩
  rw [hl] at hp
  obtain ⟨ad, rfl, hlt, ha⟩ := h.sl.lies (by omega)
  refine ⟨ad, rfl, hlt, fun j u hu => ha j u ?_⟩
  have hj := (List.getElem?_eq_some_iff.1 hu).1
  rw [List.length_map, hl] at hj
  rw [List.getElem?_map] at hu ⊢
  rwa [List.getElem?_take_of_lt hj] at hu
/-- The first cells of a block of digits. -/
theorem digs_pre {w : World} {g : Nat} {cs : Array Value} {xs : List Nat} (h : Blk w g 117 cs) (hx : ∀ (j : Nat) u, (xs.map vd)[j]? = some u → cs[j]? = some u) : Digs w (some ⟨g, 0, none⟩) xs :=
  ⟨⟨by simp, fun _ => ⟨_, rfl, h.lt, fun j u hu => by rw [add_lit, Nat.zero_add, h.cell j]; exact hx j u hu⟩⟩, fun _ ad e => by
    injection e with e
    subst e
    exact ⟨cs, (0, 0), h⟩⟩
theorem digs_of {w : World} {g : Nat} {xs : List Nat} (h : Blk w g 117 (xs.map vd).toArray) : Digs w (some ⟨g, 0, none⟩) xs := digs_pre h (fun j u hu => by simpa using hu)
theorem digs_own {w : World} {b n c : Nat} {A : Option Addr} {xs : List Nat} (h : w.ownsRow b 117 1 (.slice A n c) n (xs.map vd)) (hn : n = xs.length) : Digs w A xs := by
  subst hn
  refine ⟨Sl.own h, fun hp ad e => ?_⟩
  rcases h.2 with ⟨h1, h2⟩ | ⟨g, cap, cur, h1, _, hg, _⟩
  · injection h1 with h1
    rw [e] at h1; cases h1
  · injection h1 with h1
    rw [e] at h1
    injection h1 with h1
    subst h1
    exact ⟨cur, (0, 0), hg⟩
theorem Digs.off {w : World} {A : Option Addr} {g : Nat} {t : TypeId} {xs : List Nat} {cs : Array Value} (h : Digs w A xs) (_ : 0 < 1) (B : Blk w g t cs) (hd : ∀ v ∈ cs.toList, v ∉ xs.map vd) : Off A xs.length g := Sl.off h.sl (by omega) B hd
theorem Digs.far {w : World} {A : Option Addr} {g : Nat} {xs : List Nat} (h : Digs w A xs) (ho : Off A xs.length g) (i : Nat) (u : Value) : Digs (w.setCell ⟨g, i, none⟩ u) A xs :=
  ⟨Sl.far h.sl ho i u, fun hp ad e => by
    obtain ⟨cs, fz, hc⟩ := h.u32 hp ad e
    refine ⟨cs, fz, ?_⟩
    rw [Below.heap_setCell _ _ _ _ (ho hp ad e)]
    exact hc⟩
theorem Digs.put {w : World} {A : Option Addr} {xs : List Nat} (h : Digs w A xs) {p : Addr} {v : Value} (hp : w.cell? p = some v) (hv : v ∉ xs.map vd) (u : Value) : Digs (w.setCell p u) A xs :=
  ⟨Sl.put h.sl hp hv u, fun hl ad e => by
    obtain ⟨cs, fz, hc⟩ := h.u32 hl ad e
    by_cases hg : ad.block = p.block
    · refine ⟨if p.spot.isSome then cs else cs.setIfInBounds p.off u, fz, ?_⟩
      simp [World.setCell, Array.getElem?_modify, ← hg, hc]
    · exact ⟨cs, fz, by rw [Below.heap_setCell _ _ _ _ hg]; exact hc⟩⟩
/-- A block whose elements are of another type. -/
theorem Digs.off_ty {w : World} {A : Option Addr} {g : Nat} {t : TypeId} {xs : List Nat} {cs : Array Value} (h : Digs w A xs) (B : Blk w g t cs) (hne : t ≠ 117) : Off A xs.length g := by
  intro hp ad e hg
  obtain ⟨cs', fz, hc⟩ := h.u32 hp ad e
  rw [hg] at hc
  unfold Blk at B
  rw [B] at hc
  injection hc with hc
  injection hc with _ ht
  exact hne ht
/-- A row of the call's own that grows, of another type. -/
theorem Digs.grown {w w' : World} {A : Option Addr} {ys : List Value} {zs : List Nat} {b sz n : Nat} {t : TypeId} {v : Value} (h : Digs w A zs) (ho : w.ownsRow b t sz v n ys) (hg : w.grownBy w' v.ownBlock) (hne : t ≠ 117) : Digs w' A zs := by
  have key : 0 < zs.length → ∀ ad, A = some ad → some ad.block ≠ v.ownBlock := by
    intro hp ad e he
    obtain ⟨cs', fz, hc⟩ := h.u32 hp ad e
    rcases ho.2 with ⟨rfl, _⟩ | ⟨g, cap, cur, rfl, _, hg', _⟩
    · simp [Value.ownBlock] at he
    · have : ad.block = g := by simpa [Value.ownBlock] using he
      rw [this, hg'] at hc
      injection hc with hc
      injection hc with _ ht
      exact hne ht
  refine ⟨⟨h.sl.len, fun hp => ?_⟩, fun hp ad e => ?_⟩
  · obtain ⟨ad, e, hlt, ha⟩ := h.sl.lies hp
    refine ⟨ad, e, Nat.lt_of_lt_of_le hlt hg.size, fun j u hu => hg.cell (ha j u hu) (by rw [add_block]; exact key hp ad e)⟩
  · obtain ⟨cs, fz, hc⟩ := h.u32 hp ad e
    exact ⟨cs, fz, (hg.block _ (Array.getElem?_eq_some_iff.1 hc).1 (key hp ad e)).trans hc⟩
/-- How many digits are left of the first k when the leading zeros are struck. -/
def tzl (xs : List Nat) : Nat → Nat
  | 0 => 0
  | k + 1 => if xs.getD k 0 = 0 then tzl xs k else k + 1
theorem tzl_le (xs : List Nat) : ∀ k, tzl xs k ≤ k
  | 0 => Nat.le_refl _
  | k + 1 => by
    unfold tzl
    have := tzl_le xs k
    split <;> omega
theorem trim_any (A : Option Addr) (c : Nat) (xs : List Nat) (w : World) (hA : Digs w A xs) (hn : xs.length ≤ 1000) (hc : xs.length ≤ c) :
    Calls Tryz.prog 59 #[.slice A xs.length c] w fun e w' => e = .returned (.slice A (tzl xs xs.length) c) ∧ w = w' := by
  obtain ⟨r, hr⟩ : ∃ r, tzl xs xs.length = r := ⟨_, rfl⟩
  rw [hr]
  have HR : Hid (tzl xs xs.length = r) := Lib.hid hr
  clear hr
  go_enter Tryz.func59, Tryz.ntmps59
  go_wp2
  go_loop [0] (fun s0 => ∃ k : Nat, s0 = .slice A k c ∧ k ≤ xs.length ∧ Hid (tzl xs k = r)) (fun s0 => match s0 with | .slice _ k _ => k | _ => 0)
  case atStart => exact ⟨xs.length, rfl, Nat.le_refl _, HR⟩
  case round =>
    obtain ⟨k, rfl, hk, HK⟩ := hrel
    cases k with
    | zero =>
      obtain rfl : r = 0 := HK.out.symm
      go_wp2
      go_ret
      exact ⟨rfl, rfl⟩
    | succ k =>
      obtain ⟨ad, rfl, hck⟩ := Digs.at hA (k := k) (by omega)
      have HX : Hid (xs.getD k 0 = xs[k]) := Lib.hid (by simp [show k < xs.length by omega])
      generalize xs[k] = x at hck HX
      by_cases hx : x = 0
      · subst hx
        have HK2 : Hid (tzl xs k = r) := Lib.hid (by have := HK.out; unfold tzl at this; rwa [if_pos HX.out] at this)
        go_wp2
        go_round
        case rel => exact ⟨k, rfl, by omega, HK2⟩
        case measure => simp
      · have hb : ((x : Int) == 0) = false := by simp [hx]
        have hb' : (x == 0) = false := by simp [hx]
        obtain rfl : r = k + 1 := by have := HK.out; unfold tzl at this; rw [if_neg (by rw [HX.out]; exact hx)] at this; exact this.symm
        go_wp2
        go_ret
        exact ⟨rfl, rfl⟩
theorem make1_any (b : Bool) (A : Option Addr) (n c : Nat) (w : World) (v : Bool) (hv : (b && decide (0 < n)) = v) (hn : n ≤ 1000000) :
    Calls Tryz.prog 58 #[.bool b, .slice A n c] w fun e w' => e = .returned (.agg #[.bool v, .slice A n c]) ∧ Below w.heap.size w w' := by
  have hbA : Below w.heap.size w (w.alloc (.cells #[.bool v, .slice A n c] 46)) := (Below.refl _ _).alloc (Nat.le_refl _) _
  have hB := Blk.new w 46 #[.bool v, .slice A n c]
  cases b with
  | false =>
    obtain rfl : v = false := by rw [← hv]; rfl
    obtain ⟨a0, a1, _, _⟩ := hB.two
    go_enter Tryz.func58, Tryz.ntmps58
    go_wp2
    exact bodyPost_ret (v := .agg #[.bool false, .slice A n c]) (by simp [results, Tryz.results58, go_sem, a0, a1]) rfl ⟨rfl, hbA⟩
  | true =>
    obtain rfl : decide (0 < n) = v := by rw [← hv]; rfl
    obtain ⟨a0, a1, _, _⟩ := hB.two
    by_cases h0 : 0 < n
    · have hd : decide ((0 : Int) < (n : Int)) = true := by simp; omega
      have hd' : decide (0 < n) = true := by simp; omega
      rw [hd'] at a0 a1 hbA ⊢
      clear hv hB
      go_enter Tryz.func58, Tryz.ntmps58
      go_wp2
      exact bodyPost_ret (v := .agg #[.bool true, .slice A n c]) (by simp [results, Tryz.results58, go_sem, a0, a1]) rfl ⟨rfl, hbA⟩
    · have hd : decide ((0 : Int) < (n : Int)) = false := by simp; omega
      have hd' : decide (0 < n) = false := by simp; omega
      rw [hd'] at a0 a1 hbA ⊢
      clear hv hB
      go_enter Tryz.func58, Tryz.ntmps58
      go_wp2
      exact bodyPost_ret (v := .agg #[.bool false, .slice A n c]) (by simp [results, Tryz.results58, go_sem, a0, a1]) rfl ⟨rfl, hbA⟩
theorem sign_any (b : Bool) (A : Option Addr) (n c : Nat) (w : World) (hn : n ≤ 1000000) (s : Int) (hs : (if b = true then -1 else if n = 0 then 0 else 1) = s) :
    Calls Tryz.prog 67 #[.agg #[.bool b, .slice A n c]] w fun e w' => e = .returned (.int .i64 s) ∧ Below w.heap.size w w' := by
  have hbA : Below w.heap.size w (w.alloc (.cells #[.bool b, .slice A n c] 46)) := (Below.refl _ _).alloc (Nat.le_refl _) _
  cases b with
  | true =>
    obtain rfl : s = -1 := by rw [← hs]; rfl
    clear hs
    go_enter Tryz.func67, Tryz.ntmps67
    go_wp2
    go_ret
    exact ⟨rfl, hbA⟩
  | false =>
    by_cases h0 : n = 0
    · subst h0
      obtain rfl : s = 0 := by rw [← hs]; rfl
      clear hs
      go_enter Tryz.func67, Tryz.ntmps67
      go_wp2
      go_ret
      exact ⟨rfl, hbA⟩
    · obtain rfl : s = 1 := by rw [← hs, if_neg (by simp), if_neg h0]
      have hz : ((n : Int) == 0) = false := beq_eq_false_iff_ne.2 (by omega)
      have hz' : (n == 0) = false := beq_eq_false_iff_ne.2 h0
      clear h0 hs
      go_enter Tryz.func67, Tryz.ntmps67
      go_wp2
      go_ret
      exact ⟨rfl, hbA⟩
end Go.Proofs.Tg
end
section
/- The built-in copy of at most six numbers into an array at a block's head. -/
namespace Go.Proofs.Tg
open Go.RowKit
theorem int_sz : (Tryz.prog.info? 3).map (·.size) = some 1 := by kernel_rfl
/-- Another world that differs in block g alone. -/
structure But (g : Nat) (W W' : World) : Prop where
  below : ∀ (B : Nat) (w0 : World), Below B w0 W → B ≤ g → Below B w0 W'
  blk : ∀ (g' : Nat) (t : TypeId) (cs : Array Value), g' ≠ g → Blk W g' t cs → Blk W' g' t cs
theorem wpList_copy6 {ops : Array Oper} {rest : List Oper} {o : Oper} {a : Act} {Q : Exit → Act → World → Prop} {W : World} (hgd : o.guard = none) (d s : Operand)
    (ho : o.op = .call { callee := .builtin .copy, args := #[d, s], argTypes := #[50, 50] }) (g : Nat) (t : TypeId) (A : Option Addr) (c : Nat) (el : List Int) (z : List Value)
    (hd : a.eval d = .slice (some ⟨g, 0, none⟩) 6 6) (hs : a.eval s = .slice A el.length c) (hA : Ints W A el) (hl : el.length ≤ 6)
    (hB : Blk W g t ([Value.int .i64 0, Value.int .i64 0, Value.int .i64 0, Value.int .i64 0, Value.int .i64 0, Value.int .i64 0] ++ z).toArray)
    (h : ∀ W', Blk W' g t ([Value.int .i64 (el.getD 0 0), Value.int .i64 (el.getD 1 0), Value.int .i64 (el.getD 2 0), Value.int .i64 (el.getD 3 0), Value.int .i64 (el.getD 4 0), Value.int .i64 (el.getD 5 0)] ++ z).toArray → But g W W' → wpList Tryz.prog ops Q rest (a.put o.dst (goInt el.length)) W') :
    wpList Tryz.prog ops Q (o :: rest) a W := by
  by_cases h0 : el = []
  · subst h0
    refine wpList_plain hgd fun K hK => ?_
    have hrun := run_copy_none (P := Tryz.prog) W 50 50 o.type 3 (some ⟨g, 0, none⟩) A 6 6 0 c Tryz.underlying50 int_sz rfl
    have hs' : a.eval s = .slice A 0 c := hs
    unfold Oper.wp
    simp [execOp, ho, resolve, invoke, builtin, hd, hs', hrun, Result.andThen]
    exact hK _ _ (h W hB ⟨fun _ _ h _ => h, fun _ _ _ _ h => h⟩)
  · have hp : 0 < el.length := List.length_pos_iff.2 h0
    obtain ⟨ad, rfl, _, hc⟩ := hA.lies hp
    refine wpList_copy_own hgd d s 50 50 ho 3 Tryz.underlying50 int_sz g 0 6 6 ad el.length c hd hs _ t hB (el.map vi) (by rw [List.length_map]; exact (Nat.min_eq_left hl).symm) hc (by simp; omega) (by simp [vi, Value.oneCell']) ?_
    have key : (([Value.int .i64 0, Value.int .i64 0, Value.int .i64 0, Value.int .i64 0, Value.int .i64 0, Value.int .i64 0] ++ z).toArray.toList.take 0 ++ (el.map vi ++ ([Value.int .i64 0, Value.int .i64 0, Value.int .i64 0, Value.int .i64 0, Value.int .i64 0, Value.int .i64 0] ++ z).toArray.toList.drop (0 + (el.map vi).length))).toArray
        = ([Value.int .i64 (el.getD 0 0), Value.int .i64 (el.getD 1 0), Value.int .i64 (el.getD 2 0), Value.int .i64 (el.getD 3 0), Value.int .i64 (el.getD 4 0), Value.int .i64 (el.getD 5 0)] ++ z).toArray := by
      match el, hl with
      | [], _ => exact absurd rfl h0
      | [_], _ => simp [vi]
      | [_, _], _ => simp [vi]
      | [_, _, _], _ => simp [vi]
      | [_, _, _, _], _ => simp [vi]
      | [_, _, _, _, _], _ => simp [vi]
      | [_, _, _, _, _, _], _ => simp [vi]
      | _ :: _ :: _ :: _ :: _ :: _ :: _ :: l, hl => simp at hl
    rw [key]
    have hlen : (goInt ((el.map vi).length)) = goInt el.length := by simp
    rw [hlen]
    refine h _ ?_ ⟨fun B w0 hb hg => below_setRow hb hg _, fun g' t' cs hne hb => ?_⟩
    · exact setRow_heap W g _ _ t _ hB
    · exact (setRow_other W g g' _ hne).trans hb
end Go.Proofs.Tg
end
section
/- A map to bools that the call itself has made, as a set of keys: the look-up, the store. -/
namespace Go.Proofs.Tg
open Go.RowKit Go.Maps Go.WideShapes
theorem plainElem_bool_inv {H : Type} {P : Program} {e : TypeId} (he : P.underlying e = some .bool) {v : Value} {z : DataW H × List MemPlace} (h : plainElem P e v = some z) : ∃ a, v = .bool a ∧ z = (.lit (.bool a), []) := by
  unfold plainElem at h
  rw [he] at h
  cases v <;> simp at h
  exact ⟨_, rfl, h.symm⟩
/-- The look-up in a map to bools, at the operation. -/
theorem wpList_look_bool {H : Type} {P : Program} (w : World) {ops : Array Oper} {rest : List Oper} {o : Oper} {a : Act} {Q : Exit → Act → World → Prop}
    (hg : o.guard = none) (m x : Operand) (t : TypeId) (hop : o.op = Op.lookup t m x false)
    (k e : TypeId) (K : Keyed P k) (ht : P.underlying t = some (.map k e)) (he : P.underlying e = some .bool) (hz : (zeroValue e).run P w = .ok (.bool false) w) (b n : Nat) (D : DataW H)
    (hm : a.eval m = .map (some b)) (hown : w.ownsMap P k (plainElem P e) b n D) (key : Value) (kl : Lit) (hx : a.eval x = key) (hkey : keyOf P k key = some kl) (c : Bool) (hc : D.atKey kl (.lit (.bool false)) = .lit (.bool c))
    (hK : wpList P ops Q rest (a.put o.dst (.bool c)) w) :
    wpList P ops Q (o :: rest) a w := by
  refine wpList_plain hg fun K' hK' => ?_
  obtain ⟨v, ps, hrun, hv⟩ := hown.lookup K ht hz (plainElem_bool he false) hkey
  obtain ⟨c', rfl, hv2⟩ := plainElem_bool_inv he hv
  rw [hc] at hv2
  injection hv2 with hv2 _
  injection hv2 with hv2
  injection hv2 with hv2
  subst hv2
  unfold Oper.wp
  simp [execOp, hop, hm, hx, hrun, Result.andThen]
  exact hK' _ _ hK
/-- The map holds true at just the keys of the list. -/
structure SetOK {α : Type} [DecidableEq α] (kl : α → Lit) (dom : α → Prop) (S : List α) (D : DataW Unit) : Prop where
  isMap : Maps.IsMap D
  at' : ∀ v, dom v → D.atKey (kl v) (.lit (.bool false)) = .lit (.bool (decide (v ∈ S)))
theorem SetOK.nil {α : Type} [DecidableEq α] (kl : α → Lit) (dom : α → Prop) : SetOK kl dom [] (.map []) := ⟨Maps.isMap_empty, fun v _ => by simp [DataW.atKey]⟩
theorem SetOK.put {α : Type} [DecidableEq α] {kl : α → Lit} {dom : α → Prop} {S : List α} {D : DataW Unit} (h : SetOK kl dom S D) (hk : ∀ v, dom v → WideAt.IsKeyLit (kl v)) (hi : ∀ u v, dom u → dom v → kl u = kl v → u = v) {x : α} (hx : dom x) :
    SetOK kl dom (x :: S) (D.put (kl x) (.lit (.bool true))) := by
  refine ⟨h.isMap.put _ _, fun v hv => ?_⟩
  by_cases he : v = x
  · subst he
    rw [Maps.atKey_put_same h.isMap (hk v hv)]
    simp
  · rw [Maps.atKey_put_other (fun e => he (hi v x hv hx e)), h.at' v hv]
    simp [he]
/-- The same set, told by another list. -/
theorem SetOK.congr {α : Type} [DecidableEq α] {kl : α → Lit} {dom : α → Prop} {S S' : List α} {D : DataW Unit} (h : SetOK kl dom S D) (hs : ∀ v, dom v → (v ∈ S ↔ v ∈ S')) : SetOK kl dom S' D :=
  ⟨h.isMap, fun v hv => by rw [h.at' v hv, decide_eq_decide.2 (hs v hv)]⟩
end Go.Proofs.Tg
end
section
/- What an array of six numbers reads as where it is the key of a map. -/
namespace Go.Proofs.Tg
open Go.RowKit Go.Maps Go.WideShapes
/-- The literal of a key. -/
def kl6 (l : List Int) : Lit := .string (keyBytes (l.map fun x => Lit.int .i64 x))
theorem wf_small {x : Int} (h : -1000000 ≤ x ∧ x ≤ 1000000) : (Lit.int .i64 x).wf = true := by
  have e1 : IntKind.i64.min = -9223372036854775808 := rfl
  have e2 : IntKind.i64.max = 9223372036854775807 := rfl
  simp only [Lit.wf, Bool.and_eq_true, decide_eq_true_eq]
  omega
theorem keyOf_six {P : Program} {T I : TypeId} (hT : P.underlying T = some (.array 6 I)) (hI : P.underlying I = some (.int .i64)) (hk : P.keyType T = true) (c1 : P.cellsOf I = 1) (c6 : P.cellsOf T = 6) {s : Nat} (hs : P.types.size = s + 1)
    (l : List Int) (hl : l.length = 6) (hw : ∀ x ∈ l, -1000000 ≤ x ∧ x ≤ 1000000) : keyOf P T (.agg (l.map fun x => Value.int .i64 x).toArray) = some (kl6 l) := by
  match l, hl with
  | [a, b, c, d, e, f], _ =>
    have ha := wf_small (hw a (by simp))
    have hb := wf_small (hw b (by simp))
    have hc := wf_small (hw c (by simp))
    have hd := wf_small (hw d (by simp))
    have he := wf_small (hw e (by simp))
    have hf := wf_small (hw f (by simp))
    have hr : List.range 6 = [0, 1, 2, 3, 4, 5] := rfl
    unfold keyOf
    simp [hT, hk, Value.formed, c6, Value.cells, hs, Program.keyLits, hI, c1, hr, ha, hb, hc, hd, he, hf, kl6]
end Go.Proofs.Tg
end
section
/- Characters and classes of monomials. Plain lists. -/
namespace Go.Ev
open Go.Gr Go.Mo
def b01 (l : List Int) : Bool := l.all fun x => x == 0 || x == 1
theorem b01_iff {l : List Int} : b01 l = true ↔ Bit01 l := by unfold b01 Bit01; simp
def badM (l : List (List Int)) : Bool := l.any fun m => !vldM m
def badS (s : List (List Int)) : Bool := s.any fun v => !b01 v
def diffL (s l : List (List Int)) : Bool := s.any fun v => l.any fun m => decide (v.length ≠ m.length)
/-- The error of sign vectors and monomials. -/
def chk (s l : List (List Int)) : Int := if badM l = true ∨ badS s = true then 1 else if diffL s l = true then 4 else 0
theorem badM_iff {l : List (List Int)} : badM l = true ↔ ∃ m ∈ l, vldM m = false := by unfold badM; simp
theorem badS_iff {l : List (List Int)} : badS l = true ↔ ∃ m ∈ l, b01 m = false := by unfold badS; simp
theorem diffL_iff {s l : List (List Int)} : diffL s l = true ↔ ∃ v ∈ s, ∃ m ∈ l, v.length ≠ m.length := by unfold diffL; simp
theorem chk_bad {s l : List (List Int)} (h : (∃ m ∈ l, vldM m = false) ∨ ∃ v ∈ s, b01 v = false) : chk s l = 1 := by
  unfold chk
  rw [if_pos (h.imp badM_iff.2 badS_iff.2)]
theorem chk_diff {s l : List (List Int)} (h1 : ∀ m ∈ l, vldM m = true) (h2 : ∀ v ∈ s, b01 v = true) (h : ∃ v ∈ s, ∃ m ∈ l, v.length ≠ m.length) : chk s l = 4 := by
  unfold chk
  rw [if_neg, if_pos (diffL_iff.2 h)]
  rw [badM_iff, badS_iff]
  rintro (⟨m, hm, e⟩ | ⟨m, hm, e⟩)
  · rw [h1 m hm] at e; cases e
  · rw [h2 m hm] at e; cases e
theorem chk_ok {s l : List (List Int)} (h1 : ∀ m ∈ l, vldM m = true) (h2 : ∀ v ∈ s, b01 v = true) (h : ∀ v ∈ s, ∀ m ∈ l, v.length = m.length) : chk s l = 0 := by
  unfold chk
  rw [if_neg, if_neg]
  · rw [diffL_iff]
    rintro ⟨v, hv, m, hm, e⟩
    exact e (h v hv m hm)
  · rw [badM_iff, badS_iff]
    rintro (⟨m, hm, e⟩ | ⟨m, hm, e⟩)
    · rw [h1 m hm] at e; cases e
    · rw [h2 m hm] at e; cases e
theorem chk_inv {s l : List (List Int)} (h : chk s l = 0) : (∀ m ∈ l, vldM m = true) ∧ (∀ v ∈ s, b01 v = true) ∧ ∀ v ∈ s, ∀ m ∈ l, v.length = m.length := by
  unfold chk at h
  split at h
  · omega
  · rename_i h1
    split at h
    · omega
    · rename_i h2
      rw [badM_iff, badS_iff] at h1
      rw [diffL_iff] at h2
      refine ⟨fun m hm => ?_, fun v hv => ?_, fun v hv m hm => ?_⟩
      · cases e : vldM m with
        | true => rfl
        | false => exact absurd (.inl ⟨m, hm, e⟩) h1
      · cases e : b01 v with
        | true => rfl
        | false => exact absurd (.inr ⟨v, hv, e⟩) h1
      · apply Classical.byContradiction
        intro e
        exact h2 ⟨v, hv, m, hm, e⟩
/-- The character of a monomial. -/
def chr (s : List (List Int)) (m : List Int) : List Int := s.map fun v => dotN m v v.length % 2
theorem chr_len (s : List (List Int)) (m : List Int) : (chr s m).length = s.length := by simp [chr]
theorem chr_bit (s : List (List Int)) (m : List Int) : ∀ x ∈ chr s m, x = 0 ∨ x = 1 := by
  intro x hx
  obtain ⟨v, _, rfl⟩ := List.mem_map.1 hx
  omega
theorem chr_odd {m v : List Int} (hv : Bit01 v) (hm : ∀ x ∈ m, 0 ≤ x) (hl : v.length = m.length) (h64 : m.length ≤ 64) : (dotN m v v.length % 2 = if size (pk v v.length &&& pk m m.length) % 2 = 1 then 1 else 0) := by
  rw [size_and m _ m.length h64, dotN_pr m v v.length hv rfl hm v.length (Nat.le_refl _), hl]
  split <;> omega
/-- The classes: keys so far and the indices of each. -/
def clsSt (ks : List (List Int)) : Nat → List (List Int) × List (List Nat)
  | 0 => ([], [])
  | i + 1 =>
    let K := (clsSt ks i).1
    let C := (clsSt ks i).2
    let k := K.idxOf (ks.getD i [])
    if k < K.length then (K, C.set k (C.getD k [] ++ [i])) else (K ++ [ks.getD i []], C ++ [[i]])
theorem clsSt_len (ks : List (List Int)) : ∀ i, (clsSt ks i).1.length = (clsSt ks i).2.length ∧ (clsSt ks i).1.length ≤ i
  | 0 => by simp [clsSt]
  | i + 1 => by
    have ih := clsSt_len ks i
    simp only [clsSt]
    split
    · simp only [List.length_set]; omega
    · simp only [List.length_append, List.length_cons, List.length_nil]; omega
theorem clsSt_old {ks : List (List Int)} {i : Nat} (h : (clsSt ks i).1.idxOf (ks.getD i []) < (clsSt ks i).1.length) : clsSt ks (i + 1) = ((clsSt ks i).1, (clsSt ks i).2.set ((clsSt ks i).1.idxOf (ks.getD i [])) ((clsSt ks i).2.getD ((clsSt ks i).1.idxOf (ks.getD i [])) [] ++ [i])) := by
  simp only [clsSt]; rw [if_pos h]
theorem clsSt_new {ks : List (List Int)} {i : Nat} (h : ¬ (clsSt ks i).1.idxOf (ks.getD i []) < (clsSt ks i).1.length) : clsSt ks (i + 1) = ((clsSt ks i).1 ++ [ks.getD i []], (clsSt ks i).2 ++ [[i]]) := by
  simp only [clsSt]; rw [if_neg h]
theorem clsSt_each (ks : List (List Int)) : ∀ i j, ((clsSt ks i).2.getD j []).length ≤ i
  | 0, j => by simp [clsSt]
  | i + 1, j => by
    have ih := clsSt_each ks i
    by_cases hc : (clsSt ks i).1.idxOf (ks.getD i []) < (clsSt ks i).1.length
    · rw [clsSt_old hc]
      have hk := (clsSt_len ks i).1
      generalize (clsSt ks i).1.idxOf (ks.getD i []) = k at *
      have h1 := ih j
      have h2 := ih k
      generalize (clsSt ks i).2 = C at *
      simp only [List.getD_eq_getElem?_getD, List.getElem?_set] at h1 h2 ⊢
      by_cases e : k = j
      · subst e
        rw [if_pos rfl, if_pos (by omega)]
        simp only [Option.getD_some, List.length_append, List.length_cons, List.length_nil]
        omega
      · rw [if_neg e]; omega
    · rw [clsSt_new hc]
      have h1 := ih j
      generalize (clsSt ks i).2 = C at *
      simp only [List.getD_eq_getElem?_getD] at h1 ⊢
      rcases Nat.lt_or_ge j C.length with h | h
      · rw [List.getElem?_append_left h]; omega
      · rw [List.getElem?_append_right h]
        cases hh : j - C.length with
        | zero => simp
        | succ z => simp
end Go.Ev
end
section
/- Sign symmetries: what the search over all sign vectors finds. Plain numbers. -/
namespace Go.Ev
open Go.Gr
/-- The parities of the rows, as marks. -/
def occF (rows : List (List Int)) (i : Nat) : Bool := rows.any fun r => pk r r.length == i
theorem occF_app (rows : List (List Int)) (r : List Int) (i : Nat) : occF (rows ++ [r]) i = (occF rows i || (pk r r.length == i)) := by
  unfold occF; rw [List.any_append]; simp
/-- A sign vector that has an even number of bits in common with each marked number. -/
def goodS (f : Nat → Bool) (x : Nat) : Bool := (List.range 64).all fun e => !(f e && decide (size (x &&& e) % 2 = 1))
theorem goodS_iff {f : Nat → Bool} {x : Nat} : goodS f x = true ↔ ∀ e, e < 64 → f e = true → size (x &&& e) % 2 ≠ 1 := by
  unfold goodS
  rw [List.all_eq_true]
  constructor
  · intro h e he hf
    have := h e (List.mem_range.2 he)
    simpa [hf] using this
  · intro h e he
    have := h e (List.mem_range.1 he)
    cases hf : f e with
    | false => rfl
    | true => simpa using this hf
theorem good_V {rows : List (List Int)} {n x : Nat} (hn : n ≤ 6) (hx : x < 2 ^ n) (hr : ∀ r ∈ rows, r.length = n) : goodS (occF rows) x = true ↔ V rows n x := by
  have h6 : 2 ^ n ≤ 2 ^ 6 := Nat.pow_le_pow_right (by omega) hn
  rw [goodS_iff]
  constructor
  · intro h
    refine ⟨hx, fun r hr' => ?_⟩
    have hl := hr r hr'
    have hp := pk_lt r r.length
    rw [hl] at hp
    have := h (pk r n) (by omega) (by unfold occF; exact List.any_eq_true.2 ⟨r, hr', by rw [hl]; simp⟩)
    rw [size_and r x n (by omega)] at this
    omega
  · intro h e he hf
    unfold occF at hf
    obtain ⟨r, hr', hre⟩ := List.any_eq_true.1 hf
    have hl := hr r hr'
    have e2 : pk r n = e := by rw [hl] at hre; simpa using hre
    rw [← e2, size_and r x n (by omega), h.2 r hr']
    decide
/-- The vectors that the search has found below s. -/
def fnd (f : Nat → Bool) (s : Nat) : List Nat := (List.range s).filter fun x => decide (0 < x) && goodS f x
theorem fnd_succ (f : Nat → Bool) (s : Nat) (hs : 0 < s) : fnd f (s + 1) = fnd f s ++ (if goodS f s = true then [s] else []) := by
  unfold fnd
  rw [List.range_succ, List.filter_append]
  congr 1
  simp [List.filter_cons, hs]
theorem fnd_one (f : Nat → Bool) : fnd f 1 = [] := rfl
theorem fnd_len (f : Nat → Bool) (s : Nat) : (fnd f s).length ≤ s := by
  unfold fnd
  exact Nat.le_trans (List.length_filter_le _ _) (by simp)
theorem fnd_space {rows : List (List Int)} {n : Nat} (hn : n ≤ 6) (hr : ∀ r ∈ rows, r.length = n) :
    (∀ v ∈ fnd (occF rows) (2 ^ n), V rows n v) ∧ ∀ x, V rows n x → Span (fnd (occF rows) (2 ^ n)) x := by
  constructor
  · intro v hv
    obtain ⟨h1, h2⟩ := List.mem_filter.1 hv
    have h1 := List.mem_range.1 h1
    rw [Bool.and_eq_true] at h2
    exact (good_V hn h1 hr).1 h2.2
  · intro x hx
    by_cases h0 : x = 0
    · subst h0; exact .zero
    · exact Span.mem (List.mem_filter.2 ⟨List.mem_range.2 hx.1, by rw [(good_V hn hx.1 hr).2 hx, decide_eq_true (Nat.pos_of_ne_zero h0)]; rfl⟩)
end Go.Ev
end
section
/- The reduced vectors, by search: a test that can be run. Plain numbers. -/
namespace Go.Ev
def Vb (rows : List (List Int)) (n x : Nat) : Bool := decide (x < 2 ^ n) && rows.all fun r => pr r x n % 2 == 0
theorem Vb_iff {rows : List (List Int)} {n x : Nat} : Vb rows n x = true ↔ V rows n x := by unfold Vb V; simp
def leadB (x k : Nat) : Bool := x.testBit k && (List.range k).all fun b => !x.testBit b
theorem leadB_iff {x k : Nat} : leadB x k = true ↔ Lead x k := by unfold leadB Lead; simp
def redB (rows : List (List Int)) (n x : Nat) : Bool := (List.range (2 ^ n)).all fun t => (List.range n).all fun k => (List.range n).all fun l => !(Vb rows n t && leadB t k && leadB x l && decide (l < k) && x.testBit k)
theorem redB_iff {rows : List (List Int)} {n x : Nat} (hx : x < 2 ^ n) : redB rows n x = true ↔ Red (V rows n) x := by
  unfold redB Red
  simp only [List.all_eq_true, List.mem_range]
  constructor
  · intro h t k l ht hk hl hlk
    have := h t ht.1 k (lead_lt ht.1 hk) l (lead_lt hx hl)
    cases hb : x.testBit k with
    | false => rfl
    | true => rw [Vb_iff.2 ht, leadB_iff.2 hk, leadB_iff.2 hl, decide_eq_true hlk, hb] at this; cases this
  · intro h t _ k _ l _
    by_cases hc : V rows n t ∧ Lead t k ∧ Lead x l ∧ l < k
    · rw [h t k l hc.1 hc.2.1 hc.2.2.1 hc.2.2.2]; simp
    · cases hv : Vb rows n t with
      | false => rfl
      | true =>
        cases h1 : leadB t k with
        | false => rfl
        | true =>
          cases h2 : leadB x l with
          | false => rfl
          | true =>
            have : ¬ l < k := fun h3 => hc ⟨Vb_iff.1 hv, leadB_iff.1 h1, leadB_iff.1 h2, h3⟩
            rw [decide_eq_false this]; rfl
def keepB (rows : List (List Int)) (n x : Nat) : Bool := Vb rows n x && redB rows n x
/-- The rows of the echelon form are those that the search keeps. -/
theorem rows_keep {rows : List (List Int)} {n r : Nat} {us : List Nat} {p : Nat → Nat} (h : EInv (V rows n) n us r p) : us.take r = kern (keepB rows n) n (2 ^ n - 1) :=
  rows_kern h (V_space rows n) (keepB rows n) (fun x _ hx => by unfold keepB; rw [Bool.and_eq_true, Vb_iff, redB_iff hx])
end Go.Ev
end
section
/- The text of a number's negative; a sign vector applied to a polynomial. -/
namespace Go.Mo
open Go.Qn Go.Lib
def negL (l : List UInt8) : List UInt8 := if l.head? = some 45 then l.tail else 45 :: l
theorem negL_text {b : Bool} {n d : Nat} : negL (text b n d) = text (!b) n d := by
  cases b with
  | true => simp [negL, text]
  | false =>
    have hne := dec_ne n
    have hh : (text false n d).head? ≠ some 45 := by
      unfold text
      simp only [Bool.false_eq_true, if_false, List.nil_append]
      rw [List.head?_append]
      cases hx : decDigits n with
      | nil => exact absurd hx hne
      | cons c t =>
        simp only [List.head?_cons, Option.some_or]
        intro e
        injection e with e
        have := dec_allD n c (by rw [hx]; simp)
        rw [e] at this
        exact absurd this (by decide)
    unfold negL
    rw [if_neg hh]
    simp [text]
theorem rd_neg {l : List UInt8} {b : Bool} {n d : Nat} (h : rd l = some (b, n, d)) (h0 : n ≠ 0) : rd (negL l) = some (!b, n, d) := by
  obtain ⟨hc, rfl⟩ := rd_some h
  rw [negL_text]
  exact rd_text ⟨hc.1, hc.2.1, fun e => absurd e h0⟩
theorem negL_negL {l : List UInt8} {b : Bool} {n d : Nat} (h : rd l = some (b, n, d)) : negL (negL l) = l := by
  obtain ⟨hc, rfl⟩ := rd_some h
  rw [negL_text, negL_text, Bool.not_not]
theorem negL_len (l : List UInt8) : (negL l).length ≤ l.length + 1 := by
  unfold negL; split
  · rw [List.length_tail]; omega
  · simp
theorem negL_ne (l : List UInt8) : negL l ≠ l := by
  intro h
  have := congrArg List.length h
  unfold negL at this
  split at this
  · rename_i h1
    cases l with
    | nil => simp at h1
    | cons c t => simp at this
  · simp at this
def negB (s : ByteArray) : ByteArray := ⟨(negL s.data.toList).toArray⟩
theorem negB_data (s : ByteArray) : (negB s).data.toList = negL s.data.toList := by simp [negB]
theorem coef_some {s : ByteArray} (h : coefOk s = true) : ∃ b n d, rd s.data.toList = some (b, n, d) ∧ n ≠ 0 := by
  unfold coefOk at h
  split at h
  · rename_i b n d hr
    exact ⟨b, n, d, hr, by simpa using h⟩
  · cases h
theorem coef_neg {s : ByteArray} (h : coefOk s = true) : coefOk (negB s) = true := by
  obtain ⟨b, n, d, hr, h0⟩ := coef_some h
  unfold coefOk
  rw [negB_data, rd_neg hr h0]
  simpa using h0
theorem negB_negB {s : ByteArray} (h : coefOk s = true) : negB (negB s) = s := by
  obtain ⟨b, n, d, hr, h0⟩ := coef_some h
  have : (negB (negB s)).data.toList = s.data.toList := by rw [negB_data, negB_data, negL_negL hr]
  cases s
  rename_i dt
  have e : (negB (negB ⟨dt⟩)).data = dt := Array.toList_inj.1 this
  exact congrArg ByteArray.mk e
theorem negB_ne (s : ByteArray) : negB s ≠ s := by
  intro h
  have : (negB s).data.toList = s.data.toList := by rw [h]
  rw [negB_data] at this
  exact negL_ne _ this
theorem negB_size (s : ByteArray) : (negB s).size ≤ s.size + 1 := by
  have h1 := negL_len s.data.toList
  have h2 : (negB s).size = (negL s.data.toList).length := rfl
  have h3 : s.data.toList.length = s.size := rfl
  omega
/-! A sign vector applied. -/
def oddT (s e : List Int) : Bool := decide (Gr.size (Ev.pk s s.length &&& Ev.pk e e.length) % 2 = 1)
def appT (s : List Int) (t : Term) : Term := if oddT s t.2 = true then (negB t.1, t.2) else t
theorem appT_exps (s : List Int) (t : Term) : (appT s t).2 = t.2 := by unfold appT; split <;> rfl
theorem appT_ok {s : List Int} {v : Int} {t : Term} (h : termOk v t = true) : termOk v (appT s t) = true := by
  rw [termOk_iff] at h ⊢
  rw [appT_exps]
  refine ⟨?_, h.2⟩
  unfold appT
  split
  · exact coef_neg h.1
  · exact h.1
theorem appT_appT {s : List Int} {v : Int} {t : Term} (h : termOk v t = true) : appT s (appT s t) = t := by
  rw [termOk_iff] at h
  by_cases ho : oddT s t.2 = true
  · have e1 : appT s t = (negB t.1, t.2) := if_pos ho
    rw [e1]
    unfold appT
    rw [if_pos ho, negB_negB h.1]
  · have e1 : appT s t = t := if_neg ho
    rw [e1, e1]
theorem appT_size (s : List Int) (t : Term) : (appT s t).1.size ≤ t.1.size + 1 := by
  unfold appT
  split
  · exact negB_size _
  · omega
theorem appT_same {s : List Int} {t : Term} : appT s t = t ↔ oddT s t.2 = false := by
  unfold appT
  constructor
  · intro h
    cases ho : oddT s t.2 with
    | false => rfl
    | true =>
      rw [if_pos ho] at h
      exact absurd (congrArg Prod.fst h) (negB_ne _)
  · intro h
    rw [if_neg (by rw [h]; decide)]
theorem app_valid {s : List Int} {v : Int} {ts : List Term} (h : VldP v ts) : VldP v (ts.map (appT s)) := by
  obtain ⟨h1, ⟨h2, h3, h4⟩, h5⟩ := h
  refine ⟨by simpa using h1, ⟨h2, h3, ?_⟩, ?_⟩
  · intro i hi hl
    have hl' : i < ts.length := by simpa using hl
    obtain ⟨a, b⟩ := h4 i hl' hl'
    rw [List.getElem_map]
    refine ⟨appT_ok a, fun hi0 => ?_⟩
    have := b hi0
    have hi1 : i - 1 < ts.length := by omega
    rw [appT_exps]
    simp only [List.getD_eq_getElem?_getD, List.getElem?_map, List.getElem?_eq_getElem hi1, Option.map_some, Option.getD_some, appT_exps]
    simpa [List.getD_eq_getElem?_getD, List.getElem?_eq_getElem hi1] using this
  · intro h
    have h' : 0 < ts.length := by simpa using h
    rw [List.getElem_map, appT_exps]
    exact h5 h'
theorem app_app {s : List Int} {v : Int} {ts : List Term} (h : VldP v ts) : (ts.map (appT s)).map (appT s) = ts := by
  rw [List.map_map]
  have : ∀ t ∈ ts, (appT s ∘ appT s) t = t := by
    intro t ht
    obtain ⟨i, hi, rfl⟩ := List.getElem_of_mem ht
    exact appT_appT (h.2.1.2.2 i hi hi).1
  exact (List.map_congr_left this).trans (List.map_id' _)
theorem app_same {s : List Int} {ts : List Term} : ts.map (appT s) = ts ↔ ∀ t ∈ ts, oddT s t.2 = false := by
  constructor
  · intro h t ht
    obtain ⟨i, hi, rfl⟩ := List.getElem_of_mem ht
    have : (ts.map (appT s))[i]? = ts[i]? := by rw [h]
    rw [List.getElem?_map, List.getElem?_eq_getElem hi, Option.map_some] at this
    injection this with this
    exact appT_same.1 this
  · intro h
    exact (List.map_congr_left (fun t ht => appT_same.2 (h t ht))).trans (List.map_id' _)
end Go.Mo
end
section
/- Sums of sign vectors: plain. -/
namespace Go.Ev
open Go.Gr Go.Mo
theorem V_zero (rows : List (List Int)) (n : Nat) : V rows n 0 :=
  ⟨Nat.two_pow_pos n, fun row _ => by have := pr_xor row 0 0 n; rw [Nat.xor_self] at this; omega⟩
/-- The sum of the vectors of a list that a number selects by its bits. -/
def selX (K : List Nat) (b : Nat) : Nat → Nat
  | 0 => 0
  | i + 1 => selX K b i ^^^ (if b.testBit i = true then K.getD i 0 else 0)
theorem selX_V {rows : List (List Int)} {n : Nat} {K : List Nat} (hK : ∀ x ∈ K, V rows n x) (b : Nat) : ∀ i, V rows n (selX K b i)
  | 0 => V_zero rows n
  | i + 1 => by
    unfold selX
    refine (V_space rows n).xor _ _ (selX_V hK b i) ?_
    split
    · by_cases h : i < K.length
      · have : K.getD i 0 = K[i] := by simp [h]
        rw [this]; exact hK _ (List.getElem_mem _)
      · have : K.getD i 0 = 0 := by simp [h]
        rw [this]; exact V_zero rows n
    · exact V_zero rows n
theorem selX_lt {n : Nat} {K : List Nat} (hK : ∀ x ∈ K, x < 2 ^ n) (b : Nat) : ∀ i, selX K b i < 2 ^ n
  | 0 => Nat.two_pow_pos n
  | i + 1 => by
    unfold selX
    refine Nat.xor_lt_two_pow (selX_lt hK b i) ?_
    split
    · by_cases h : i < K.length
      · have : K.getD i 0 = K[i] := by simp [h]
        rw [this]; exact hK _ (List.getElem_mem _)
      · have : K.getD i 0 = 0 := by simp [h]
        rw [this]; exact Nat.two_pow_pos n
    · exact Nat.two_pow_pos n
theorem unp_zero (n : Nat) : unp 0 n = List.replicate n 0 := by
  unfold unp
  simp [List.map_const']
/-- The sum of two vectors, made up to position k. -/
def mixL (x y n k : Nat) : List Int := unp (x ^^^ y) k ++ (unp x n).drop k
theorem mixL_len (x y : Nat) {n k : Nat} (h : k ≤ n) : (mixL x y n k).length = n := by
  unfold mixL
  rw [List.length_append, unp_len, List.length_drop, unp_len]; omega
theorem mixL_zero (x y n : Nat) : mixL x y n 0 = unp x n := by simp [mixL, unp]
theorem mixL_full (x y n : Nat) : mixL x y n n = unp (x ^^^ y) n := by
  unfold mixL
  rw [List.drop_of_length_le (by rw [unp_len]; exact Nat.le_refl _), List.append_nil]
theorem mixL_at (x y : Nat) {n k : Nat} (h : k < n) : (mixL x y n k)[k]'(by rw [mixL_len x y (by omega)]; exact h) = if x.testBit k = true then 1 else 0 := by
  unfold mixL
  rw [List.getElem_append_right (by rw [unp_len]; exact Nat.le_refl _)]
  simp [unp]
theorem mixL_set (x y : Nat) {n k : Nat} (h : k < n) : (mixL x y n k).set k (if (x ^^^ y).testBit k = true then 1 else 0) = mixL x y n (k + 1) := by
  have hd : (unp x n).drop k = (if x.testBit k = true then 1 else 0) :: (unp x n).drop (k + 1) := by
    rw [List.drop_eq_getElem_cons (by rw [unp_len]; exact h)]
    simp [unp]
  have hu : unp (x ^^^ y) (k + 1) = unp (x ^^^ y) k ++ [if (x ^^^ y).testBit k = true then 1 else 0] := by
    unfold unp; rw [List.range_succ, List.map_append]; rfl
  unfold mixL
  rw [hd, hu, List.set_append_right _ _ (by rw [unp_len]; exact Nat.le_refl _), unp_len, Nat.sub_self, List.set_cons_zero, List.append_assoc]
  rfl
theorem bit_step (p q b : Bool) : ((if p = true then (1 : Int) else 0) + (if q = true then 1 else 0) * (if b = true then 1 else 0)) % 2 = if (p ^^ (b && q)) = true then 1 else 0 := by
  cases p <;> cases q <;> cases b <;> rfl
theorem sel_bit (u : Nat) (b : Bool) (k : Nat) : (if b = true then u else 0).testBit k = (b && u.testBit k) := by
  cases b <;> simp
/-- A vector of the space changes no term. -/
theorem odd_V {rows : List (List Int)} {n x : Nat} (hn : n ≤ 64) (h : V rows n x) {e : List Int} (he : e ∈ rows) (hl : e.length = n) : oddT (unp x n) e = false := by
  unfold oddT
  rw [unp_len, pk_unp h.1, hl, size_and e x n hn]
  have := h.2 e he
  simp [this]
theorem V_odd {rows : List (List Int)} {n x : Nat} (hn : n ≤ 64) (hx : x < 2 ^ n) (hr : ∀ e ∈ rows, e.length = n) (h : ∀ e ∈ rows, oddT (unp x n) e = false) : V rows n x := by
  refine ⟨hx, fun e he => ?_⟩
  have := h e he
  unfold oddT at this
  rw [unp_len, pk_unp hx, hr e he, size_and e x n hn] at this
  have h2 : ¬ pr e x n % 2 = 1 := by simpa using this
  omega
end Go.Ev
end
section
/- Classes and products of monomials: plain. -/
namespace Go.Ev
open Go.Gr Go.Mo
/-- What the classes hold: the keys are different, each index is in the class of its key. -/
structure ClsInv (ks : List (List Int)) (i : Nat) : Prop where
  nodup : (clsSt ks i).1.Nodup
  mem : ∀ x, x < i → ks.getD x [] ∈ (clsSt ks i).1
  cls : ∀ j, j < (clsSt ks i).1.length → (clsSt ks i).2.getD j [] = (List.range i).filter (fun x => decide (ks.getD x [] = (clsSt ks i).1.getD j []))
theorem getD_idxOf {K : List (List Int)} {q : List Int} (h : K.idxOf q < K.length) : K.getD (K.idxOf q) [] = q := by
  simp [List.getD_eq_getElem?_getD, h]
theorem clsInv (ks : List (List Int)) : ∀ i, ClsInv ks i
  | 0 => ⟨by simp [clsSt], fun x h => by omega, fun j h => by simp [clsSt] at h⟩
  | i + 1 => by
    have ih := clsInv ks i
    have hl := (clsSt_len ks i).1
    obtain ⟨h1, h2, h3⟩ := ih
    by_cases hc : (clsSt ks i).1.idxOf (ks.getD i []) < (clsSt ks i).1.length
    · have e := clsSt_old hc
      have hq := getD_idxOf hc
      refine ⟨by rw [e]; exact h1, fun x hx => ?_, fun j hj => ?_⟩
      · rw [e]
        by_cases hxi : x < i
        · exact h2 x hxi
        · obtain rfl : x = i := by omega
          exact List.idxOf_lt_length_iff.1 hc
      · rw [e] at hj ⊢
        simp only at hj ⊢
        have h3j := h3 j hj
        rw [List.range_succ, List.filter_append]
        generalize (clsSt ks i).1.idxOf (ks.getD i []) = k at *
        by_cases hjk : j = k
        · subst hjk
          rw [List.getD_eq_getElem?_getD, List.getElem?_set_self (by omega), Option.getD_some, h3j]
          rw [hq]
          simp
        · have hne : ¬ ks.getD i [] = (clsSt ks i).1.getD j [] := by
            rw [← hq]
            intro he
            have a1 : (clsSt ks i).1.getD k [] = (clsSt ks i).1[k] := by simp [hc]
            have a2 : (clsSt ks i).1.getD j [] = (clsSt ks i).1[j] := by simp [hj]
            rw [a1, a2] at he
            exact hjk ((List.getElem_inj h1).1 he).symm
          rw [List.getD_eq_getElem?_getD, List.getElem?_set_ne (by omega), ← List.getD_eq_getElem?_getD, h3j]
          simpa [List.filter_cons] using hne
    · have e := clsSt_new hc
      have hq : ks.getD i [] ∉ (clsSt ks i).1 := fun h => hc (List.idxOf_lt_length_iff.2 h)
      refine ⟨?_, fun x hx => ?_, fun j hj => ?_⟩
      · rw [e]
        refine List.nodup_append.2 ⟨h1, by simp, fun a ha b hb => ?_⟩
        rw [List.mem_singleton.1 hb]
        rintro rfl
        exact hq ha
      · rw [e]
        by_cases hxi : x < i
        · exact List.mem_append_left _ (h2 x hxi)
        · obtain rfl : x = i := by omega
          exact List.mem_append_right _ (by simp)
      · rw [e] at hj ⊢
        simp only at hj ⊢
        rw [List.range_succ, List.filter_append]
        by_cases hji : j < (clsSt ks i).1.length
        · have h3j := h3 j hji
          have a1 : ((clsSt ks i).1 ++ [ks.getD i []]).getD j [] = (clsSt ks i).1.getD j [] := by
            simp only [List.getD_eq_getElem?_getD, List.getElem?_append_left hji]
          have a2 : ((clsSt ks i).2 ++ [[i]]).getD j [] = (clsSt ks i).2.getD j [] := by
            simp only [List.getD_eq_getElem?_getD, List.getElem?_append_left (show j < (clsSt ks i).2.length by omega)]
          have hne : ¬ ks.getD i [] = (clsSt ks i).1.getD j [] := by
            intro he
            have a1 : (clsSt ks i).1.getD j [] = (clsSt ks i).1[j] := by simp [hji]
            rw [a1] at he
            exact hq (by rw [he]; exact List.getElem_mem _)
          rw [a1, a2, h3j]
          simpa [List.filter_cons] using hne
        · have hj2 : j = (clsSt ks i).1.length := by
            rw [List.length_append, List.length_cons, List.length_nil] at hj; omega
          subst hj2
          have a1 : ((clsSt ks i).1 ++ [ks.getD i []]).getD (clsSt ks i).1.length [] = ks.getD i [] := by
            simp [List.getD_eq_getElem?_getD]
          have a2 : ((clsSt ks i).2 ++ [[i]]).getD (clsSt ks i).1.length [] = [i] := by
            rw [hl]; simp [List.getD_eq_getElem?_getD]
          rw [a1, a2]
          have hn : (List.range i).filter (fun x => decide (ks.getD x [] = ks.getD i [])) = [] := by
            rw [List.filter_eq_nil_iff]
            intro x hx
            have := h2 x (List.mem_range.1 hx)
            simp only [decide_eq_true_eq]
            intro he
            exact hq (he ▸ this)
          rw [hn]
          simp
/-- The number of the class of an index. -/
def cix (ks : List (List Int)) (x : Nat) : Nat := (clsSt ks ks.length).1.idxOf (ks.getD x [])
theorem cix_lt {ks : List (List Int)} {x : Nat} (h : x < ks.length) : cix ks x < (clsSt ks ks.length).2.length := by
  rw [← (clsSt_len ks ks.length).1]
  exact List.idxOf_lt_length_iff.2 ((clsInv ks ks.length).mem x h)
theorem cix_mem {ks : List (List Int)} {x j : Nat} (hj : j < (clsSt ks ks.length).2.length) : x ∈ (clsSt ks ks.length).2.getD j [] ↔ x < ks.length ∧ cix ks x = j := by
  have hI := clsInv ks ks.length
  rw [← (clsSt_len ks ks.length).1] at hj
  rw [hI.cls j hj, List.mem_filter, List.mem_range]
  refine ⟨fun ⟨h1, h2⟩ => ⟨h1, ?_⟩, fun ⟨h1, h2⟩ => ⟨h1, ?_⟩⟩
  · have h2 := of_decide_eq_true h2
    unfold cix
    have a1 : (clsSt ks ks.length).1.getD j [] = (clsSt ks ks.length).1[j] := by simp [hj]
    rw [h2, a1]
    exact hI.nodup.idxOf_getElem j hj
  · refine decide_eq_true ?_
    subst h2
    exact (getD_idxOf (List.idxOf_lt_length_iff.2 (hI.mem x h1))).symm
theorem cix_nodup (ks : List (List Int)) (j : Nat) : ((clsSt ks ks.length).2.getD j []).Nodup := by
  by_cases hj : j < (clsSt ks ks.length).1.length
  · rw [(clsInv ks ks.length).cls j hj]
    exact List.nodup_range.filter _
  · have : (clsSt ks ks.length).2.getD j [] = [] := by
      rw [(clsSt_len ks ks.length).1] at hj
      rw [List.getD_eq_getElem?_getD, List.getElem?_eq_none (by omega)]; rfl
    rw [this]; exact List.nodup_nil
theorem cix_eq {ks : List (List Int)} {x y : Nat} (hx : x < ks.length) (hy : y < ks.length) : cix ks x = cix ks y ↔ ks.getD x [] = ks.getD y [] := by
  have hI := clsInv ks ks.length
  refine ⟨fun h => ?_, fun h => by unfold cix; rw [h]⟩
  have h1 := getD_idxOf (List.idxOf_lt_length_iff.2 (hI.mem x hx))
  have h2 := getD_idxOf (List.idxOf_lt_length_iff.2 (hI.mem y hy))
  rw [← h1, ← h2]
  unfold cix at h
  rw [h]
/-- The numbers of the classes, made up to element k of class i. -/
def mkd (ix : Nat → Nat) (C : List Nat) (n i k : Nat) : List Int := (List.range n).map fun x => if ix x < i then (ix x : Int) + 1 else if ix x = i ∧ x ∈ C.take k then (i : Int) + 1 else 0
theorem mkd_len (ix : Nat → Nat) (C : List Nat) (n i k : Nat) : (mkd ix C n i k).length = n := by simp [mkd]
theorem mkd_zero (ix : Nat → Nat) (C : List Nat) (n : Nat) : mkd ix C n 0 0 = List.replicate n 0 := by
  unfold mkd
  rw [List.eq_replicate_iff]
  refine ⟨by simp, fun b hb => ?_⟩
  obtain ⟨x, _, rfl⟩ := List.mem_map.1 hb
  simp
theorem mkd_get (ix : Nat → Nat) (C : List Nat) {n i k x : Nat} (hx : x < n) : (mkd ix C n i k)[x]'(by rw [mkd_len]; exact hx) = if ix x < i then (ix x : Int) + 1 else if ix x = i ∧ x ∈ C.take k then (i : Int) + 1 else 0 := by simp [mkd]
theorem mkd_at (ix : Nat → Nat) (C : List Nat) {n i k x : Nat} (hx : x < n) (hi : ix x = i) (hC : C.Nodup) (hk : k < C.length) (he : C[k] = x) : (mkd ix C n i k)[x]'(by rw [mkd_len]; exact hx) = 0 := by
  rw [mkd_get ix C hx, if_neg (by omega), if_neg]
  rintro ⟨_, hm⟩
  rw [List.mem_take_iff_getElem] at hm
  obtain ⟨j, hj, hjx⟩ := hm
  have := (List.getElem_inj hC).1 (hjx.trans he.symm)
  omega
theorem mkd_set (ix : Nat → Nat) (C : List Nat) {n i k x : Nat} (_hx : x < n) (hi : ix x = i) (hk : k < C.length) (he : C[k] = x) : (mkd ix C n i k).set x ((i : Int) + 1) = mkd ix C n i (k + 1) := by
  refine List.ext_getElem (by simp [mkd]) fun j h1 h2 => ?_
  have hj : j < n := by rw [mkd_len] at h2; exact h2
  rw [mkd_get ix C hj, List.getElem_set]
  have ht : C.take (k + 1) = C.take k ++ [x] := by rw [List.take_succ_eq_append_getElem hk, he]
  by_cases hjx : x = j
  · subst hjx
    rw [if_pos rfl, if_neg (by omega), if_pos ⟨hi, by rw [ht]; simp⟩]
  · rw [if_neg hjx, mkd_get ix C hj]
    have e : (j ∈ C.take (k + 1)) ↔ j ∈ C.take k := by
      rw [ht]
      simp only [List.mem_append, List.mem_singleton]
      exact ⟨fun h => h.resolve_right (fun e => hjx e.symm), .inl⟩
    simp only [e]
theorem mkd_next (ix : Nat → Nat) (C C' : List Nat) {n i : Nat} (h : ∀ x, x < n → ix x = i → x ∈ C) : mkd ix C n i C.length = mkd ix C' n (i + 1) 0 := by
  unfold mkd
  refine List.map_congr_left fun x hx => ?_
  have hx := List.mem_range.1 hx
  rw [List.take_length, List.take_zero]
  by_cases h1 : ix x < i
  · rw [if_pos h1, if_pos (by omega)]
  · by_cases h2 : ix x = i
    · rw [if_neg h1, if_pos ⟨h2, h x hx h2⟩, if_pos (by omega), h2]
    · rw [if_neg h1, if_neg (fun e => h2 e.1), if_neg (by omega), if_neg (by simp)]
theorem mkd_full (ix : Nat → Nat) (C : List Nat) {n m x : Nat} (hx : x < n) (h : ix x < m) : (mkd ix C n m 0)[x]'(by rw [mkd_len]; exact hx) = (ix x : Int) + 1 := by
  rw [mkd_get ix C hx, if_pos h]
/-- The sum of two monomials. -/
def addL (a b : List Int) : List Int := List.zipWith (· + ·) a b
theorem addL_len {a b : List Int} (h : a.length = b.length) : (addL a b).length = a.length := by simp [addL, h]
theorem addL_getD {a b : List Int} (h : a.length = b.length) (i : Nat) : (addL a b).getD i 0 = a.getD i 0 + b.getD i 0 := by
  unfold addL
  simp only [List.getD_eq_getElem?_getD, List.getElem?_zipWith]
  rcases Nat.lt_or_ge i a.length with h1 | h1
  · rw [List.getElem?_eq_getElem h1, List.getElem?_eq_getElem (by omega)]; rfl
  · rw [List.getElem?_eq_none h1, List.getElem?_eq_none (by omega)]; rfl
theorem dotN_add {a b : List Int} (h : a.length = b.length) (v : List Int) : ∀ n, dotN (addL a b) v n = dotN a v n + dotN b v n
  | 0 => rfl
  | n + 1 => by
    simp only [dotN]
    rw [dotN_add h v n, addL_getD h, Int.add_mul]; omega
/-- The character of a product is 0 exactly if the characters are equal. -/
theorem chr_zero_iff {s : List (List Int)} {a b : List Int} (h : a.length = b.length) : chr s (addL a b) = List.replicate s.length 0 ↔ chr s a = chr s b := by
  unfold chr
  rw [List.eq_replicate_iff, List.map_inj_left]
  constructor
  · rintro ⟨_, h1⟩ v hv
    have := h1 _ (List.mem_map_of_mem hv)
    rw [dotN_add h] at this
    omega
  · intro h1
    refine ⟨by simp, fun x hx => ?_⟩
    obtain ⟨v, hv, rfl⟩ := List.mem_map.1 hx
    have := h1 v hv
    rw [dotN_add h]
    omega
/-- The exponents of a term have the character 0. -/
theorem chr_row {rows : List (List Int)} {n : Nat} {K : List Nat} (hn : n ≤ 64) (hK : ∀ x ∈ K, V rows n x) {e : List Int} (he : e ∈ rows) (hl : e.length = n) (h0 : ∀ x ∈ e, 0 ≤ x) : chr (K.map (unp · n)) e = List.replicate (K.map (unp · n)).length 0 := by
  unfold chr
  rw [List.eq_replicate_iff]
  refine ⟨by simp, fun x hx => ?_⟩
  obtain ⟨v, hv, rfl⟩ := List.mem_map.1 hx
  obtain ⟨y, hy, rfl⟩ := List.mem_map.1 hv
  have h1 := odd_V hn (hK y hy) he hl
  unfold oddT at h1
  rw [chr_odd (unp_bit y n) h0 (by rw [unp_len, hl]) (by omega)]
  have h2 := of_decide_eq_false h1
  rw [if_neg h2]
/-- The coefficient of a monomial among terms. -/
def cof (ts : List Term) (m : List Int) (z : ByteArray) : ByteArray := match ts.find? (fun t => decide (t.2 = m)) with
  | some t => t.1
  | none => z
theorem cof_none {ts : List Term} {m : List Int} {z : ByteArray} (h : ∀ t ∈ ts, t.2 ≠ m) : cof ts m z = z := by
  unfold cof
  rw [List.find?_eq_none.2 (fun t ht => by simp; exact h t ht)]
end Go.Ev
end
