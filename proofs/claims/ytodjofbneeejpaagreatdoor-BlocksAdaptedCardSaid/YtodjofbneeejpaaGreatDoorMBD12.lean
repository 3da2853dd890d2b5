/- Parts of the proof: WN1, WN2, WN3, AD3, AD4. -/
import Derived.Lib.AppendZeros
import Derived.Deep.Cut
import Derived.Test.YtodjofbneeejpaaGreatDoorMBD1
import Derived.Test.YtodjofbneeejpaaGreatDoorMBD10
import Derived.Test.YtodjofbneeejpaaGreatDoorMBD11
section
/- Short numbers of the program: the value of digits, the common divisor, reading. -/
namespace Go.Proofs.Tg
open Go.RowKit Go.Qn
set_option maxHeartbeats 2000000
set_option maxRecDepth 100000
theorem dval_any (s : ByteArray) (w : World) (hs : s.size ≤ 18) (hd : ∀ c ∈ s.data.toList, isD c = true) :
    Calls Tryz.prog 138 #[.string s] w fun e w' => e = .returned (.int .i64 (val s.data.toList : Nat)) ∧ w = w' := by
  have HD := Lib.hid hd
  have HL := Lib.hid (len_size s)
  clear hd
  go_enter Tryz.func138, Tryz.ntmps138
  go_wp2
  go_loop [3, 7] (fun s3 s7 => ∃ (k v : Nat), k ≤ s.size ∧ s7 = .int .i64 k ∧ s3 = .int .i64 v ∧ Hid (v = val (s.data.toList.take k) ∧ v < 10 ^ k)) (fun _ s7 => s.size - (intOf s7).toNat)
  case atStart => exact ⟨0, 0, Nat.zero_le _, rfl, rfl, Lib.hid ⟨rfl, by decide⟩⟩
  case round =>
   obtain ⟨k, v, hk, rfl, rfl, HV⟩ := hrel
   by_cases hlt : k < s.size
   ·have hlt' : k < s.data.toList.length := by rw [HL.out]; exact hlt
    have hD := HD.out s.data.toList[k] (List.getElem_mem _)
    obtain ⟨d1, d2⟩ := isD_int hD
    have HX : Hid (val (s.data.toList.take (k + 1)) = 10 * v + (s[k].toNat - 48)) := Lib.hid (by rw [val_take _ _ hlt', HV.out.1]; rfl)
    have hv : v < 100000000000000000 := Nat.lt_of_lt_of_le HV.out.2 (by
     have : 10 ^ k ≤ 10 ^ 17 := Nat.pow_le_pow_right (by omega) (by omega)
     exact Nat.le_trans this (by decide))
    have HP : Hid (10 * v + (s[k].toNat - 48) < 10 ^ (k + 1)) := Lib.hid (by
     have h1 := HV.out.2
     rw [Nat.pow_succ]
     have : s[k].toNat ≤ 57 := by have h := d2; change ((s[k].toNat : Int)) ≤ 57 at h; omega
     omega)
    have e1 : (48 : Int) ≤ (s[k].toNat : Int) := d1
    have e2 : (s[k].toNat : Int) ≤ 57 := d2
    clear hD d1 d2
    go_wp2
    go_round
    case rel => exact ⟨k + 1, 10 * v + (s[k].toNat - 48), by omega, by go_num, by go_num, Lib.hid ⟨HX.out.symm, HP.out⟩⟩
    case measure => simp [intOf]; omega
   ·obtain rfl : k = s.size := by omega
    have d0 : decide (s.size < s.size) = false := by simp
    go_wp2
    go_ret
    refine ⟨?_, rfl⟩
    have := HV.out.1
    rw [List.take_of_length_le (by rw [HL.out]; exact Nat.le_refl _)] at this
    rw [this]; rfl
theorem sgcd_any (a b : Nat) (w : World) (ha : a < 1000000000000000000) (hb : b < 1000000000000000000) :
    Calls Tryz.prog 139 #[.int .i64 a, .int .i64 b] w fun e w' => e = .returned (.int .i64 (Nat.gcd a b : Nat)) ∧ Below w.heap.size w w' := by
  go_enter Tryz.func139, Tryz.ntmps139
  go_wp2
  go_loopw [0, 1] (fun s0 s1 wr => ∃ (x y : Nat), s0 = .int .i64 x ∧ s1 = .int .i64 y ∧ x < 1000000000000000000 ∧ y < 1000000000000000000 ∧ Hid (Nat.gcd x y = Nat.gcd a b) ∧ Below w.heap.size w wr) (fun _ s1 _ => (intOf s1).toNat)
  case atStart => exact ⟨a, b, rfl, rfl, ha, hb, Lib.hid rfl, Below.refl _ _⟩
  case round =>
   obtain ⟨wo, rfl⟩ : ∃ wo : World, wo = wr := ⟨_, rfl⟩
   obtain ⟨x, y, rfl, rfl, hx, hy, HG, hbw⟩ := hrel
   by_cases h0 : y = 0
   ·subst h0
    go_wp2
    go_ret
    refine ⟨?_, hbw⟩
    have := HG.out
    rw [Nat.gcd_zero_right] at this
    rw [this]; rfl
   ·have hne : ((y : Int) != 0) = true := by simp [h0]
    have hne' : ((y : Int) == 0) = false := by simp [h0]
    have hm : Int.tmod (x : Int) (y : Int) = ((x % y : Nat) : Int) := by rw [Int.ofNat_tmod]
    have hlt : x % y < y := Nat.mod_lt _ (by omega)
    have hw : IntKind.i64.wrap (((x % y : Nat) : Int)) = ((x % y : Nat) : Int) := IntWalk.i64_in _ (by omega)
    have HG2 : Hid (Nat.gcd y (x % y) = Nat.gcd a b) := Lib.hid (by rw [← HG.out, Nat.gcd_comm y (x % y), ← Nat.gcd_rec, Nat.gcd_comm])
    generalize x % y = r at *
    go_wp2
    go_quiet (fail)
    go_wp2
    go_roundw
    case rel => exact ⟨y, r, rfl, rfl, hy, by omega, HG2, below_drewN hbw _⟩
    case measure => simp [intOf]; omega
end Go.Proofs.Tg
end
section
/- Short numbers of the program: reading. -/
namespace Go.Proofs.Tg
open Go.RowKit Go.Qn
set_option maxHeartbeats 4000000
set_option maxRecDepth 100000
def sg (b : Bool) (n : Nat) : Int := if b = true then -(n : Int) else n
def RetShort (l : List UInt8) (w : World) (e : Ending) (w' : World) : Prop :=
  Below w.heap.size w w' ∧ ((rd l = none ∧ e = .returned (.tuple #[.agg #[.int .i64 0, .int .i64 0], .bool false])) ∨
    (∃ b n d, rd l = some (b, n, d) ∧ n < 1000000000 ∧ d < 1000000000 ∧ e = .returned (.tuple #[.agg #[.int .i64 (sg b n), .int .i64 (d : Nat)], .bool true])))
theorem val9 (l : List UInt8) (h : numOk l = true) (hl : l.length ≤ 9) : val l < 1000000000 := by
 have h1 := val_lt l (numOk_iff.1 h).1
 have h2 : 10 ^ l.length ≤ 10 ^ 9 := Nat.pow_le_pow_right (by omega) hl
 exact Nat.lt_of_lt_of_le h1 (Nat.le_trans h2 (by decide))
theorem rshort_any (s : ByteArray) (w : World) (hs : s.size ≤ 9) :
    Calls Tryz.prog 113 #[.string s] w (RetShort s.data.toList w) := by
  have HL := Lib.hid (len_size s)
  have hd20 : decide ((20 : Int) < (s.size : Int)) = false := decide_eq_false (by omega)
  obtain ⟨W0, hW0⟩ : ∃ W0, w.alloc (.cells #[.int .i64 0, .int .i64 0] 146) = W0 := ⟨_, rfl⟩
  have B2 : Blk W0 w.heap.size 146 #[.int .i64 0, .int .i64 0] := by rw [← hW0]; exact Blk.new _ _ _
  have hbA : Below w.heap.size w W0 := by rw [← hW0]; exact (Below.refl _ _).alloc (Nat.le_refl _) _
  have HW0 := Lib.hid hW0
  clear hW0
  go_enter Tryz.func113, Tryz.ntmps113
  go_upto_region 1 with (fail)
  rw [HW0.out]
  go_wp2_with (fail)
  refine (split_any s W0 (by omega)).mono ?_
  rintro e w1 ⟨b, num, den, ok, rfl, HS, hb1⟩
  have hc := splitis_cases HS
  have hnl : num.length ≤ 9 := by have := HS.1; rw [HL.out] at this; omega
  have hdl : den.length ≤ 9 := by have := HS.2.1; rw [HL.out] at this; omega
  clear HS
  go_upto_region 4 with (fail)
  obtain ⟨W1, hW1⟩ : ∃ W1, w1.alloc (.cells #[.bool b, .string (bs num), .string (bs den)] 150) = W1 := ⟨_, rfl⟩
  have C2 : Blk W1 w.heap.size 146 #[.int .i64 0, .int .i64 0] := by rw [← hW1]; exact (B2.keep hb1 B2.lt).alloc _
  have C4 : Blk W1 w1.heap.size 150 #[.bool b, .string (bs num), .string (bs den)] := by rw [← hW1]; exact Blk.new _ _ _
  have hbB : Below w.heap.size w W1 := by rw [← hW1]; have := below_all hbA hb1; exact this.alloc this.size _
  have hz1 : w.heap.size < w1.heap.size := by have := B2.lt; have := hb1.size; omega
  rw [hW1]
  clear hW1 B2 hb1 hbA
  obtain ⟨a0, a1, a2, a3⟩ := C2.two
  obtain ⟨p0, p1, p2, _, _, _⟩ := C4.three
  have hz2 := C4.lt
  have hz3 := C2.lt
  have l1 : decide ((9 : Int) < ((bs num).size : Int)) = false := by rw [bs_size]; exact decide_eq_false (by omega)
  have l2 : decide ((9 : Int) < ((bs den).size : Int)) = false := by rw [bs_size]; exact decide_eq_false (by omega)
  rcases hc with ⟨rfl, hr⟩ | ⟨rfl, n1, _, rfl, hr⟩ | ⟨rfl, n1, _, _, hdn, m1, v0, v1, hr⟩
  ·have HR := Lib.hid hr
   clear hr
   go_wp2
   refine bodyPost_ret (v := .tuple #[.agg #[.int .i64 0, .int .i64 0], .bool false]) (by simp [results, Tryz.results113, go_sem, a0, a1]) rfl ⟨?_, .inl ⟨HR.out, rfl⟩⟩
   exact below_far (below_far hbB (by omega) _ _) (by omega) _ _
  ·have HR := Lib.hid hr
   have hv := val9 num n1 hnl
   have HD := Lib.hid (fun W => dval_any (bs num) W (by rw [bs_size]; omega) (by rw [bs_data]; exact (numOk_iff.1 n1).1))
   rw [bs_data] at HD
   have hbe : (bs []).toList.isEmpty = true := by rw [bs_toList]; rfl
   have hbe' : (bs []).toList = [] := by rw [bs_toList]
   clear hr n1
   generalize val num = v at *
   go_upto_region 7 with (go_at_call 138; refine (HD.out _).mono ?_; rintro e w' ⟨rfl, rfl⟩)
   obtain ⟨W2, hW2⟩ : ∃ W2, W1.alloc (.cells #[.int .i64 v, .int .i64 1] 146) = W2 := ⟨_, rfl⟩
   have D2 : Blk W2 w.heap.size 146 #[.int .i64 0, .int .i64 0] := by rw [← hW2]; exact C2.alloc _
   have D4 : Blk W2 w1.heap.size 150 #[.bool b, .string (bs num), .string (bs [])] := by rw [← hW2]; exact C4.alloc _
   have D6 : Blk W2 W1.heap.size 146 #[.int .i64 v, .int .i64 1] := by rw [← hW2]; exact Blk.new W1 _ _
   have hbC : Below w.heap.size w W2 := by rw [← hW2]; exact hbB.alloc hbB.size _
   rw [hW2]
   have hz4 := D2.lt
   clear hW2 C2 C4 hbB a0 a1 a2 a3 p0 p1 p2
   obtain ⟨a0, a1, a2, a3⟩ := D2.two
   obtain ⟨p0, p1, p2, _, _, _⟩ := D4.three
   obtain ⟨x0, x1, x2, x3⟩ := D6.two
   cases b with
   | false =>
     go_wp2
     refine bodyPost_ret (v := .tuple #[.agg #[.int .i64 (sg false v), .int .i64 (1 : Nat)], .bool true]) (by simp [results, Tryz.results113, go_sem, a0, a1, sg]) rfl ⟨?_, .inr ⟨false, v, 1, HR.out, hv, by omega, rfl⟩⟩
     exact below_far (below_far hbC (by omega) _ _) (by omega) _ _
   | true =>
     go_wp2
     refine bodyPost_ret (v := .tuple #[.agg #[.int .i64 (sg true v), .int .i64 (1 : Nat)], .bool true]) (by simp [results, Tryz.results113, go_sem, a0, a1, sg]) rfl ⟨?_, .inr ⟨true, v, 1, HR.out, hv, by omega, rfl⟩⟩
     exact below_far (below_far (below_far hbC (by omega) _ _) (by omega) _ _) (by omega) _ _
  ·have HR := Lib.hid hr
   have hv := val9 num n1 hnl
   have hu := val9 den m1 hdl
   have HD := Lib.hid (fun W => dval_any (bs num) W (by rw [bs_size]; omega) (by rw [bs_data]; exact (numOk_iff.1 n1).1))
   have HE := Lib.hid (fun W => dval_any (bs den) W (by rw [bs_size]; omega) (by rw [bs_data]; exact (numOk_iff.1 m1).1))
   rw [bs_data] at HD HE
   have hbe : (bs den).toList.isEmpty = false := by rw [bs_toList]; cases den; exact absurd rfl hdn; rfl
   have hbe' : ¬ (bs den).toList = [] := by rw [bs_toList]; exact hdn
   have HG := Lib.hid (fun W => sgcd_any (val num) (val den) W (by omega) (by omega))
   clear hr n1 m1 hdn v0 v1
   generalize val num = v at *
   generalize val den = u at *
   go_upto_region 9 with (first
     | (go_at_call 138; with_reducible refine Calls.mono (HD.out _) ?_; rintro e w' ⟨rfl, rfl⟩)
     | (go_at_call 138; with_reducible refine Calls.mono (HE.out _) ?_; rintro e w' ⟨rfl, rfl⟩))
   obtain ⟨W2, hW2⟩ : ∃ W2, W1.alloc (.cells #[.int .i64 v, .int .i64 u] 146) = W2 := ⟨_, rfl⟩
   have D2 : Blk W2 w.heap.size 146 #[.int .i64 0, .int .i64 0] := by rw [← hW2]; exact C2.alloc _
   have D4 : Blk W2 w1.heap.size 150 #[.bool b, .string (bs num), .string (bs den)] := by rw [← hW2]; exact C4.alloc _
   have D6 : Blk W2 W1.heap.size 146 #[.int .i64 v, .int .i64 u] := by rw [← hW2]; exact Blk.new W1 _ _
   have hbC : Below w.heap.size w W2 := by rw [← hW2]; exact hbB.alloc hbB.size _
   rw [hW2]
   clear hW2 C2 C4 hbB a0 a1 a2 a3 p0 p1 p2
   obtain ⟨x0, x1, x2, x3⟩ := D6.two
   go_wp2_with (fail)
   refine (HG.out _).mono ?_
   rintro e w5 ⟨rfl, hb5⟩
   have E2 := D2.keep hb5 D2.lt
   have E4 := D4.keep hb5 D4.lt
   have E6 := D6.keep hb5 D6.lt
   have hbE := below_all hbC hb5
   have hz4 := E2.lt
   clear D2 D4 D6 hbC hb5 x0 x1 x2 x3
   obtain ⟨a0, a1, a2, a3⟩ := E2.two
   obtain ⟨p0, p1, p2, _, _, _⟩ := E4.three
   obtain ⟨x0, x1, x2, x3⟩ := E6.two
   by_cases hg : Nat.gcd v u = 1
   ·have HR2 : Hid (rd s.data.toList = some (b, v, u)) := Lib.hid (by rw [HR.out, if_pos hg])
    rw [hg]
    clear HR HG hg
    cases b with
    | false =>
      go_wp2
      refine bodyPost_ret (v := .tuple #[.agg #[.int .i64 (sg false v), .int .i64 u], .bool true]) (by simp [results, Tryz.results113, go_sem, a0, a1, sg]) rfl ⟨?_, .inr ⟨false, v, u, HR2.out, hv, hu, rfl⟩⟩
      exact below_far (below_far hbE (by omega) _ _) (by omega) _ _
    | true =>
      go_wp2
      refine bodyPost_ret (v := .tuple #[.agg #[.int .i64 (sg true v), .int .i64 u], .bool true]) (by simp [results, Tryz.results113, go_sem, a0, a1, sg]) rfl ⟨?_, .inr ⟨true, v, u, HR2.out, hv, hu, rfl⟩⟩
      exact below_far (below_far (below_far hbE (by omega) _ _) (by omega) _ _) (by omega) _ _
   ·have HR2 : Hid (rd s.data.toList = none) := Lib.hid (by rw [HR.out, if_neg hg])
    have hgb : (((Nat.gcd v u : Nat) : Int) != 1) = true := by simp; omega
    have hgb' : (Nat.gcd v u == 1) = false := by simp [hg]
    have hgb'' : (((Nat.gcd v u : Nat) : Int) == 1) = false := beq_eq_false_iff_ne.2 (by omega)
    clear HR HG hg
    generalize Nat.gcd v u = g at *
    go_wp2
    refine bodyPost_ret (v := .tuple #[.agg #[.int .i64 0, .int .i64 0], .bool false]) (by simp [results, Tryz.results113, go_sem, a0, a1]) rfl ⟨?_, .inl ⟨HR2.out, rfl⟩⟩
    exact below_far (below_far hbE (by omega) _ _) (by omega) _ _
end Go.Proofs.Tg
end
section
/- The program's Valid and Neg of short texts. -/
namespace Go.Proofs.Tg
open Go.RowKit Go.Qn Go.Mo
set_option maxHeartbeats 4000000
set_option maxRecDepth 100000
theorem rvalid_true (s : ByteArray) (w : World) (hs : s.size ≤ 9) (hr : (rd s.data.toList).isSome = true) :
    Calls Tryz.prog 88 #[.string s] w fun e w' => e = .returned (.bool true) ∧ Below w.heap.size w w' := by
  have HR := Lib.hid hr
  clear hr
  go_enter Tryz.func88, Tryz.ntmps88
  go_wp2_with (fail)
  refine (rshort_any s _ hs).mono ?_
  rintro e w1 ⟨hb1, ⟨hno, rfl⟩ | ⟨b, n, d, _, _, _, rfl⟩⟩
  ·have := HR.out
   rw [hno] at this
   cases this
  ·generalize sg b n = z
   go_wp2
   go_ret
   exact ⟨rfl, hb1.alloc hb1.size _⟩
end Go.Proofs.Tg
end
section
/- Grow and Concat of texts; matrix.New of rows of signs. -/
namespace Go.Proofs.Tg.Bk
open Go.RowKit Go.Gr Go.Sp Go.Ev Go.Pm Go.Qn
open Go.Proofs.Tg.Gp (PRow cellP RowsB prow_info)
set_option maxHeartbeats 4000000
set_option maxRecDepth 100000
theorem u_int : Tryz.prog.underlying 3 = some (.int .i64) := Tryz.underlying3
theorem grow_any (n : Nat) (w : World) (h0 : 0 < n) (hn : n ≤ 100000) :
    Calls Tryz.prog 86 #[.slice none 0 0, .int .i64 n] w fun e w' => ∃ A c, e = .returned (.slice A 0 c) ∧ w'.ownsRow w.heap.size 9 1 (.slice A 0 c) 0 [] ∧ Below w.heap.size w w' := by
  obtain ⟨j0, hj0, hjz0, hjz1, hjz2⟩ := info_parts str_info
  have n1 : (0 : Int) < (n : Int) := by omega
  have hr := fun W => Lib.run_append_nil_zeros (P := Tryz.prog) W 46 3 46 9 j0 (.string ⟨#[]⟩) .i64 .i64 Tryz.underlying46 u_int hj0 hjz0 n h0 (by rw [hjz1]; omega) (by omega) (by rw [hjz2]; omega)
  have HR := Lib.hid hr
  have hge := grownCap_ge w n 0 9
  have hle := grownCap_le_maxLen w n 0 9 (by simp only [maxLen]; omega)
  clear hr
  go_enter Tryz.func86, Tryz.ntmps86
  go_wp2_with (at_builtin; refine Lib.wpList_append_run _ rfl _ _ _ _ rfl _ _ rfl rfl _ _ (HR.out w) ?_)
  go_ret
  refine ⟨some ⟨w.heap.size, 0, none⟩, _, rfl, ⟨rfl, .inr ⟨_, _, _, rfl, Nat.le_refl _, Blk.new w.drew _ _, Nat.zero_le _, hle, ?_, by simp⟩⟩, ((Below.refl _ _).drew).alloc (Nat.le_refl _) _⟩
  rw [Array.size_append, size_zeroCells, size_zeroCells]
  simp
  omega
/-- The texts of the first k rows, one behind another. -/
def flat (rs : List PRow) (k : Nat) : List Value := ((rs.take k).map fun r => r.2.map fun x => Value.string (tx x)).flatten
theorem flat_succ {rs : List PRow} {k : Nat} (h : k < rs.length) : flat rs (k + 1) = flat rs k ++ (rs[k].2.map fun x => Value.string (tx x)) := by
 unfold flat
 rw [List.take_succ_eq_append_getElem h, List.map_append, List.flatten_append]
 simp
theorem trow_cells {w : World} {g : Nat} {l : List Int} (h : Blk w g 9 (strs (l.map tx))) : ∀ j u, (l.map fun x => Value.string (tx x))[j]? = some u → w.cell? ((⟨g, 0, none⟩ : Addr).add j) = some u := by
 intro j u hu
 rw [add_lit, Nat.zero_add, h.cell]
 unfold strs
 rw [List.map_map]
 simpa using hu
theorem concat_any (A : Option Addr) (cA L : Nat) (rs : List PRow) (w : World) (hA : Sl w A rs.length 1 (rs.map (cellP L))) (hr : TRowsB w rs) (hl : ∀ r ∈ rs, r.2.length = L) (h0 : 0 < rs.length) (hL : 0 < L) (hm : rs.length ≤ 64) (hL2 : L ≤ 64) :
    Calls Tryz.prog 65 #[.slice A rs.length cA] w fun e w' => ∃ E c, e = .returned (.slice E (rs.length * L) c) ∧ w'.ownsRow w.heap.size 9 1 (.slice E (rs.length * L) c) (rs.length * L) (flat rs rs.length) ∧ Below w.heap.size w w' := by
  have HA := Lib.hid hA
  have HR := Lib.hid hr
  have HL := Lib.hid hl
  obtain ⟨j0, hj0, hjz0, hjz1, hjz2⟩ := info_parts str_info
  clear hA hr hl
  have hmL : rs.length * L ≤ 4096 := Nat.mul_le_mul hm hL2
  have hmp : 0 < rs.length * L := Nat.mul_pos h0 hL
  go_enter Tryz.func65, Tryz.ntmps65
  go_wp2
  go_loopw [3, 11] (fun s3 s11 wr => ∃ k : Nat, s11 = .int .i64 k ∧ k ≤ rs.length ∧ s3 = .int .i64 (k * L : Nat) ∧ w = wr) (fun _ s11 _ => rs.length - (intOf s11).toNat)
  case atStart => exact ⟨0, rfl, Nat.zero_le _, by simp, rfl⟩
  case round =>
   obtain ⟨k, rfl, hk, rfl, rfl⟩ := hrel
   by_cases hkl : k < rs.length
   ·obtain ⟨ad, rfl, hc0⟩ := Sl.at1 HA.out hkl
    have hc : w.cell? (ad.add k) = some (.slice (some ⟨(rs[k]).1, 0, none⟩) L L) := by simpa [cellP] using hc0
    have q0 : (0 : Int) ≤ (k : Int) := by omega
    have q1 : (k : Int) < (rs.length : Int) := by omega
    have q3 : ((k : Int)).toNat = k := by omega
    have hkm : k * L ≤ 4096 := Nat.le_trans (Nat.mul_le_mul (Nat.le_of_lt hkl) (Nat.le_refl L)) hmL
    have hs : (k + 1) * L = k * L + L := Nat.succ_mul k L
    clear hc0
    obtain ⟨q, hq⟩ : ∃ q, k * L = q := ⟨_, rfl⟩
    have HQ : Hid ((k + 1) * L = q + L) := Lib.hid (by rw [hs, hq])
    rw [hq] at hkm ⊢
    have w1 : IntKind.i64.wrap ((q : Int) + (L : Int)) = ((q + L : Nat) : Int) := by rw [← Int.natCast_add]; exact IntWalk.i64_in _ (by omega)
    have d1 : decide ((((q + L : Nat)) : Int) < 0) = false := decide_eq_false (by omega)
    clear hs hq
    generalize rs[k] = r at *
    go_wp2
    go_roundw
    case rel => exact ⟨k + 1, by go_num, by omega, by rw [HQ.out]; try rfl, trivial⟩
    case measure => simp [intOf]; omega
   ·obtain rfl : k = rs.length := by omega
    have dk : decide ((rs.length : Int) < (rs.length : Int)) = false := by simp
    have HG := Lib.hid (grow_any (rs.length * L) w hmp (by omega))
    obtain ⟨q, hq⟩ : ∃ q, rs.length * L = q := ⟨_, rfl⟩
    rw [hq] at HG hmL hmp ⊢
    have HQ := Lib.hid hq
    clear hq
    go_wp2_with (go_at_call 86; refine HG.out.mono ?_; rintro e w1 ⟨A1, c1, rfl, hown1, hb1⟩)
    have HOW := Lib.hid hown1
    clear hown1
    go_loopw [6, 27] (fun s6 s27 wr => ∃ (j : Nat) (A2 : Option Addr) (c2 n2 : Nat), s27 = .int .i64 j ∧ j ≤ rs.length ∧ s6 = .slice A2 n2 c2 ∧ Hid (n2 = j * L) ∧ n2 ≤ 4096 ∧ Hid (wr.ownsRow w.heap.size 9 1 (.slice A2 n2 c2) n2 (flat rs j)) ∧ Below w.heap.size w wr) (fun _ s27 _ => rs.length - (intOf s27).toNat)
    case atStart => exact ⟨0, A1, c1, 0, rfl, Nat.zero_le _, rfl, Lib.hid (by simp), by omega, Lib.hid (by simpa [flat] using HOW.out), hb1⟩
    case round =>
     clear HOW hb1
     obtain ⟨wo, rfl⟩ : ∃ wo : World, wo = wr := ⟨_, rfl⟩
     obtain ⟨j, A2, c2, n2, rfl, hj, rfl, HN2, hn2, HOWN, hbo⟩ := hrel
     by_cases hjl : j < rs.length
     ·obtain ⟨ad, rfl, hc0⟩ := Sl.at1 (HA.out.keep hbo) hjl
      have hc : wo.cell? (ad.add j) = some (.slice (some ⟨(rs[j]).1, 0, none⟩) L L) := by simpa [cellP] using hc0
      have q0 : (0 : Int) ≤ (j : Int) := by omega
      have q1 : (j : Int) < (rs.length : Int) := by omega
      have q3 : ((j : Int)).toNat = j := by omega
      have HFS := Lib.hid (flat_succ hjl)
      have HRL := Lib.hid (HL.out rs[j] (List.getElem_mem _))
      have hB := (HR.out rs[j] (List.getElem_mem _)).keep hbo (HR.out rs[j] (List.getElem_mem _)).lt
      have HCE := Lib.hid (trow_cells hB)
      have hs : (j + 1) * L ≤ rs.length * L := Nat.mul_le_mul (by omega) (Nat.le_refl L)
      rw [HQ.out, Nat.succ_mul, ← HN2.out] at hs
      have HN3 : Hid (n2 + L = (j + 1) * L) := Lib.hid (by rw [Nat.succ_mul, ← HN2.out])
      clear hc0 hB
      generalize rs[j] = r at *
      have hown := HOWN.out
      go_wp2_with (at_builtin
                   refine wpList_append_own_at _ rfl _ _ 46 rfl w.heap.size 9 j0 (.string ⟨#[]⟩) 1 16 Tryz.underlying46 hj0 hjz0 hjz1 hjz2 rfl (by decide) (.slice A2 n2 c2) n2 (flat rs j) rfl hown ⟨r.1, 0, none⟩ L L (r.2.map fun x => Value.string (tx x)) rfl (by rw [List.length_map, HRL.out]; omega) HCE.out (by intro u hu; obtain ⟨x, _, rfl⟩ := List.mem_map.1 hu; rfl) (by simp only [maxLen]; omega) (by omega) hbo.size ?_
                   intro v7 w7 hown7 hg7 _ hat7
                   obtain ⟨A7, c7, hv7, _, _⟩ := Sl.of_own hown7
                   subst hv7)
      go_roundw
      case rel => exact ⟨j + 1, A7, c7, n2 + L, by go_num, by omega, rfl, HN3, by omega, Lib.hid (by rw [HFS.out]; exact hown7), hbo.grown hg7 hbo.size (fun q hq => (hown.lt q hq).1)⟩
      case measure => simp [intOf]; omega
     ·obtain rfl : j = rs.length := by omega
      have hn : n2 = q := by rw [HN2.out, HQ.out]
      subst hn
      have HF : Hid (wo.ownsRow w.heap.size 9 1 (.slice A2 n2 c2) n2 (flat rs rs.length)) := HOWN
      go_wp2
      go_ret
      exact ⟨A2, c2, by rw [HQ.out]; rfl, by rw [HQ.out]; exact HF.out, hbo⟩
end Go.Proofs.Tg.Bk
end
section
/- matrix.Valid and matrix.New of matrices of signs. -/
namespace Go.Proofs.Tg.Bk
open Go.RowKit Go.Gr Go.Sp Go.Ev Go.Pm Go.Qn
open Go.Proofs.Tg.Gp (PRow cellP RowsB prow_info)
set_option maxHeartbeats 4000000
set_option maxRecDepth 100000
theorem shape_any (E : Option Addr) (m L q c : Nat) (w : World) (hm0 : 0 < m) (hm : m ≤ 64) (hL0 : 0 < L) (hL : L ≤ 64) (hq : q = m * L) :
    Calls Tryz.prog 87 #[.agg #[.int .i64 m, .int .i64 L, .slice E q c]] w fun e w' => e = .returned (.bool true) ∧ Below w.heap.size w w' := by
  have hmL : m * L ≤ 4096 := Nat.mul_le_mul hm hL
  have hqi : (q : Int) = (m : Int) * (L : Int) := by rw [hq]; exact Int.natCast_mul m L
  have w1 : IntKind.i64.wrap ((m : Int) * (L : Int)) = (q : Int) := by rw [← hqi]; exact IntWalk.i64_in _ (by omega)
  have d1 : decide ((1 : Int) ≤ (m : Int)) = true := decide_eq_true (by omega)
  have d2 : decide ((m : Int) ≤ 64) = true := decide_eq_true (by omega)
  have d3 : decide ((1 : Int) ≤ (L : Int)) = true := decide_eq_true (by omega)
  have d4 : decide ((L : Int) ≤ 64) = true := decide_eq_true (by omega)
  have m1 : (1 : Int) ≤ (m : Int) := by omega
  have m2 : (m : Int) ≤ 64 := by omega
  have l1 : (1 : Int) ≤ (L : Int) := by omega
  have l2 : (L : Int) ≤ 64 := by omega
  clear hq hqi
  go_enter Tryz.func87, Tryz.ntmps87
  go_wp2
  go_ret
  exact ⟨rfl, (Below.refl _ _).alloc (Nat.le_refl _) _⟩
theorem tx_ok {x : Int} (h : Sg x) : (tx x).size ≤ 9 ∧ (rd (tx x).data.toList).isSome = true := by
 rcases h with rfl | rfl | rfl
 ·exact ⟨by decide, by decide +kernel⟩
 ·exact ⟨by decide, by decide +kernel⟩
 ·exact ⟨by decide, by decide +kernel⟩
theorem mvalid_any (E : Option Addr) (m L q c : Nat) (xs : List Int) (w : World) (hm0 : 0 < m) (hm : m ≤ 64) (hL0 : 0 < L) (hL : L ≤ 64) (hq : q = m * L) (hxs : xs.length = q) (hE : Sl w E q 1 (xs.map fun x => Value.string (tx x))) (hs : ∀ x ∈ xs, Sg x) :
    Calls Tryz.prog 66 #[.agg #[.int .i64 m, .int .i64 L, .slice E q c]] w fun e w' => e = .returned (.bool true) ∧ Below w.heap.size w w' := by
  have HSH := Lib.hid (fun W => shape_any E m L q c W hm0 hm hL0 hL hq)
  have hq4 : q ≤ 4096 := by rw [hq]; exact Nat.mul_le_mul hm hL
  have HE := Lib.hid hE
  have HS := Lib.hid hs
  have HX := Lib.hid hxs
  obtain ⟨W, hW⟩ : ∃ W, w.alloc (.cells #[.int .i64 m, .int .i64 L, .slice E q c] 48) = W := ⟨_, rfl⟩
  have B0 : Blk W w.heap.size 48 #[.int .i64 m, .int .i64 L, .slice E q c] := by rw [← hW]; exact Blk.new _ _ _
  have hb0 : Below w.heap.size w W := by rw [← hW]; exact (Below.refl _ _).alloc (Nat.le_refl _) _
  obtain ⟨a0, a1, a2, f0, f1, f2⟩ := B0.three
  have HW := Lib.hid hW
  have hlt := B0.lt
  clear hW hE hs hxs hq
  go_enter Tryz.func66, Tryz.ntmps66
  go_upto_region 1 with (fail)
  rw [HW.out]
  clear HW
  go_wp2_with (go_at_call 87; refine (HSH.out _).mono ?_; rintro e w1 ⟨rfl, hb1⟩
               have a2' := keep_cell hb1 a2)
  go_loopw [11] (fun s11 wr => ∃ k : Nat, s11 = .int .i64 k ∧ k ≤ q ∧ Below w.heap.size w wr) (fun s11 _ => q - (intOf s11).toNat)
  case atStart => exact ⟨0, rfl, Nat.zero_le _, below_all hb0 hb1⟩
  case round =>
   clear hb0 a0 a1 a2 f0 f1 f2 B0 hb1 a2' hlt
   obtain ⟨wo, rfl⟩ : ∃ wo : World, wo = wr := ⟨_, rfl⟩
   obtain ⟨k, rfl, hk, hbo⟩ := hrel
   by_cases hkq : k < q
   ·obtain ⟨ad, rfl, hc0⟩ := Sl.at1 (HE.out.keep hbo) hkq
    have hkx : k < xs.length := by rw [HX.out]; exact hkq
    have hc : wo.cell? (ad.add k) = some (.string (tx xs[k])) := by simpa using hc0
    have hok := tx_ok (HS.out xs[k] (List.getElem_mem _))
    have HV := Lib.hid (rvalid_true (tx xs[k]) wo hok.1 hok.2)
    have q0 : (0 : Int) ≤ (k : Int) := by omega
    have q1 : (k : Int) < (q : Int) := by omega
    have q3 : ((k : Int)).toNat = k := by omega
    clear hc0 hok
    generalize tx xs[k] = s at *
    go_wp2_with (go_at_call 88; refine HV.out.mono ?_; rintro e w3 ⟨rfl, hb3⟩)
    go_roundw
    case rel => exact ⟨k + 1, by go_num, by omega, below_all hbo hb3⟩
    case measure => simp [intOf]; omega
   ·obtain rfl : k = q := by omega
    have dk : decide ((k : Int) < (k : Int)) = false := by simp
    go_wp2
    go_ret
    exact ⟨rfl, hbo⟩
theorem flat_all (rs : List PRow) : flat rs rs.length = ((rs.map Prod.snd).flatten).map fun x => Value.string (tx x) := by
 unfold flat
 rw [List.take_length, List.map_flatten, List.map_map]
 rfl
theorem flat_len {rs : List PRow} {L : Nat} (hl : ∀ r ∈ rs, r.2.length = L) : ((rs.map Prod.snd).flatten).length = rs.length * L := by
 induction rs with
 | nil => simp
 | cons r rs ih =>
   rw [List.map_cons, List.flatten_cons, List.length_append, ih (fun x hx => hl x (by simp [hx])), hl r (by simp), List.length_cons, Nat.succ_mul]
   omega
/-- What New returns for rows of signs. -/
def RetNewM (m L : Nat) (xs : List Int) (w : World) (e : Ending) (w' : World) : Prop := ∃ E c, e = .returned (.tuple #[.agg #[.int .i64 m, .int .i64 L, .slice E (m * L) c], .int .i64 0]) ∧ w'.ownsRow w.heap.size 9 1 (.slice E (m * L) c) (m * L) (xs.map fun x => Value.string (tx x)) ∧ Below w.heap.size w w'
theorem new_any (A : Option Addr) (cA L : Nat) (rs : List PRow) (w : World) (hA : Sl w A rs.length 1 (rs.map (cellP L))) (hr : TRowsB w rs) (hl : ∀ r ∈ rs, r.2.length = L) (hs : ∀ r ∈ rs, ∀ x ∈ r.2, Sg x) (h0 : 0 < rs.length) (hL : 0 < L) (hm : rs.length ≤ 64) (hL2 : L ≤ 64) :
    Calls Tryz.prog 36 #[.slice A rs.length cA] w (RetNewM rs.length L (rs.map Prod.snd).flatten w) := by
  have HCC := Lib.hid (fun W (h1 : Sl W A rs.length 1 (rs.map (cellP L))) h2 => concat_any A cA L rs W h1 h2 hl h0 hL hm hL2)
  have HFL := Lib.hid (flat_len hl)
  have HFA := Lib.hid (flat_all rs)
  have HSG : Hid (∀ x ∈ (rs.map Prod.snd).flatten, Sg x) := Lib.hid (fun x hx => by
   obtain ⟨l, hl2, hx⟩ := List.mem_flatten.1 hx
   obtain ⟨r, hr2, rfl⟩ := List.mem_map.1 hl2
   exact hs r hr2 x hx)
  have HVD : Hid (∀ W E c, Sl W E (rs.length * L) 1 (((rs.map Prod.snd).flatten).map fun x => Value.string (tx x)) → Calls Tryz.prog 66 #[.agg #[.int .i64 rs.length, .int .i64 L, .slice E (rs.length * L) c]] W fun e w' => e = .returned (.bool true) ∧ Below W.heap.size W w') :=
    Lib.hid (fun W E c h => mvalid_any E rs.length L (rs.length * L) c _ W h0 hm hL hL2 rfl HFL.out h HSG.out)
  have HA := Lib.hid hA
  have HR := Lib.hid hr
  obtain ⟨ad, rfl, hc0⟩ := Sl.at1 hA h0
  have hc : w.cell? ad = some (.slice (some ⟨(rs[0]).1, 0, none⟩) L L) := by simpa [cellP, Addr.add] using hc0
  have hadl : ad.block < w.heap.size := World.block_lt_of_cell? w ad hc
  obtain ⟨W, hW⟩ : ∃ W, (w.alloc (.cells #[.int .i64 0, .int .i64 0, .slice none 0 0] 48)).alloc (.cells #[.int .i64 rs.length, .int .i64 L, .slice none 0 0] 48) = W := ⟨_, rfl⟩
  have B0 : Blk W w.heap.size 48 #[.int .i64 0, .int .i64 0, .slice none 0 0] := by rw [← hW]; exact (Blk.new _ _ _).alloc _
  have B1 : Blk W (w.heap.size + 1) 48 #[.int .i64 rs.length, .int .i64 L, .slice none 0 0] := by
   rw [← hW]
   have := Blk.new (w.alloc (.cells #[.int .i64 0, .int .i64 0, .slice none 0 0] 48)) 48 #[.int .i64 rs.length, .int .i64 L, .slice none 0 0]
   simpa using this
  have hbW : Below w.heap.size w W := by rw [← hW]; exact ((Below.refl _ _).alloc (Nat.le_refl _) _).alloc (by simp) _
  have HW := Lib.hid hW
  have i0 : (0 : Int) < (rs.length : Int) := by omega
  have d0 : decide ((rs.length : Int) = 0) = false := decide_eq_false (by omega)
  have d1 : decide ((L : Int) = 0) = false := decide_eq_false (by omega)
  have d2 : ((rs.length : Int) == 0) = false := beq_eq_false_iff_ne.2 (by omega)
  have d3 : ((L : Int) == 0) = false := beq_eq_false_iff_ne.2 (by omega)
  have d4 : decide ((64 : Int) < (rs.length : Int)) = false := decide_eq_false (by omega)
  have d5 : decide ((64 : Int) < (L : Int)) = false := decide_eq_false (by omega)
  have d6 : decide (64 < rs.length) = false := decide_eq_false (by omega)
  have d7 : decide (64 < L) = false := decide_eq_false (by omega)
  have hw0 := fun o => cell_alloc hc o
  clear hA hr hl hs hW hc0
  go_enter Tryz.func36, Tryz.ntmps36
  go_upto_region 4 with (fail)
  rw [HW.out]
  clear HW hw0
  have b1 := B1.three
  obtain ⟨x0, x1, x2, g0, g1, g2⟩ := b1
  have hcW := keep_cell hbW hc
  have HLB := B1.lt
  go_wp2
  go_loopw [27] (fun s27 wr => ∃ k : Nat, s27 = .int .i64 k ∧ k ≤ rs.length ∧ W = wr) (fun s27 _ => rs.length - (intOf s27).toNat)
  case atStart => exact ⟨0, rfl, Nat.zero_le _, rfl⟩
  case round =>
   obtain ⟨k, rfl, hk, rfl⟩ := hrel
   by_cases hkl : k < rs.length
   ·obtain ⟨ad', had, hck0⟩ := Sl.at1 (HA.out.keep hbW) hkl
    injection had with had
    subst had
    have hck : W.cell? (ad.add k) = some (.slice (some ⟨(rs[k]).1, 0, none⟩) L L) := by simpa [cellP] using hck0
    have q0 : (0 : Int) ≤ (k : Int) := by omega
    have q1 : (k : Int) < (rs.length : Int) := by omega
    have q3 : ((k : Int)).toNat = k := by omega
    clear hck0
    generalize rs[k] = r at *
    go_wp2
    go_roundw
    case rel => exact ⟨k + 1, by go_num, by omega, trivial⟩
    case measure => simp [intOf]; omega
   ·obtain rfl : k = rs.length := by omega
    have dk : decide ((rs.length : Int) < (rs.length : Int)) = false := by simp
    have HB0 := Lib.hid B0
    have HB1 := Lib.hid B1
    have HAW := Lib.hid (HA.out.keep hbW)
    have HRW := Lib.hid (HR.out.keep hbW)
    clear B0 B1
    go_upto_region 13 with (go_at_call 65; refine (HCC.out _ HAW.out HRW.out).mono ?_; rintro e w2 ⟨E, c, rfl, hown, hb2⟩
                            have C1 := HB1.out.keep hb2 HB1.out.lt
                            have y2 := C1.cell 2
                            have z2 := C1.frozen 2
                            have hl2 := C1.lt)
    obtain ⟨w3, hw3⟩ : ∃ w3, w2.setCell ⟨w.heap.size + 1, 2, none⟩ (.slice E (rs.length * L) c) = w3 := ⟨_, rfl⟩
    have D1 : Blk w3 (w.heap.size + 1) 48 #[.int .i64 rs.length, .int .i64 L, .slice E (rs.length * L) c] := by
     rw [← hw3]
     exact C1.set 2 (.slice E (rs.length * L) c)
    have D0 : Blk w3 w.heap.size 48 #[.int .i64 0, .int .i64 0, .slice none 0 0] := by
     rw [← hw3]
     exact (HB0.out.keep hb2 HB0.out.lt).far (by simp) _
    have hb3 : Below w.heap.size w w3 := by
     rw [← hw3]
     exact below_far (below_all hbW hb2) (by omega) _ _
    have hO3 : w3.ownsRow w.heap.size 9 1 (.slice E (rs.length * L) c) (rs.length * L) (((rs.map Prod.snd).flatten).map fun x => Value.string (tx x)) := by
     rw [← HFA.out, ← hw3]
     exact own_base (own_far hown (own_blk_ne hown C1 (by decide)) _) hbW.size
    have hS3 := Sl.own hO3
    have HO3 := Lib.hid hO3
    rw [hw3]
    clear hw3 hown hb2 C1 y2 z2 hl2 hO3
    have HD0 := Lib.hid D0
    have HD1 := Lib.hid D1
    have HS3 := Lib.hid hS3
    obtain ⟨p0, p1, p2, r0, r1, r2⟩ := D1.three
    obtain ⟨s0, s1, s2, t0, t1, t2⟩ := D0.three
    have hl3 := D1.lt
    clear D0 D1 hS3 x0 x1 x2 g0 g1 g2 hcW HLB
    go_wp2_with (go_at_call 66; refine (HVD.out _ _ _ HS3.out).mono ?_; rintro e w4 ⟨rfl, hb4⟩
                 have E1 := HD1.out.keep hb4 HD1.out.lt
                 have E0 := HD0.out.keep hb4 HD0.out.lt
                 obtain ⟨p0', p1', p2', _⟩ := E1.three
                 obtain ⟨s0', s1', s2', t0', t1', t2'⟩ := E0.three
                 have hl4 := E1.lt
                 have hO4 := own_below HO3.out hb4 (Nat.le_refl _)
                 have hb5 := below_all hb3 hb4
                 clear E1)
    have E5 := ((E0.set 0 (.int .i64 rs.length)).set 1 (.int .i64 L)).set 2 (.slice E (rs.length * L) c)
    have hb6 := below_far (below_far (below_far hb5 (Nat.le_refl _) 0 (.int .i64 rs.length)) (Nat.le_refl _) 1 (.int .i64 L)) (Nat.le_refl _) 2 (.slice E (rs.length * L) c)
    have hne := own_blk_ne hO4 E0 (by decide)
    have hO6 := own_far (own_far (own_far hO4 (p := ⟨w.heap.size, 0, none⟩) hne (.int .i64 rs.length)) (p := ⟨w.heap.size, 1, none⟩) hne (.int .i64 L)) (p := ⟨w.heap.size, 2, none⟩) hne (.slice E (rs.length * L) c)
    generalize (((w4.setCell ⟨w.heap.size, 0, none⟩ (.int .i64 rs.length)).setCell ⟨w.heap.size, 1, none⟩ (.int .i64 L)).setCell ⟨w.heap.size, 2, none⟩ (.slice E (rs.length * L) c)) = w5 at *
    have a0 : w5.cell? ⟨w.heap.size, 0, none⟩ = some (.int .i64 rs.length) := E5.cell 0
    have a1 : w5.cell? ⟨w.heap.size, 1, none⟩ = some (.int .i64 L) := E5.cell 1
    have a2 : w5.cell? ⟨w.heap.size, 2, none⟩ = some (.slice E (rs.length * L) c) := E5.cell 2
    refine bodyPost_ret (v := .tuple #[.agg #[.int .i64 rs.length, .int .i64 L, .slice E (rs.length * L) c], .int .i64 0]) (by simp [results, Tryz.results36, go_sem, a0, a1, a2]) rfl ⟨E, c, rfl, hO6, hb6⟩
end Go.Proofs.Tg.Bk
end
