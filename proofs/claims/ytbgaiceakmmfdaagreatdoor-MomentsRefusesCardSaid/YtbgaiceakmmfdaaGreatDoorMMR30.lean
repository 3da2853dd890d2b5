/- Parts of the proof: JE3, WN2, IL10, FI4, FI5, JG2. -/
import Derived.Deep.RegionHeld3
import Derived.Test.YtbgaiceakmmfdaaGreatDoorMMR0
import Derived.Test.YtbgaiceakmmfdaaGreatDoorMMR8
import Derived.Test.YtbgaiceakmmfdaaGreatDoorMMR20
import Derived.Test.YtbgaiceakmmfdaaGreatDoorMMR22
import Derived.Test.YtbgaiceakmmfdaaGreatDoorMMR23
import Derived.Test.YtbgaiceakmmfdaaGreatDoorMMR25
import Derived.Test.YtbgaiceakmmfdaaGreatDoorMMR26
import Derived.Test.YtbgaiceakmmfdaaGreatDoorMMR28
import Derived.Test.YtbgaiceakmmfdaaGreatDoorMMR29
set_option maxHeartbeats 64000000
set_option maxRecDepth 100000
namespace Go.Proofs.Tg.Iw
section
open Go.RowKit Go.Bw Go.Gr Go.Proofs.Tg Go.Rq
theorem radd_any (p q : Rat) (N1 D1 N2 D2 : Option Addr) (c1 d1 c2 d2 : Nat) (w : World) (h1 : RNum w p N1 c1 D1 d1) (h2 : RNum w q N2 c2 D2 d2)
    (b1 : (dg p.num.natAbs).length ≤ 200) (b2 : (dg q.num.natAbs).length < 40) (b3 : (dg p.den).length ≤ 200) (b4 : (dg q.den).length < 40) (hT : Tab w) :
    Calls Tryz.prog 30 #[rval p N1 c1 D1 d1, rval q N2 c2 D2 d2] w (RetR (p + q) w) := by
  by_cases e1 : p.den = 1
  ·by_cases e2 : q.den = 1
   ·exact radd_both p q N1 D1 N2 D2 c1 d1 c2 d2 w h1 h2 e1 e2 (by omega) (by omega)
   ·exact radd_first p q N1 D1 N2 D2 c1 d1 c2 d2 w h1 h2 e1 e2 (by omega) (by omega) (by omega) (.inr b4)
  ·by_cases e2 : q.den = 1
   ·exact radd_second p q N1 D1 N2 D2 c1 d1 c2 d2 w h1 h2 e1 e2 (by omega) (by omega) (by omega) (.inl b2)
   ·exact radd_gen p q N1 D1 N2 D2 c1 d1 c2 d2 w h1 h2 e1 e2 b1 b2 b3 b4 hT
end
end Go.Proofs.Tg.Iw
namespace Go.Proofs.Tg
section
open Go.RowKit Go.Qn
def sg (b : Bool) (n : Nat) : Int := if b = true then -(n : Int) else n
theorem val9 (l : List UInt8) (h : numOk l = true) (hl : l.length ≤ 9) : val l < 1000000000 := by
 have h1 := val_lt l (numOk_iff.1 h).1
 have h2 : 10 ^ l.length ≤ 10 ^ 9 := Nat.pow_le_pow_right (by omega) hl
 exact Nat.lt_of_lt_of_le h1 (Nat.le_trans h2 (by decide))
def RetShW (l : List UInt8) (w : World) (e : Ending) (w' : World) : Prop :=
  Below w.heap.size w w' ∧ (e = .returned (.tuple #[.agg #[.int .i64 0, .int .i64 0], .bool false]) ∨
    (∃ b n d, rd l = some (b, n, d) ∧ n < 1000000000 ∧ d < 1000000000 ∧ e = .returned (.tuple #[.agg #[.int .i64 (sg b n), .int .i64 (d : Nat)], .bool true])))
theorem rshort_w (s : ByteArray) (w : World) (hs : s.size ≤ 64) :
    Calls Tryz.prog 36 #[.string s] w (RetShW s.data.toList w) := by
  have HL := zh (len_size s); obtain ⟨W0, hW0⟩ := eqx (w.alloc (.cells #[.int .i64 0, .int .i64 0] 62))
  have B2 : Blk W0 w.heap.size 62 #[.int .i64 0, .int .i64 0] := by rw [← hW0]; exact Blk.new _ _ _
  have hbA : Below w.heap.size w W0 := by rw [← hW0]; exact bal
  have HW0 := zh hW0; clear hW0
  by_cases h20 : 20 < s.size
  ·have hd20 : decide ((20 : Int) < (s.size : Int)) = true := dT (by omega); have hz := B2.lt; obtain ⟨a0, a1, a2, a3⟩ := B2.two; go_enter Tryz.func36, Tryz.ntmps36; go_upto_region 1 with (fail); rw [HW0.out]; go_wp2; refine bodyPost_ret (v := .tuple #[.agg #[.int .i64 0, .int .i64 0], .bool false]) (by simp [results, Tryz.results36, go_sem, a0, a1]) rfl ⟨?_, .inl rfl⟩; exact below_far (below_far hbA (by omega) _ _) (by omega) _ _
  have hd20 : decide ((20 : Int) < (s.size : Int)) = false := dF (by omega); go_enter Tryz.func36, Tryz.ntmps36; go_upto_region 1 with (fail); rw [HW0.out]; go_wp2_with (fail); refine (split_any s W0 (by omega)).mono ?_; rintro e w1 ⟨b, num, den, ok, rfl, HS, hb1⟩; have hc := splitis_cases HS; clear HS; go_upto_region 4 with (fail); obtain ⟨W1, hW1⟩ := eqx (w1.alloc (.cells #[.bool b, .string (bs num), .string (bs den)] 83))
  have C2 : Blk W1 w.heap.size 62 #[.int .i64 0, .int .i64 0] := by rw [← hW1]; exact (B2.keep hb1 B2.lt).alloc _
  have C4 : Blk W1 w1.heap.size 83 #[.bool b, .string (bs num), .string (bs den)] := by rw [← hW1]; exact Blk.new _ _ _
  have hbB : Below w.heap.size w W1 := by rw [← hW1]; have := below_all hbA hb1; exact this.alloc this.size _
  have hz1 : w.heap.size < w1.heap.size := by have := B2.lt; have := hb1.size; omega
  rw [hW1]; clear hW1 B2 hb1 hbA; obtain ⟨a0, a1, a2, a3⟩ := C2.two; obtain ⟨p0, p1, p2, _, _, _⟩ := C4.three; have hz2 := C4.lt; have hz3 := C2.lt
  rcases hc with ⟨rfl, hr⟩ | ⟨rfl, n1, _, rfl, hr⟩ | ⟨rfl, n1, _, _, hdn, m1, v0, v1, hr⟩
  ·have HR := zh hr; clear hr; go_wp2; refine bodyPost_ret (v := .tuple #[.agg #[.int .i64 0, .int .i64 0], .bool false]) (by simp [results, Tryz.results36, go_sem, a0, a1]) rfl ⟨?_, .inl rfl⟩; exact below_far (below_far hbB (by omega) _ _) (by omega) _ _
  ·by_cases h9 : num.length ≤ 9
   rotate_left
   ·have l1 : decide ((9 : Int) < ((bs num).size : Int)) = true := by rw [bs_size]; exact dT (by omega)
    clear hr n1; go_wp2; refine bodyPost_ret (v := .tuple #[.agg #[.int .i64 0, .int .i64 0], .bool false]) (by simp [results, Tryz.results36, go_sem, a0, a1]) rfl ⟨?_, .inl rfl⟩; exact below_far (below_far hbB (by omega) _ _) (by omega) _ _
   have hnl := h9
   have l1 : decide ((9 : Int) < ((bs num).size : Int)) = false := by rw [bs_size]; exact dF (by omega)
   have l2 : decide ((9 : Int) < ((bs []).size : Int)) = false := by rw [bs_size]; exact dF (by simp)
   have HR := zh hr; have hv := val9 num n1 hnl; have HD := zh (fun W => dval_any (bs num) W (by rw [bs_size]; omega) (by rw [bs_data]; exact (numOk_iff.1 n1).1)); rw [bs_data] at HD
   have hbe : (bs []).toList.isEmpty = true := by rw [bs_toList]; rfl
   have hbe' : (bs []).toList = [] := by rw [bs_toList]
   clear hr n1; generalize val num = v at *
   go_upto_region 7 with (go_at_call 64; refine (HD.out _).mono ?_; rintro e w' ⟨rfl, rfl⟩)
   obtain ⟨W2, hW2⟩ := eqx (W1.alloc (.cells #[.int .i64 v, .int .i64 1] 62))
   have D2 : Blk W2 w.heap.size 62 #[.int .i64 0, .int .i64 0] := by rw [← hW2]; exact C2.alloc _
   have D4 : Blk W2 w1.heap.size 83 #[.bool b, .string (bs num), .string (bs [])] := by rw [← hW2]; exact C4.alloc _
   have D6 : Blk W2 W1.heap.size 62 #[.int .i64 v, .int .i64 1] := by rw [← hW2]; exact Blk.new W1 _ _
   have hbC : Below w.heap.size w W2 := by rw [← hW2]; exact hbB.alloc hbB.size _
   rw [hW2]; have hz4 := D2.lt; clear hW2 C2 C4 hbB a0 a1 a2 a3 p0 p1 p2; obtain ⟨a0, a1, a2, a3⟩ := D2.two; obtain ⟨p0, p1, p2, _, _, _⟩ := D4.three; obtain ⟨x0, x1, x2, x3⟩ := D6.two
   cases b with
   | false =>
     go_wp2; refine bodyPost_ret (v := .tuple #[.agg #[.int .i64 (sg false v), .int .i64 (1 : Nat)], .bool true]) (by simp [results, Tryz.results36, go_sem, a0, a1, sg]) rfl ⟨?_, .inr ⟨false, v, 1, HR.out, hv, by omega, rfl⟩⟩; exact below_far (below_far hbC (by omega) _ _) (by omega) _ _
   | true =>
     go_wp2; refine bodyPost_ret (v := .tuple #[.agg #[.int .i64 (sg true v), .int .i64 (1 : Nat)], .bool true]) (by simp [results, Tryz.results36, go_sem, a0, a1, sg]) rfl ⟨?_, .inr ⟨true, v, 1, HR.out, hv, by omega, rfl⟩⟩; exact below_far (below_far (below_far hbC (by omega) _ _) (by omega) _ _) (by omega) _ _
  ·by_cases h9 : num.length ≤ 9
   rotate_left
   ·have l1 : decide ((9 : Int) < ((bs num).size : Int)) = true := by rw [bs_size]; exact dT (by omega)
    clear hr n1 m1 v0 v1 hdn; go_wp2; refine bodyPost_ret (v := .tuple #[.agg #[.int .i64 0, .int .i64 0], .bool false]) (by simp [results, Tryz.results36, go_sem, a0, a1]) rfl ⟨?_, .inl rfl⟩; exact below_far (below_far hbB (by omega) _ _) (by omega) _ _
   have hnl := h9
   have l1 : decide ((9 : Int) < ((bs num).size : Int)) = false := by rw [bs_size]; exact dF (by omega)
   by_cases h9d : den.length ≤ 9
   rotate_left
   ·have l2 : decide ((9 : Int) < ((bs den).size : Int)) = true := by rw [bs_size]; exact dT (by omega)
    clear hr n1 m1 v0 v1 hdn; go_wp2; refine bodyPost_ret (v := .tuple #[.agg #[.int .i64 0, .int .i64 0], .bool false]) (by simp [results, Tryz.results36, go_sem, a0, a1]) rfl ⟨?_, .inl rfl⟩; exact below_far (below_far hbB (by omega) _ _) (by omega) _ _
   have hdl := h9d
   have l2 : decide ((9 : Int) < ((bs den).size : Int)) = false := by rw [bs_size]; exact dF (by omega)
   have HR := zh hr; have hv := val9 num n1 hnl; have hu := val9 den m1 hdl; have HD := zh (fun W => dval_any (bs num) W (by rw [bs_size]; omega) (by rw [bs_data]; exact (numOk_iff.1 n1).1)); have HE := zh (fun W => dval_any (bs den) W (by rw [bs_size]; omega) (by rw [bs_data]; exact (numOk_iff.1 m1).1)); rw [bs_data] at HD HE
   have hbe : (bs den).toList.isEmpty = false := by rw [bs_toList]; cases den; exact absurd rfl hdn; rfl
   have hbe' : ¬ (bs den).toList = [] := by rw [bs_toList]; exact hdn
   have HG := zh (fun W => sgcd_any (val num) (val den) W (by omega) (by omega)); clear hr n1 m1 hdn v0 v1; generalize val num = v at *; generalize val den = u at *
   go_upto_region 9 with (first
     | (go_at_call 64; with_reducible refine Calls.mono (HD.out _) ?_; rintro e w' ⟨rfl, rfl⟩)
     | (go_at_call 64; with_reducible refine Calls.mono (HE.out _) ?_; rintro e w' ⟨rfl, rfl⟩))
   obtain ⟨W2, hW2⟩ := eqx (W1.alloc (.cells #[.int .i64 v, .int .i64 u] 62))
   have D2 : Blk W2 w.heap.size 62 #[.int .i64 0, .int .i64 0] := by rw [← hW2]; exact C2.alloc _
   have D4 : Blk W2 w1.heap.size 83 #[.bool b, .string (bs num), .string (bs den)] := by rw [← hW2]; exact C4.alloc _
   have D6 : Blk W2 W1.heap.size 62 #[.int .i64 v, .int .i64 u] := by rw [← hW2]; exact Blk.new W1 _ _
   have hbC : Below w.heap.size w W2 := by rw [← hW2]; exact hbB.alloc hbB.size _
   rw [hW2]; clear hW2 C2 C4 hbB a0 a1 a2 a3 p0 p1 p2; obtain ⟨x0, x1, x2, x3⟩ := D6.two; go_wp2_with (fail); refine (HG.out _).mono ?_; rintro e w5 ⟨rfl, hb5⟩; have E2 := D2.keep hb5 D2.lt; have E4 := D4.keep hb5 D4.lt; have E6 := D6.keep hb5 D6.lt; have hbE := below_all hbC hb5; have hz4 := E2.lt; clear D2 D4 D6 hbC hb5 x0 x1 x2 x3; obtain ⟨a0, a1, a2, a3⟩ := E2.two; obtain ⟨p0, p1, p2, _, _, _⟩ := E4.three; obtain ⟨x0, x1, x2, x3⟩ := E6.two
   by_cases hg : Nat.gcd v u = 1
   ·have HR2 : Hid (rd s.data.toList = some (b, v, u)) := zh (by rw [HR.out, if_pos hg]); rw [hg]; clear HR HG hg
    cases b with
    | false =>
      go_wp2; refine bodyPost_ret (v := .tuple #[.agg #[.int .i64 (sg false v), .int .i64 u], .bool true]) (by simp [results, Tryz.results36, go_sem, a0, a1, sg]) rfl ⟨?_, .inr ⟨false, v, u, HR2.out, hv, hu, rfl⟩⟩; exact below_far (below_far hbE (by omega) _ _) (by omega) _ _
    | true =>
      go_wp2; refine bodyPost_ret (v := .tuple #[.agg #[.int .i64 (sg true v), .int .i64 u], .bool true]) (by simp [results, Tryz.results36, go_sem, a0, a1, sg]) rfl ⟨?_, .inr ⟨true, v, u, HR2.out, hv, hu, rfl⟩⟩; exact below_far (below_far (below_far hbE (by omega) _ _) (by omega) _ _) (by omega) _ _
   ·have HR2 : Hid (rd s.data.toList = none) := zh (by rw [HR.out, if_neg hg])
    have hgb : (((Nat.gcd v u : Nat) : Int) != 1) = true := by simp; omega
    have hgb' : (Nat.gcd v u == 1) = false := by simp [hg]
    have hgb'' : (((Nat.gcd v u : Nat) : Int) == 1) = false := beq_eq_false_iff_ne.2 (by omega); clear HR HG hg; generalize Nat.gcd v u = g at *; go_wp2; refine bodyPost_ret (v := .tuple #[.agg #[.int .i64 0, .int .i64 0], .bool false]) (by simp [results, Tryz.results36, go_sem, a0, a1]) rfl ⟨?_, .inl rfl⟩; exact below_far (below_far hbE (by omega) _ _) (by omega) _ _
end
end Go.Proofs.Tg
namespace Go.Proofs.Tg.Fi
section
open Go.RowKit Go.Rq Go.Qn Go.Proofs.Tg
theorem rshort_text (b : Bool) (n d : Nat) (w : World) (hc : Canon b n d) (hn : n < 1000000000) (hd : d < 1000000000) :
    Calls Tryz.prog 36 #[.string (bs (text b n d))] w fun e w' => e = .returned (.tuple #[.agg #[.int .i64 (sg b n), .int .i64 (d : Nat)], .bool true]) ∧ Below w.heap.size w w' := by
  have hsz := text_len (b := b) hn hd; have HSP := zh (fun W => split_text b n d W hc (by omega)); unfold RetSplit3 at HSP; have hg := hc.2.1; have hnl := dec_nine hn; have hdl := dec_nine hd; obtain ⟨s, hs⟩ := eqx (bs (text b n d))
  have hss : s.size ≤ 20 := by rw [← hs, bs_size]; exact hsz
  rw [hs] at HSP ⊢; have hd20 : decide ((20 : Int) < (s.size : Int)) = false := dF (by omega); obtain ⟨W0, hW0⟩ := eqx (w.alloc (.cells #[.int .i64 0, .int .i64 0] 62))
  have B2 : Blk W0 w.heap.size 62 #[.int .i64 0, .int .i64 0] := by rw [← hW0]; exact Blk.new _ _ _
  have hbA : Below w.heap.size w W0 := by rw [← hW0]; exact bal
  have HW0 := zh hW0; obtain ⟨num, hnum⟩ := eqx (Lib.decDigits n); have HD := zh (fun W => dval_any (bs num) W (by rw [bs_size, ← hnum]; omega) (by rw [bs_data, ← hnum]; exact dec_allD n)); rw [bs_data] at HD; rw [show Qn.val num = n from by rw [← hnum]; exact val_dec n] at HD; rw [hnum] at hnl HSP; clear hW0 hs hsz hc hnum
  by_cases h1 : d = 1
  ·subst h1; rw [if_pos rfl] at HSP; clear hg; go_enter Tryz.func36, Tryz.ntmps36; go_upto_region 1 with (fail); rw [HW0.out]; go_wp2_with (fail); refine (HSP.out W0).mono ?_; rintro e w1 ⟨rfl, hb1⟩; go_upto_region 4 with (fail); obtain ⟨W1, hW1⟩ := eqx (w1.alloc (.cells #[.bool b, .string (bs num), .string (bs [])] 83))
   have C2 : Blk W1 w.heap.size 62 #[.int .i64 0, .int .i64 0] := by rw [← hW1]; exact (B2.keep hb1 B2.lt).alloc _
   have C4 : Blk W1 w1.heap.size 83 #[.bool b, .string (bs num), .string (bs [])] := by rw [← hW1]; exact Blk.new _ _ _
   have hbB : Below w.heap.size w W1 := by rw [← hW1]; have := below_all hbA hb1; exact this.alloc this.size _
   have hz1 : w.heap.size < w1.heap.size := by have := B2.lt; have := hb1.size; omega
   rw [hW1]; clear hW1 B2 hb1 hbA; obtain ⟨a0, a1, a2, a3⟩ := C2.two; obtain ⟨p0, p1, p2, _, _, _⟩ := C4.three; have hz2 := C4.lt; have hz3 := C2.lt
   have l1 : decide ((9 : Int) < ((bs num).size : Int)) = false := by rw [bs_size]; exact dF (by omega)
   have l2 : decide ((9 : Int) < ((bs []).size : Int)) = false := by rw [bs_size]; exact dF (by simp)
   have hbe : (bs []).toList.isEmpty = true := by rw [bs_toList]; rfl
   have hbe' : (bs []).toList = [] := by rw [bs_toList]
   go_upto_region 7 with (go_at_call 64; refine (HD.out _).mono ?_; rintro e w' ⟨rfl, rfl⟩)
   obtain ⟨W2, hW2⟩ := eqx (W1.alloc (.cells #[.int .i64 n, .int .i64 1] 62))
   have D2 : Blk W2 w.heap.size 62 #[.int .i64 0, .int .i64 0] := by rw [← hW2]; exact C2.alloc _
   have D4 : Blk W2 w1.heap.size 83 #[.bool b, .string (bs num), .string (bs [])] := by rw [← hW2]; exact C4.alloc _
   have D6 : Blk W2 W1.heap.size 62 #[.int .i64 n, .int .i64 1] := by rw [← hW2]; exact Blk.new W1 _ _
   have hbC : Below w.heap.size w W2 := by rw [← hW2]; exact hbB.alloc hbB.size _
   rw [hW2]; have hz4 := D2.lt; clear hW2 C2 C4 hbB a0 a1 a2 a3 p0 p1 p2; obtain ⟨a0, a1, a2, a3⟩ := D2.two; obtain ⟨p0, p1, p2, _, _, _⟩ := D4.three; obtain ⟨x0, x1, x2, x3⟩ := D6.two
   cases b with
   | false =>
     go_wp2; refine bodyPost_ret (v := .tuple #[.agg #[.int .i64 (sg false n), .int .i64 (1 : Nat)], .bool true]) (by simp [results, Tryz.results36, go_sem, a0, a1, sg]) rfl ⟨rfl, ?_⟩; exact below_far (below_far hbC (by omega) _ _) (by omega) _ _
   | true =>
     go_wp2; refine bodyPost_ret (v := .tuple #[.agg #[.int .i64 (sg true n), .int .i64 (1 : Nat)], .bool true]) (by simp [results, Tryz.results36, go_sem, a0, a1, sg]) rfl ⟨rfl, ?_⟩; exact below_far (below_far (below_far hbC (by omega) _ _) (by omega) _ _) (by omega) _ _
  ·rw [if_neg h1] at HSP; obtain ⟨den, hden⟩ := eqx (Lib.decDigits d); have HE := zh (fun W => dval_any (bs den) W (by rw [bs_size, ← hden]; omega) (by rw [bs_data, ← hden]; exact dec_allD d)); rw [bs_data] at HE; rw [show Qn.val den = d from by rw [← hden]; exact val_dec d] at HE
   have hdn : den ≠ [] := by rw [← hden]; exact dec_ne d
   rw [hden] at hdl HSP; have HG := zh (fun W => sgcd_big n d W (by omega) (by omega)); rw [hg] at HG
   have hbe : (bs den).toList.isEmpty = false := by rw [bs_toList]; cases den; exact absurd rfl hdn; rfl
   have hbe' : ¬ (bs den).toList = [] := by rw [bs_toList]; exact hdn
   clear hg hden hdn h1; go_enter Tryz.func36, Tryz.ntmps36; go_upto_region 1 with (fail); rw [HW0.out]; go_wp2_with (fail); refine (HSP.out W0).mono ?_; rintro e w1 ⟨rfl, hb1⟩; go_upto_region 4 with (fail); obtain ⟨W1, hW1⟩ := eqx (w1.alloc (.cells #[.bool b, .string (bs num), .string (bs den)] 83))
   have C2 : Blk W1 w.heap.size 62 #[.int .i64 0, .int .i64 0] := by rw [← hW1]; exact (B2.keep hb1 B2.lt).alloc _
   have C4 : Blk W1 w1.heap.size 83 #[.bool b, .string (bs num), .string (bs den)] := by rw [← hW1]; exact Blk.new _ _ _
   have hbB : Below w.heap.size w W1 := by rw [← hW1]; have := below_all hbA hb1; exact this.alloc this.size _
   have hz1 : w.heap.size < w1.heap.size := by have := B2.lt; have := hb1.size; omega
   rw [hW1]; clear hW1 B2 hb1 hbA; obtain ⟨a0, a1, a2, a3⟩ := C2.two; obtain ⟨p0, p1, p2, _, _, _⟩ := C4.three; have hz2 := C4.lt; have hz3 := C2.lt
   have l1 : decide ((9 : Int) < ((bs num).size : Int)) = false := by rw [bs_size]; exact dF (by omega)
   have l2 : decide ((9 : Int) < ((bs den).size : Int)) = false := by rw [bs_size]; exact dF (by omega)
   go_upto_region 9 with (first
     | (go_at_call 64; with_reducible refine Calls.mono (HD.out _) ?_; rintro e w' ⟨rfl, rfl⟩)
     | (go_at_call 64; with_reducible refine Calls.mono (HE.out _) ?_; rintro e w' ⟨rfl, rfl⟩))
   obtain ⟨W2, hW2⟩ := eqx (W1.alloc (.cells #[.int .i64 n, .int .i64 d] 62))
   have D2 : Blk W2 w.heap.size 62 #[.int .i64 0, .int .i64 0] := by rw [← hW2]; exact C2.alloc _
   have D4 : Blk W2 w1.heap.size 83 #[.bool b, .string (bs num), .string (bs den)] := by rw [← hW2]; exact C4.alloc _
   have D6 : Blk W2 W1.heap.size 62 #[.int .i64 n, .int .i64 d] := by rw [← hW2]; exact Blk.new W1 _ _
   have hbC : Below w.heap.size w W2 := by rw [← hW2]; exact hbB.alloc hbB.size _
   rw [hW2]; clear hW2 C2 C4 hbB a0 a1 a2 a3 p0 p1 p2; obtain ⟨x0, x1, x2, x3⟩ := D6.two; go_wp2_with (fail); refine (HG.out _).mono ?_; rintro e w5 ⟨rfl, hb5⟩; have E2 := D2.keep hb5 D2.lt; have E4 := D4.keep hb5 D4.lt; have E6 := D6.keep hb5 D6.lt; have hbE := below_all hbC hb5; have hz4 := E2.lt; clear D2 D4 D6 hbC hb5 x0 x1 x2 x3; obtain ⟨a0, a1, a2, a3⟩ := E2.two; obtain ⟨p0, p1, p2, _, _, _⟩ := E4.three; obtain ⟨x0, x1, x2, x3⟩ := E6.two
   cases b with
   | false =>
     go_wp2; refine bodyPost_ret (v := .tuple #[.agg #[.int .i64 (sg false n), .int .i64 d], .bool true]) (by simp [results, Tryz.results36, go_sem, a0, a1, sg]) rfl ⟨rfl, ?_⟩; exact below_far (below_far hbE (by omega) _ _) (by omega) _ _
   | true =>
     go_wp2; refine bodyPost_ret (v := .tuple #[.agg #[.int .i64 (sg true n), .int .i64 d], .bool true]) (by simp [results, Tryz.results36, go_sem, a0, a1, sg]) rfl ⟨rfl, ?_⟩; exact below_far (below_far (below_far hbE (by omega) _ _) (by omega) _ _) (by omega) _ _
theorem rshort_q (q : Rat) (h : Sh q) (w : World) :
    Calls Tryz.prog 36 #[.string (qtx q)] w fun e w' => e = .returned (.tuple #[.agg #[.int .i64 q.num, .int .i64 (q.den : Nat)], .bool true]) ∧ Below w.heap.size w w' := by
  have := rshort_text (decide (q.num < 0)) q.num.natAbs q.den w (canon q) h.1 h.2; have e : sg (decide (q.num < 0)) q.num.natAbs = q.num := sgq q
  rwa [e] at this
theorem below_two {w V : World} {g : Nat} {a' b' : Value} (h : Below w.heap.size w V) (hg : w.heap.size ≤ g) : Below w.heap.size w ((V.setCell ⟨g, 0, none⟩ a').setCell ⟨g, 1, none⟩ b') := below_far (below_far h hg _ _) hg _ _
theorem rtwo_q (p q : Rat) (hp : Sh p) (hq : Sh q) (w : World) :
    Calls Tryz.prog 25 #[.string (qtx p), .string (qtx q)] w fun e w' => e = .returned (.tuple #[.agg #[.int .i64 p.num, .int .i64 (p.den : Nat)], .agg #[.int .i64 q.num, .int .i64 (q.den : Nat)], .bool true]) ∧ Below w.heap.size w w' := by
  have H1 := zh (fun W => rshort_q p hp W); have H2 := zh (fun W => rshort_q q hq W); generalize qtx p = S at *; generalize qtx q = T at *; generalize p.num = a at *; generalize p.den = b at *; generalize q.num = c at *; generalize q.den = d at *; obtain ⟨W, hW⟩ := eqx ((w.alloc (.cells #[.int .i64 0, .int .i64 0] 62)).alloc (.cells #[.int .i64 0, .int .i64 0] 62))
  have B4 : Blk W w.heap.size 62 #[.int .i64 0, .int .i64 0] := by rw [← hW]; exact (Blk.new _ _ _).alloc _
  have B5 : Blk W (w.heap.size + 1) 62 #[.int .i64 0, .int .i64 0] := by
   rw [← hW]; have := Blk.new (w.alloc (.cells #[.int .i64 0, .int .i64 0] 62)) 62 #[.int .i64 0, .int .i64 0]; simpa using this
  have hbW : Below w.heap.size w W := by rw [← hW]; exact (bal).alloc (by simp) _
  have HW := zh hW; clear hW hp hq; go_enter Tryz.func25, Tryz.ntmps25; go_upto_region 1 with (fail); rw [HW.out]; go_wp2_with (fail); refine (H1.out _).mono ?_; rintro e w1 ⟨rfl, hb1⟩; obtain ⟨W1, hW1⟩ := eqx (w1.alloc (.cells #[.int .i64 a, .int .i64 b] 62)); have hb1' := below_all hbW hb1
  have C4 : Blk W1 w.heap.size 62 #[.int .i64 0, .int .i64 0] := by rw [← hW1]; exact (B4.keep hb1 B4.lt).alloc _
  have C5 : Blk W1 (w.heap.size + 1) 62 #[.int .i64 0, .int .i64 0] := by rw [← hW1]; exact (B5.keep hb1 B5.lt).alloc _
  have C7 : Blk W1 w1.heap.size 62 #[.int .i64 a, .int .i64 b] := by rw [← hW1]; exact Blk.new _ _ _
  have hbW1 : Below w.heap.size w W1 := by rw [← hW1]; exact hb1'.alloc hb1'.size _
  have hz5 : w.heap.size + 1 < w1.heap.size := by have := B5.lt; have := hb1.size; omega
  go_upto_region 4 with (fail)
  try rw [hW1]
  clear hW1 B4 B5 hb1 hb1' H1; go_wp2_with (fail); refine (H2.out _).mono ?_; rintro e w2 ⟨rfl, hb2⟩; obtain ⟨W2, hW2⟩ := eqx (w2.alloc (.cells #[.int .i64 c, .int .i64 d] 62)); have hb2' := below_all hbW1 hb2
  have D4 : Blk W2 w.heap.size 62 #[.int .i64 0, .int .i64 0] := by rw [← hW2]; exact (C4.keep hb2 C4.lt).alloc _
  have D5 : Blk W2 (w.heap.size + 1) 62 #[.int .i64 0, .int .i64 0] := by rw [← hW2]; exact (C5.keep hb2 C5.lt).alloc _
  have D7 : Blk W2 w1.heap.size 62 #[.int .i64 a, .int .i64 b] := by rw [← hW2]; exact (C7.keep hb2 C7.lt).alloc _
  have D9 : Blk W2 w2.heap.size 62 #[.int .i64 c, .int .i64 d] := by rw [← hW2]; exact Blk.new _ _ _
  have hbW2 : Below w.heap.size w W2 := by rw [← hW2]; exact hb2'.alloc hb2'.size _
  have hz7 : w1.heap.size < w2.heap.size := by have := C7.lt; have := hb2.size; omega
  go_upto_region 7 with (fail)
  try rw [hW2]
  clear hW2 C4 C5 C7 hb2 hb2' H2 hbW1; obtain ⟨x0, x1, x2, x3⟩ := D4.two; obtain ⟨y0, y1, y2, y3⟩ := D5.two; obtain ⟨a0, a1, a2, a3⟩ := D7.two; obtain ⟨b0, b1, b2, b3⟩ := D9.two; have HD4 := zh D4; have HD5 := zh D5; have HBE := zh hbW2; clear D4 D5 D7 D9 hbW2 hbW; have n1 : (w.heap.size = w1.heap.size) = False := eq_false (by omega); have n2 : (w.heap.size = w2.heap.size) = False := eq_false (by omega); have n3 : (w.heap.size + 1 = w1.heap.size) = False := eq_false (by omega); have n4 : (w.heap.size + 1 = w2.heap.size) = False := eq_false (by omega)
  go_region
  all_goals
    try go_wp2
    refine bodyPost_ret (v := .tuple #[.agg #[.int .i64 a, .int .i64 (b : Nat)], .agg #[.int .i64 c, .int .i64 (d : Nat)], .bool true]) (by simp [results, Tryz.results25, go_sem, x0, x1, y0, y1]) rfl ⟨rfl, ?_⟩
    first
      | exact below_two (below_two (below_drewN HBE.out 1) (by omega)) (by omega)
      | exact below_drewN (below_two (below_two HBE.out (by omega)) (by omega)) 1
theorem sh_num {q : Rat} (h : Sh q) : -1000000000 < q.num ∧ q.num < 1000000000 := by have := h.1; omega
theorem mul_lt9 {a b : Int} (ha : -1000000000 < a ∧ a < 1000000000) (hb : -1000000000 < b ∧ b < 1000000000) : -1000000000000000000 < a * b ∧ a * b < 1000000000000000000 := by
 have h : (a * b).natAbs < 1000000000 * 1000000000 := by
  rw [Int.natAbs_mul]; exact Nat.mul_lt_mul'' (by omega) (by omega)
 omega
theorem add_q (p q : Rat) (hp : Sh p) (hq : Sh q) (w : World) (ht : PT w) :
    Calls Tryz.prog 18 #[.string (qtx p), .string (qtx q)] w (RetTx (p + q) w) := by
  have H := zh (rtwo_q p q hp hq w); have a1 := sh_num hp; have c1 := sh_num hq
  have b1 : -1000000000 < (p.den : Int) ∧ (p.den : Int) < 1000000000 := by have := hp.2; omega
  have d1 : -1000000000 < (q.den : Int) ∧ (q.den : Int) < 1000000000 := by have := hq.2; omega
  have m1 := mul_lt9 a1 d1; have m2 := mul_lt9 c1 b1; have m3 := mul_lt9 b1 d1; have hpq : mkRat (p.num * (q.den : Int) + q.num * (p.den : Int)) (p.den * q.den) = p + q := (Rat.add_def' p q).symm; have hne : p.den * q.den ≠ 0 := Nat.mul_ne_zero p.den_nz q.den_nz
  have hcast : (p.den : Int) * (q.den : Int) = ((p.den * q.den : Nat) : Int) := by simp
  have hl : p.den * q.den < 9000000000000000000 := by omega
  rw [hcast] at m3; have HF := zh (fun V (h : PT V) => fshort_any (p.num * (q.den : Int) + q.num * (p.den : Int)) (p.den * q.den) V (by omega) hl hne h); rw [hpq, ← hcast] at HF; rw [← hcast] at m3; have HT := zh ht; unfold RetTx at *; generalize p + q = R at *; generalize qtx p = S at *; generalize qtx q = T at *; generalize qtx R = U at *; clear hpq hne hcast hl hp hq ht; generalize (q.den : Int) = d at *; generalize (p.den : Int) = b at *; generalize q.num = c at *; generalize p.num = a at *; have w1 : IntKind.i64.wrap (a * d) = a * d := IntWalk.i64_in _ (by omega); have w2 : IntKind.i64.wrap (c * b) = c * b := IntWalk.i64_in _ (by omega); have w3 : IntKind.i64.wrap (b * d) = b * d := IntWalk.i64_in _ (by omega); have w4 : IntKind.i64.wrap (a * d + c * b) = a * d + c * b := IntWalk.i64_in _ (by omega); clear m1 m2 m3 a1 b1 c1 d1; go_enter Tryz.func18, Tryz.ntmps18; go_wp2_with (fail)
  refine H.out.mono ?_; rintro e w2 ⟨rfl, hb2⟩; have HTT := zh (fun V (h : Below w2.heap.size w2 V) => (HT.out.keep hb2).keep h); go_wp2_with (fail); refine (HF.out _ (HTT.out _ ((bal).alloc (by simp) _))).mono ?_; rintro e w3 ⟨rfl, hb3⟩; go_wp2; go_ret; exact ⟨rfl, (hb2.trans ((((Below.refl w2.heap.size w2).alloc (Nat.le_refl _) _).alloc (by simp) _).mono hb2.size)).trans (hb3.mono (by have := hb2.size; simp; omega))⟩
theorem mul_q (p q : Rat) (hp : Sh p) (hq : Sh q) (w : World) (ht : PT w) :
    Calls Tryz.prog 17 #[.string (qtx p), .string (qtx q)] w (RetTx (p * q) w) := by
  have H := zh (rtwo_q p q hp hq w); have a1 := sh_num hp; have c1 := sh_num hq
  have b1 : -1000000000 < (p.den : Int) ∧ (p.den : Int) < 1000000000 := by have := hp.2; omega
  have d1 : -1000000000 < (q.den : Int) ∧ (q.den : Int) < 1000000000 := by have := hq.2; omega
  have m1 := mul_lt9 a1 c1; have m3 := mul_lt9 b1 d1; have hpq : mkRat (p.num * q.num) (p.den * q.den) = p * q := (Rat.mul_def' p q).symm; have hne : p.den * q.den ≠ 0 := Nat.mul_ne_zero p.den_nz q.den_nz
  have hcast : (p.den : Int) * (q.den : Int) = ((p.den * q.den : Nat) : Int) := by simp
  have hl : p.den * q.den < 9000000000000000000 := by omega
  rw [hcast] at m3; have HF := zh (fun V (h : PT V) => fshort_any (p.num * q.num) (p.den * q.den) V (by omega) hl hne h); rw [hpq, ← hcast] at HF; rw [← hcast] at m3; have HT := zh ht; unfold RetTx at *; generalize p * q = R at *; generalize qtx p = S at *; generalize qtx q = T at *; generalize qtx R = U at *; clear hpq hne hcast hl hp hq ht; generalize (q.den : Int) = d at *; generalize (p.den : Int) = b at *; generalize q.num = c at *; generalize p.num = a at *; have w1 : IntKind.i64.wrap (a * c) = a * c := IntWalk.i64_in _ (by omega); have w3 : IntKind.i64.wrap (b * d) = b * d := IntWalk.i64_in _ (by omega); clear m1 m3 a1 b1 c1 d1; go_enter Tryz.func17, Tryz.ntmps17; go_wp2_with (fail); refine H.out.mono ?_; rintro e w2 ⟨rfl, hb2⟩; have HTT := zh (fun V (h : Below w2.heap.size w2 V) => (HT.out.keep hb2).keep h); go_wp2_with (fail)
  refine (HF.out _ (HTT.out _ ((bal).alloc (by simp) _))).mono ?_; rintro e w3 ⟨rfl, hb3⟩; go_wp2; go_ret; exact ⟨rfl, (hb2.trans ((((Below.refl w2.heap.size w2).alloc (Nat.le_refl _) _).alloc (by simp) _).mono hb2.size)).trans (hb3.mono (by have := hb2.size; simp; omega))⟩
theorem valid_q (q : Rat) (h : Sh q) (w : World) : Calls Tryz.prog 23 #[.string (qtx q)] w fun e w' => e = .returned (.bool true) ∧ Below w.heap.size w w' := by
 have H := zh (fun W => rshort_q q h W)
 generalize qtx q = S at *
 generalize q.num = a at *
 generalize q.den = b at *
 clear h
 go_enter Tryz.func23, Tryz.ntmps23
 go_wp2_with (fail)
 refine (H.out _).mono ?_
 rintro e w1 ⟨rfl, hb1⟩
 go_wp2
 go_ret
 exact ⟨rfl, hb1.alloc hb1.size _⟩
end
end Go.Proofs.Tg.Fi
namespace Go.Proofs.Tg.Iw
section
open Go.RowKit Go.Bw Go.Gr Go.Proofs.Tg Go.Rq
open Go.Proofs.Tg.Fi (PT RetTx mul_q add_q rshort_q)
theorem value_q (q : Rat) (w : World) (bn : (dg q.num.natAbs).length ≤ 79) (bd : (dg q.den).length ≤ 79) (hT : Tab w) :
    Calls Tryz.prog 27 #[.string (qtx q)] w (RetR q w) := by
  obtain ⟨W, hW⟩ := eqx (w.alloc (.cells #[.bool false, .slice none 0 0, .bool false, .slice none 0 0] 70))
  have B0 : Blk W w.heap.size 70 #[.bool false, .slice none 0 0, .bool false, .slice none 0 0] := by rw [← hW]; exact Blk.new _ _ _
  have hbW : Below w.heap.size w W := by rw [← hW]; exact bal
  have HB0 := zh B0; have HWW := zh hW; obtain ⟨sg, hsg⟩ := eqx (decide (q.num < 0)); obtain ⟨ln, hln⟩ := eqx ((dg q.num.natAbs).length); obtain ⟨ld, hld⟩ := eqx ((dg (dnz q.den)).length)
  have HRD : Hid (Calls Tryz.prog 44 #[.string (qtx q)] W fun e w' => ∃ N cn D cd, e = .returned (.tuple #[.agg #[.bool sg, .slice N ln cn, .bool false, .slice D ld cd], .bool true]) ∧ Hid (RNum w' q N cn D cd) ∧ Below W.heap.size W w') := zh (by
   refine (read_q q W bn bd (hT.below hbW hT.1)).mono ?_; rintro e w' ⟨N, cn, D, cd, rfl, h1, h2⟩; unfold rval; rw [hsg, hln, hld]
   exact ⟨N, cn, D, cd, rfl, zh h1, h2⟩)
  obtain ⟨Q, hQ⟩ := eqx (RetR q w)
  have HFIN : Hid (∀ V N cn D cd, Below W.heap.size W V → RNum V q N cn D cd → Q (.returned (.agg #[.bool sg, .slice N ln cn, .bool false, .slice D ld cd])) ((((V.setCell ⟨w.heap.size, 0, none⟩ (.bool sg)).setCell ⟨w.heap.size, 1, none⟩ (.slice N ln cn)).setCell ⟨w.heap.size, 2, none⟩ (.bool false)).setCell ⟨w.heap.size, 3, none⟩ (.slice D ld cd))) := zh (fun V N cn D cd hV hR => by
   have Y := HB0.out.keep hV HB0.out.lt; rw [← hQ]; refine ⟨N, cn, D, cd, ?_, ⟨nw_four hR.num (hR.num.offB Y nil4) _ _ _ _, nw_four hR.den (hR.den.offB Y nil4) _ _ _ _⟩, ?_⟩
   ·unfold rval; rw [hsg, hln, hld]
   ·exact below_far (below_far (below_far (below_far (below_all hbW hV) (by omega) _ _) (by omega) _ _) (by omega) _ _) (by omega) _ _)
  rw [hQ]; clear hQ hW hbW B0 hsg hln hld bn bd hT; generalize qtx q = S at *; go_enter Tryz.func27, Tryz.ntmps27; go_upto_region 1 with (fail); rw [HWW.out]
  go_upto_region 2 with (go_at_call 44; refine HRD.out.mono ?_; rintro e w1 ⟨N, cn, D, cd, rfl, hR, hb1⟩; have HB1 := zh hb1; clear hb1)
  obtain ⟨g3, hg3⟩ := eqx (w1.heap.size); obtain ⟨w2, hw2⟩ := eqx (w1.alloc (.cells #[.bool sg, .slice N ln cn, .bool false, .slice D ld cd] 70))
  have hal : Below w1.heap.size w1 w2 := by rw [← hw2]; exact bal
  have B3 : Blk w2 g3 70 #[.bool sg, .slice N ln cn, .bool false, .slice D ld cd] := by rw [← hw2, ← hg3]; exact Blk.new _ _ _
  have HB2 := zh (below_all HB1.out hal); have HR2 := zh (hR.out.keep hal); rw [hw2, hg3]; clear hw2 hg3 hal hR HRD; obtain ⟨x0, x1, x2, x3, _, _, _, _⟩ := B3.four; have Y0 := HB0.out.keep HB2.out HB0.out.lt; have HEND := zh (HFIN.out w2 N cn D cd HB2.out HR2.out); have YT := rz_four Y0 (.bool sg) (.slice N ln cn) (.bool false) (.slice D ld cd); obtain ⟨t0, t1, t2, t3, _, _, _, _⟩ := Y0.four; go_wp2; obtain ⟨t0, t1, t2, t3, _, _, _, _⟩ := YT.four; exact bodyPost_ret (v := .agg #[.bool sg, .slice N ln cn, .bool false, .slice D ld cd]) (by simp [results, Tryz.results27, go_sem, t0, t1, t2, t3]) rfl HEND.out
theorem rsh_no (q : Rat) (h : ¬ Sh q) (w : World) :
    Calls Tryz.prog 36 #[.string (qtx q)] w fun e w' => e = .returned (.tuple #[.agg #[.int .i64 0, .int .i64 0], .bool false]) ∧ Below w.heap.size w w' := by
  by_cases hs : (qtx q).size ≤ 64
  ·refine (rshort_w (qtx q) w hs).mono ?_; rintro e w' ⟨hb, rfl | ⟨b, n, d, hr, hn, hd, rfl⟩⟩
   ·exact ⟨rfl, hb⟩
   ·have h2 := Go.Qn.rd_text (canon q)
    have e : (qtx q).data.toList = Go.Qn.text (decide (q.num < 0)) q.num.natAbs q.den := by unfold qtx; rw [bs_data]
    rw [e, h2] at hr
    injection hr with hr
    injection hr with _ hr
    injection hr with e1 e2
    subst e1 e2; exact absurd ⟨hn, hd⟩ h
  ·obtain ⟨S, hS⟩ := eqx (qtx q); rw [hS] at hs ⊢; clear hS h; obtain ⟨W0, hW0⟩ := eqx (w.alloc (.cells #[.int .i64 0, .int .i64 0] 62))
   have B2 : Blk W0 w.heap.size 62 #[.int .i64 0, .int .i64 0] := by rw [← hW0]; exact Blk.new _ _ _
   have hbA : Below w.heap.size w W0 := by rw [← hW0]; exact bal
   have HW0 := zh hW0; clear hW0; have hd20 : decide ((20 : Int) < (S.size : Int)) = true := dT (by omega); have hz := B2.lt; obtain ⟨a0, a1, a2, a3⟩ := B2.two; go_enter Tryz.func36, Tryz.ntmps36; go_upto_region 1 with (fail); rw [HW0.out]; go_wp2; refine bodyPost_ret (v := .tuple #[.agg #[.int .i64 0, .int .i64 0], .bool false]) (by simp [results, Tryz.results36, go_sem, a0, a1]) rfl ⟨rfl, ?_⟩; exact below_far (below_far hbA (by omega) _ _) (by omega) _ _
end
end Go.Proofs.Tg.Iw
