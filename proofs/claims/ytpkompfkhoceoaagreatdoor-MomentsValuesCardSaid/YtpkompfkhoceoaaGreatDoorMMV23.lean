/- Parts of the proof: WN2, FI4, FI5, SC4. -/
import Derived.Deep.RegionHeld3
import Derived.Maps.AppendAt
import Derived.Test.YtpkompfkhoceoaaGreatDoorMMV15
import Derived.Test.YtpkompfkhoceoaaGreatDoorMMV22
section
/- Short numbers of the program: reading. -/
namespace Go.Proofs.Tg
open Go.RowKit Go.Qn
set_option maxHeartbeats 4000000
set_option maxRecDepth 100000
def sg (b : Bool) (n : Nat) : Int := if b = true then -(n : Int) else n
end Go.Proofs.Tg
end
section
/- The program's numbers with short parts: reading a canonical text. -/
namespace Go.Proofs.Tg.Fi
open Go.RowKit Go.Rq Go.Qn Go.Proofs.Tg
set_option maxHeartbeats 6400000
set_option maxRecDepth 100000
theorem rshort_text (b : Bool) (n d : Nat) (w : World) (hc : Canon b n d) (hn : n < 1000000000) (hd : d < 1000000000) :
    Calls Tryz.prog 80 #[.string (bs (text b n d))] w fun e w' => e = .returned (.tuple #[.agg #[.int .i64 (sg b n), .int .i64 (d : Nat)], .bool true]) ∧ Below w.heap.size w w' := by
  have hsz := text_len (b := b) hn hd
  have HSP := Lib.hid (fun W => split_text b n d W hc (by omega))
  unfold RetSplit3 at HSP
  have hg := hc.2.1
  have hnl := dec_nine hn
  have hdl := dec_nine hd
  obtain ⟨s, hs⟩ : ∃ s, bs (text b n d) = s := ⟨_, rfl⟩
  have hss : s.size ≤ 20 := by rw [← hs, bs_size]; exact hsz
  rw [hs] at HSP ⊢
  have hd20 : decide ((20 : Int) < (s.size : Int)) = false := decide_eq_false (by omega)
  obtain ⟨W0, hW0⟩ : ∃ W0, w.alloc (.cells #[.int .i64 0, .int .i64 0] 116) = W0 := ⟨_, rfl⟩
  have B2 : Blk W0 w.heap.size 116 #[.int .i64 0, .int .i64 0] := by rw [← hW0]; exact Blk.new _ _ _
  have hbA : Below w.heap.size w W0 := by rw [← hW0]; exact (Below.refl _ _).alloc (Nat.le_refl _) _
  have HW0 := Lib.hid hW0
  obtain ⟨num, hnum⟩ : ∃ l, Lib.decDigits n = l := ⟨_, rfl⟩
  have HD := Lib.hid (fun W => dval_any (bs num) W (by rw [bs_size, ← hnum]; omega) (by rw [bs_data, ← hnum]; exact dec_allD n))
  rw [bs_data] at HD
  rw [show Qn.val num = n from by rw [← hnum]; exact val_dec n] at HD
  rw [hnum] at hnl HSP
  clear hW0 hs hsz hc hnum
  by_cases h1 : d = 1
  · subst h1
    rw [if_pos rfl] at HSP
    clear hg
    go_enter Tryz.func80, Tryz.ntmps80
    go_upto_region 1 with (fail)
    rw [HW0.out]
    go_wp2_with (fail)
    refine (HSP.out W0).mono ?_
    rintro e w1 ⟨rfl, hb1⟩
    go_upto_region 4 with (fail)
    obtain ⟨W1, hW1⟩ : ∃ W1, w1.alloc (.cells #[.bool b, .string (bs num), .string (bs [])] 142) = W1 := ⟨_, rfl⟩
    have C2 : Blk W1 w.heap.size 116 #[.int .i64 0, .int .i64 0] := by rw [← hW1]; exact (B2.keep hb1 B2.lt).alloc _
    have C4 : Blk W1 w1.heap.size 142 #[.bool b, .string (bs num), .string (bs [])] := by rw [← hW1]; exact Blk.new _ _ _
    have hbB : Below w.heap.size w W1 := by rw [← hW1]; have := below_all hbA hb1; exact this.alloc this.size _
    have hz1 : w.heap.size < w1.heap.size := by have := B2.lt; have := hb1.size; omega
    rw [hW1]
    clear hW1 B2 hb1 hbA
    obtain ⟨a0, a1, a2, a3⟩ := C2.two
    obtain ⟨p0, p1, p2, _, _, _⟩ := C4.three
    have hz2 := C4.lt
    have hz3 := C2.lt
    have l1 : decide ((9 : Int) < ((bs num).size : Int)) = false := by rw [bs_size]; exact decide_eq_false (by omega)
    have l2 : decide ((9 : Int) < ((bs []).size : Int)) = false := by rw [bs_size]; exact decide_eq_false (by simp)
    have hbe : (bs []).toList.isEmpty = true := by rw [bs_toList]; rfl
    have hbe' : (bs []).toList = [] := by rw [bs_toList]
    go_upto_region 7 with (go_at_call 116; refine (HD.out _).mono ?_; rintro e w' ⟨rfl, rfl⟩)
    obtain ⟨W2, hW2⟩ : ∃ W2, W1.alloc (.cells #[.int .i64 n, .int .i64 1] 116) = W2 := ⟨_, rfl⟩
    have D2 : Blk W2 w.heap.size 116 #[.int .i64 0, .int .i64 0] := by rw [← hW2]; exact C2.alloc _
    have D4 : Blk W2 w1.heap.size 142 #[.bool b, .string (bs num), .string (bs [])] := by rw [← hW2]; exact C4.alloc _
    have D6 : Blk W2 W1.heap.size 116 #[.int .i64 n, .int .i64 1] := by rw [← hW2]; exact Blk.new W1 _ _
    have hbC : Below w.heap.size w W2 := by rw [← hW2]; exact hbB.alloc hbB.size _
    rw [hW2]
    have hz4 := D2.lt
    clear hW2 C2 C4 hbB a0 a1 a2 a3 p0 p1 p2
    obtain ⟨a0, a1, a2, a3⟩ := D2.two
    obtain ⟨p0, p1, p2, _, _, _⟩ := D4.three
    obtain ⟨x0, x1, x2, x3⟩ := D6.two
    cases b with
    | false =>
      go_wp2
      refine bodyPost_ret (v := .tuple #[.agg #[.int .i64 (sg false n), .int .i64 (1 : Nat)], .bool true]) (by simp [results, Tryz.results80, go_sem, a0, a1, sg]) rfl ⟨rfl, ?_⟩
      exact below_far (below_far hbC (by omega) _ _) (by omega) _ _
    | true =>
      go_wp2
      refine bodyPost_ret (v := .tuple #[.agg #[.int .i64 (sg true n), .int .i64 (1 : Nat)], .bool true]) (by simp [results, Tryz.results80, go_sem, a0, a1, sg]) rfl ⟨rfl, ?_⟩
      exact below_far (below_far (below_far hbC (by omega) _ _) (by omega) _ _) (by omega) _ _
  · rw [if_neg h1] at HSP
    obtain ⟨den, hden⟩ : ∃ l, Lib.decDigits d = l := ⟨_, rfl⟩
    have HE := Lib.hid (fun W => dval_any (bs den) W (by rw [bs_size, ← hden]; omega) (by rw [bs_data, ← hden]; exact dec_allD d))
    rw [bs_data] at HE
    rw [show Qn.val den = d from by rw [← hden]; exact val_dec d] at HE
    have hdn : den ≠ [] := by rw [← hden]; exact dec_ne d
    rw [hden] at hdl HSP
    have HG := Lib.hid (fun W => sgcd_big n d W (by omega) (by omega))
    rw [hg] at HG
    have hbe : (bs den).toList.isEmpty = false := by rw [bs_toList]; cases den; exact absurd rfl hdn; rfl
    have hbe' : ¬ (bs den).toList = [] := by rw [bs_toList]; exact hdn
    clear hg hden hdn h1
    go_enter Tryz.func80, Tryz.ntmps80
    go_upto_region 1 with (fail)
    rw [HW0.out]
    go_wp2_with (fail)
    refine (HSP.out W0).mono ?_
    rintro e w1 ⟨rfl, hb1⟩
    go_upto_region 4 with (fail)
    obtain ⟨W1, hW1⟩ : ∃ W1, w1.alloc (.cells #[.bool b, .string (bs num), .string (bs den)] 142) = W1 := ⟨_, rfl⟩
    have C2 : Blk W1 w.heap.size 116 #[.int .i64 0, .int .i64 0] := by rw [← hW1]; exact (B2.keep hb1 B2.lt).alloc _
    have C4 : Blk W1 w1.heap.size 142 #[.bool b, .string (bs num), .string (bs den)] := by rw [← hW1]; exact Blk.new _ _ _
    have hbB : Below w.heap.size w W1 := by rw [← hW1]; have := below_all hbA hb1; exact this.alloc this.size _
    have hz1 : w.heap.size < w1.heap.size := by have := B2.lt; have := hb1.size; omega
    rw [hW1]
    clear hW1 B2 hb1 hbA
    obtain ⟨a0, a1, a2, a3⟩ := C2.two
    obtain ⟨p0, p1, p2, _, _, _⟩ := C4.three
    have hz2 := C4.lt
    have hz3 := C2.lt
    have l1 : decide ((9 : Int) < ((bs num).size : Int)) = false := by rw [bs_size]; exact decide_eq_false (by omega)
    have l2 : decide ((9 : Int) < ((bs den).size : Int)) = false := by rw [bs_size]; exact decide_eq_false (by omega)
    go_upto_region 9 with (first
      | (go_at_call 116; with_reducible refine Calls.mono (HD.out _) ?_; rintro e w' ⟨rfl, rfl⟩)
      | (go_at_call 116; with_reducible refine Calls.mono (HE.out _) ?_; rintro e w' ⟨rfl, rfl⟩))
    obtain ⟨W2, hW2⟩ : ∃ W2, W1.alloc (.cells #[.int .i64 n, .int .i64 d] 116) = W2 := ⟨_, rfl⟩
    have D2 : Blk W2 w.heap.size 116 #[.int .i64 0, .int .i64 0] := by rw [← hW2]; exact C2.alloc _
    have D4 : Blk W2 w1.heap.size 142 #[.bool b, .string (bs num), .string (bs den)] := by rw [← hW2]; exact C4.alloc _
    have D6 : Blk W2 W1.heap.size 116 #[.int .i64 n, .int .i64 d] := by rw [← hW2]; exact Blk.new W1 _ _
    have hbC : Below w.heap.size w W2 := by rw [← hW2]; exact hbB.alloc hbB.size _
    rw [hW2]
    clear hW2 C2 C4 hbB a0 a1 a2 a3 p0 p1 p2
    obtain ⟨x0, x1, x2, x3⟩ := D6.two
    go_wp2_with (fail)
    refine (HG.out _).mono ?_
    rintro e w5 ⟨rfl, hb5⟩
    have E2 := D2.keep hb5 D2.lt
    have E4 := D4.keep hb5 D4.lt
    have E6 := D6.keep hb5 D6.lt
    have hbE := below_all hbC hb5
    have hz4 := E2.lt
    clear D2 D4 D6 hbC hb5 x0 x1 x2 x3
    obtain ⟨a0, a1, a2, a3⟩ := E2.two
    obtain ⟨p0, p1, p2, _, _, _⟩ := E4.three
    obtain ⟨x0, x1, x2, x3⟩ := E6.two
    cases b with
    | false =>
      go_wp2
      refine bodyPost_ret (v := .tuple #[.agg #[.int .i64 (sg false n), .int .i64 d], .bool true]) (by simp [results, Tryz.results80, go_sem, a0, a1, sg]) rfl ⟨rfl, ?_⟩
      exact below_far (below_far hbE (by omega) _ _) (by omega) _ _
    | true =>
      go_wp2
      refine bodyPost_ret (v := .tuple #[.agg #[.int .i64 (sg true n), .int .i64 d], .bool true]) (by simp [results, Tryz.results80, go_sem, a0, a1, sg]) rfl ⟨rfl, ?_⟩
      exact below_far (below_far (below_far hbE (by omega) _ _) (by omega) _ _) (by omega) _ _
end Go.Proofs.Tg.Fi
end
section
/- The program's sums and products of numbers with short parts. -/
namespace Go.Proofs.Tg.Fi
open Go.RowKit Go.Rq Go.Qn Go.Proofs.Tg
set_option maxHeartbeats 6400000
set_option maxRecDepth 100000
theorem rshort_q (q : Rat) (h : Sh q) (w : World) :
    Calls Tryz.prog 80 #[.string (qtx q)] w fun e w' => e = .returned (.tuple #[.agg #[.int .i64 q.num, .int .i64 (q.den : Nat)], .bool true]) ∧ Below w.heap.size w w' := by
  have := rshort_text (decide (q.num < 0)) q.num.natAbs q.den w (canon q) h.1 h.2
  have e : sg (decide (q.num < 0)) q.num.natAbs = q.num := sgq q
  rwa [e] at this
theorem below_two {w V : World} {g : Nat} {a' b' : Value} (h : Below w.heap.size w V) (hg : w.heap.size ≤ g) : Below w.heap.size w ((V.setCell ⟨g, 0, none⟩ a').setCell ⟨g, 1, none⟩ b') := below_far (below_far h hg _ _) hg _ _
theorem rtwo_q (p q : Rat) (hp : Sh p) (hq : Sh q) (w : World) :
    Calls Tryz.prog 66 #[.string (qtx p), .string (qtx q)] w fun e w' => e = .returned (.tuple #[.agg #[.int .i64 p.num, .int .i64 (p.den : Nat)], .agg #[.int .i64 q.num, .int .i64 (q.den : Nat)], .bool true]) ∧ Below w.heap.size w w' := by
  have H1 := Lib.hid (fun W => rshort_q p hp W)
  have H2 := Lib.hid (fun W => rshort_q q hq W)
  generalize qtx p = S at *
  generalize qtx q = T at *
  generalize p.num = a at *
  generalize p.den = b at *
  generalize q.num = c at *
  generalize q.den = d at *
  obtain ⟨W, hW⟩ : ∃ W, (w.alloc (.cells #[.int .i64 0, .int .i64 0] 116)).alloc (.cells #[.int .i64 0, .int .i64 0] 116) = W := ⟨_, rfl⟩
  have B4 : Blk W w.heap.size 116 #[.int .i64 0, .int .i64 0] := by rw [← hW]; exact (Blk.new _ _ _).alloc _
  have B5 : Blk W (w.heap.size + 1) 116 #[.int .i64 0, .int .i64 0] := by
    rw [← hW]; have := Blk.new (w.alloc (.cells #[.int .i64 0, .int .i64 0] 116)) 116 #[.int .i64 0, .int .i64 0]
    simpa using this
  have hbW : Below w.heap.size w W := by rw [← hW]; exact ((Below.refl _ _).alloc (Nat.le_refl _) _).alloc (by simp) _
  have HW := Lib.hid hW
  clear hW hp hq
  go_enter Tryz.func66, Tryz.ntmps66
  go_upto_region 1 with (fail)
  rw [HW.out]
  go_wp2_with (fail)
  refine (H1.out _).mono ?_
  rintro e w1 ⟨rfl, hb1⟩
  obtain ⟨W1, hW1⟩ : ∃ W1, w1.alloc (.cells #[.int .i64 a, .int .i64 b] 116) = W1 := ⟨_, rfl⟩
  have hb1' := below_all hbW hb1
  have C4 : Blk W1 w.heap.size 116 #[.int .i64 0, .int .i64 0] := by rw [← hW1]; exact (B4.keep hb1 B4.lt).alloc _
  have C5 : Blk W1 (w.heap.size + 1) 116 #[.int .i64 0, .int .i64 0] := by rw [← hW1]; exact (B5.keep hb1 B5.lt).alloc _
  have C7 : Blk W1 w1.heap.size 116 #[.int .i64 a, .int .i64 b] := by rw [← hW1]; exact Blk.new _ _ _
  have hbW1 : Below w.heap.size w W1 := by rw [← hW1]; exact hb1'.alloc hb1'.size _
  have hz5 : w.heap.size + 1 < w1.heap.size := by have := B5.lt; have := hb1.size; omega
  go_upto_region 4 with (fail)
  try rw [hW1]
  clear hW1 B4 B5 hb1 hb1' H1
  go_wp2_with (fail)
  refine (H2.out _).mono ?_
  rintro e w2 ⟨rfl, hb2⟩
  obtain ⟨W2, hW2⟩ : ∃ W2, w2.alloc (.cells #[.int .i64 c, .int .i64 d] 116) = W2 := ⟨_, rfl⟩
  have hb2' := below_all hbW1 hb2
  have D4 : Blk W2 w.heap.size 116 #[.int .i64 0, .int .i64 0] := by rw [← hW2]; exact (C4.keep hb2 C4.lt).alloc _
  have D5 : Blk W2 (w.heap.size + 1) 116 #[.int .i64 0, .int .i64 0] := by rw [← hW2]; exact (C5.keep hb2 C5.lt).alloc _
  have D7 : Blk W2 w1.heap.size 116 #[.int .i64 a, .int .i64 b] := by rw [← hW2]; exact (C7.keep hb2 C7.lt).alloc _
  have D9 : Blk W2 w2.heap.size 116 #[.int .i64 c, .int .i64 d] := by rw [← hW2]; exact Blk.new _ _ _
  have hbW2 : Below w.heap.size w W2 := by rw [← hW2]; exact hb2'.alloc hb2'.size _
  have hz7 : w1.heap.size < w2.heap.size := by have := C7.lt; have := hb2.size; omega
  go_upto_region 7 with (fail)
  try rw [hW2]
  clear hW2 C4 C5 C7 hb2 hb2' H2 hbW1
  obtain ⟨x0, x1, x2, x3⟩ := D4.two
  obtain ⟨y0, y1, y2, y3⟩ := D5.two
  obtain ⟨a0, a1, a2, a3⟩ := D7.two
  obtain ⟨b0, b1, b2, b3⟩ := D9.two
  have HD4 := Lib.hid D4
  have HD5 := Lib.hid D5
  have HBE := Lib.hid hbW2
  clear D4 D5 D7 D9 hbW2 hbW
  have n1 : (w.heap.size = w1.heap.size) = False := eq_false (by omega)
  have n2 : (w.heap.size = w2.heap.size) = False := eq_false (by omega)
  have n3 : (w.heap.size + 1 = w1.heap.size) = False := eq_false (by omega)
  have n4 : (w.heap.size + 1 = w2.heap.size) = False := eq_false (by omega)
  go_region
  all_goals
    try go_wp2
    refine bodyPost_ret (v := .tuple #[.agg #[.int .i64 a, .int .i64 (b : Nat)], .agg #[.int .i64 c, .int .i64 (d : Nat)], .bool true]) (by simp [results, Tryz.results66, go_sem, x0, x1, y0, y1]) rfl ⟨rfl, ?_⟩
    first
      | exact below_two (below_two (below_drewN HBE.out 1) (by omega)) (by omega)
      | exact below_drewN (below_two (below_two HBE.out (by omega)) (by omega)) 1
theorem sh_num {q : Rat} (h : Sh q) : -1000000000 < q.num ∧ q.num < 1000000000 := by have := h.1; omega
theorem mul_lt9 {a b : Int} (ha : -1000000000 < a ∧ a < 1000000000) (hb : -1000000000 < b ∧ b < 1000000000) : -1000000000000000000 < a * b ∧ a * b < 1000000000000000000 := by
  have h : (a * b).natAbs < 1000000000 * 1000000000 := by
    rw [Int.natAbs_mul]
    exact Nat.mul_lt_mul'' (by omega) (by omega)
  omega
/-- The sum. -/
theorem add_q (p q : Rat) (hp : Sh p) (hq : Sh q) (w : World) (ht : PT w) :
    Calls Tryz.prog 41 #[.string (qtx p), .string (qtx q)] w (RetTx (p + q) w) := by
  have H := Lib.hid (rtwo_q p q hp hq w)
  have a1 := sh_num hp
  have c1 := sh_num hq
  have b1 : -1000000000 < (p.den : Int) ∧ (p.den : Int) < 1000000000 := by have := hp.2; omega
  have d1 : -1000000000 < (q.den : Int) ∧ (q.den : Int) < 1000000000 := by have := hq.2; omega
  have m1 := mul_lt9 a1 d1
  have m2 := mul_lt9 c1 b1
  have m3 := mul_lt9 b1 d1
  have hpq : mkRat (p.num * (q.den : Int) + q.num * (p.den : Int)) (p.den * q.den) = p + q := (Rat.add_def' p q).symm
  have hne : p.den * q.den ≠ 0 := Nat.mul_ne_zero p.den_nz q.den_nz
  have hcast : (p.den : Int) * (q.den : Int) = ((p.den * q.den : Nat) : Int) := by simp
  have hl : p.den * q.den < 9000000000000000000 := by omega
  rw [hcast] at m3
  have HF := Lib.hid (fun V (h : PT V) => fshort_any (p.num * (q.den : Int) + q.num * (p.den : Int)) (p.den * q.den) V (by omega) hl hne h)
  rw [hpq, ← hcast] at HF
  rw [← hcast] at m3
  have HT := Lib.hid ht
  unfold RetTx at *
  generalize p + q = R at *
  generalize qtx p = S at *
  generalize qtx q = T at *
  generalize qtx R = U at *
  clear hpq hne hcast hl hp hq ht
  generalize (q.den : Int) = d at *
  generalize (p.den : Int) = b at *
  generalize q.num = c at *
  generalize p.num = a at *
  have w1 : IntKind.i64.wrap (a * d) = a * d := IntWalk.i64_in _ (by omega)
  have w2 : IntKind.i64.wrap (c * b) = c * b := IntWalk.i64_in _ (by omega)
  have w3 : IntKind.i64.wrap (b * d) = b * d := IntWalk.i64_in _ (by omega)
  have w4 : IntKind.i64.wrap (a * d + c * b) = a * d + c * b := IntWalk.i64_in _ (by omega)
  clear m1 m2 m3 a1 b1 c1 d1
  go_enter Tryz.func41, Tryz.ntmps41
  go_wp2_with (fail)
  refine H.out.mono ?_
  rintro e w2 ⟨rfl, hb2⟩
  have HTT := Lib.hid (fun V (h : Below w2.heap.size w2 V) => (HT.out.keep hb2).keep h)
  go_wp2_with (fail)
  refine (HF.out _ (HTT.out _ (((Below.refl _ _).alloc (Nat.le_refl _) _).alloc (by simp) _))).mono ?_
  rintro e w3 ⟨rfl, hb3⟩
  go_wp2
  go_ret
  exact ⟨rfl, (hb2.trans ((((Below.refl w2.heap.size w2).alloc (Nat.le_refl _) _).alloc (by simp) _).mono hb2.size)).trans (hb3.mono (by have := hb2.size; simp; omega))⟩
/-- The product. -/
theorem mul_q (p q : Rat) (hp : Sh p) (hq : Sh q) (w : World) (ht : PT w) :
    Calls Tryz.prog 40 #[.string (qtx p), .string (qtx q)] w (RetTx (p * q) w) := by
  have H := Lib.hid (rtwo_q p q hp hq w)
  have a1 := sh_num hp
  have c1 := sh_num hq
  have b1 : -1000000000 < (p.den : Int) ∧ (p.den : Int) < 1000000000 := by have := hp.2; omega
  have d1 : -1000000000 < (q.den : Int) ∧ (q.den : Int) < 1000000000 := by have := hq.2; omega
  have m1 := mul_lt9 a1 c1
  have m3 := mul_lt9 b1 d1
  have hpq : mkRat (p.num * q.num) (p.den * q.den) = p * q := (Rat.mul_def' p q).symm
  have hne : p.den * q.den ≠ 0 := Nat.mul_ne_zero p.den_nz q.den_nz
  have hcast : (p.den : Int) * (q.den : Int) = ((p.den * q.den : Nat) : Int) := by simp
  have hl : p.den * q.den < 9000000000000000000 := by omega
  rw [hcast] at m3
  have HF := Lib.hid (fun V (h : PT V) => fshort_any (p.num * q.num) (p.den * q.den) V (by omega) hl hne h)
  rw [hpq, ← hcast] at HF
  rw [← hcast] at m3
  have HT := Lib.hid ht
  unfold RetTx at *
  generalize p * q = R at *
  generalize qtx p = S at *
  generalize qtx q = T at *
  generalize qtx R = U at *
  clear hpq hne hcast hl hp hq ht
  generalize (q.den : Int) = d at *
  generalize (p.den : Int) = b at *
  generalize q.num = c at *
  generalize p.num = a at *
  have w1 : IntKind.i64.wrap (a * c) = a * c := IntWalk.i64_in _ (by omega)
  have w3 : IntKind.i64.wrap (b * d) = b * d := IntWalk.i64_in _ (by omega)
  clear m1 m3 a1 b1 c1 d1
  go_enter Tryz.func40, Tryz.ntmps40
  go_wp2_with (fail)
  refine H.out.mono ?_
  rintro e w2 ⟨rfl, hb2⟩
  have HTT := Lib.hid (fun V (h : Below w2.heap.size w2 V) => (HT.out.keep hb2).keep h)
  go_wp2_with (fail)
  refine (HF.out _ (HTT.out _ (((Below.refl _ _).alloc (Nat.le_refl _) _).alloc (by simp) _))).mono ?_
  rintro e w3 ⟨rfl, hb3⟩
  go_wp2
  go_ret
  exact ⟨rfl, (hb2.trans ((((Below.refl w2.heap.size w2).alloc (Nat.le_refl _) _).alloc (by simp) _).mono hb2.size)).trans (hb3.mono (by have := hb2.size; simp; omega))⟩
theorem valid_q (q : Rat) (h : Sh q) (w : World) : Calls Tryz.prog 48 #[.string (qtx q)] w fun e w' => e = .returned (.bool true) ∧ Below w.heap.size w w' := by
  have H := Lib.hid (fun W => rshort_q q h W)
  generalize qtx q = S at *
  generalize q.num = a at *
  generalize q.den = b at *
  clear h
  go_enter Tryz.func48, Tryz.ntmps48
  go_wp2_with (fail)
  refine (H.out _).mono ?_
  rintro e w1 ⟨rfl, hb1⟩
  go_wp2
  go_ret
  exact ⟨rfl, hb1.alloc hb1.size _⟩
end Go.Proofs.Tg.Fi
end
section
/- The law's points with weights: drawn from the tape. -/
namespace Go.Proofs.Tg
open Go.RowKit Go.Gr Go.Bn Go.Rq
set_option maxHeartbeats 8000000
set_option maxRecDepth 100000
/-- A row of rows of rational numbers. -/
structure PRow2 where
  A : Option Addr
  c : Nat
  rs : List RVal
def PRow2.cell (p : PRow2) : Value := .slice p.A p.rs.length p.c
structure OwnP (base : Nat) (w : World) (X : Option Addr) (c : Nat) (ps : List PRow2) : Prop where
  own : w.ownsRow base 27 1 (.slice X ps.length c) ps.length (ps.map PRow2.cell)
  rows : ∀ p ∈ ps, OwnQ base w p.A p.c p.rs
theorem OwnP.nil (base : Nat) (w : World) : OwnP base w none 0 [] := ⟨World.ownsRow_nil _ _ _ _, fun r h => absurd h (by simp)⟩
theorem OwnP.keep {base : Nat} {w w' : World} {A : Option Addr} {c : Nat} {ps : List PRow2} (h : OwnP base w A c ps) (hb : Below w.heap.size w w') : OwnP base w' A c ps :=
  ⟨own_below h.own hb (Nat.le_refl _), fun r hr => (h.rows r hr).keep hb⟩
theorem OwnP.tk {base g : Nat} {w w' : World} {A : Option Addr} {c : Nat} {ps : List PRow2} {t : TypeId} {cs : Array Value} (h : OwnP base w A c ps) (hg : Tk g w w') (hb : g < base) (B : Blk w g t cs) (hne : t ≠ 137) : OwnP base w' A c ps :=
  ⟨own_tk h.own hg hb, fun r hr => (h.rows r hr).tk hg hb B hne⟩
theorem OwnP.push {base : Nat} {w w' : World} {X : Option Addr} {c : Nat} {ps : List PRow2} {p : PRow2} {X' : Option Addr} {c' : Nat} (h : OwnP base w X c ps) (hr : OwnQ base w p.A p.c p.rs) (hg : w.grownBy w' (Value.slice X ps.length c).ownBlock)
    (h' : w'.ownsRow base 27 1 (.slice X' (ps.length + 1) c') (ps.length + 1) (ps.map PRow2.cell ++ [p.cell])) : OwnP base w' X' c' (ps ++ [p]) := by
  refine ⟨?_, fun x hx => ?_⟩
  · rw [List.length_append, List.map_append]
    simpa using h'
  · rcases List.mem_append.1 hx with hx | hx
    · exact (h.rows x hx).other h.own hg (by decide) (by decide)
    · rw [List.mem_singleton.1 hx]; exact hr.other h.own hg (by decide) (by decide)
theorem OwnP.other {base b sz n : Nat} {w w' : World} {A : Option Addr} {c : Nat} {ps : List PRow2} {ys : List Value} {v : Value} (h : OwnP base w A c ps) (ho : w.ownsRow b 52 sz v n ys) (hg : w.grownBy w' v.ownBlock) (hr : ∀ p ∈ ps, OwnQ base w' p.A p.c p.rs) : OwnP base w' A c ps :=
  ⟨h.own.kept hg (own_ne h.own ho (by decide)), hr⟩
/-- Two rows of one type that lie in different blocks. -/
theorem OwnQ.apart {base : Nat} {w w' : World} {A : Option Addr} {c : Nat} {rs : List RVal} {b sz n : Nat} {ys : List Value} {v : Value} (h : OwnQ base w A c rs) (ho : w.ownsRow b 52 sz v n ys) (hg : w.grownBy w' v.ownBlock) (hne : (Value.slice A rs.length c).ownBlock = none ∨ (Value.slice A rs.length c).ownBlock ≠ v.ownBlock) : OwnQ base w' A c rs :=
  ⟨h.own.kept hg hne, fun r hr => (h.ok r hr).grown ho hg (by decide)⟩
/-- A coordinate: an integer from -2 to 2. -/
def Coord (r : RVal) : Prop := ∃ z : Int, z.natAbs ≤ 2 ∧ r.q = (z : Rat)
def Weight (r : RVal) : Prop := ∃ (n : Int) (d : Nat), 1 ≤ n ∧ n ≤ 9 ∧ 1 ≤ d ∧ d ≤ 4 ∧ r.q = mkRat n d
/-- What has been drawn when k points are still to be drawn. -/
structure PtSt (w : World) (g vars m : Nat) (wr : World) (k : Nat) (X : Option Addr) (cx : Nat) (ps : List PRow2) (Y : Option Addr) (cy : Nat) (ws : List RVal) : Prop where
  xs : OwnP w.heap.size wr X cx ps
  ys : OwnQ w.heap.size wr Y cy ws
  tape : TapeAt wr g
  tk : Tk g w wr
  len : ps.length + k = m
  lenw : ws.length = ps.length
  dim : ∀ p ∈ ps, p.rs.length = vars ∧ ∀ r ∈ p.rs, Coord r
  wt : ∀ r ∈ ws, Weight r
  far : ∀ p ∈ ps, (Value.slice p.A p.rs.length p.c).ownBlock = none ∨ (Value.slice p.A p.rs.length p.c).ownBlock ≠ (Value.slice Y ws.length cy).ownBlock
/-- Inside: the point that is being drawn. -/
structure PtIn (w0 : World) (g : Nat) (wr : World) (P : Option Addr) (cp : Nat) (rs : List RVal) : Prop where
  row : OwnQ w0.heap.size wr P cp rs
  tape : TapeAt wr g
  tk : Tk g w0 wr
  co : ∀ r ∈ rs, Coord r
def RetPts (vars : Nat) (g : Nat) (w : World) (e : Ending) (w' : World) : Prop :=
  ∃ X cx ps Y cy ws, e = .returned (.tuple #[.slice X (List.length ps) cx, .slice Y (List.length ws) cy]) ∧ 1 ≤ ps.length ∧ ps.length ≤ 4 ∧ PtSt w g vars ps.length w' 0 X cx ps Y cy ws
theorem points_any (g vars : Nat) (w : World) (hT : TapeAt w g) (hv : vars ≤ 10) :
    Calls Tryz.prog 17 #[.pointer (some ⟨g, 0, none⟩), .int .i64 (vars : Nat)] w (RetPts vars g w) := by
  have HN : Hid (Calls Tryz.prog 16 #[.pointer (some ⟨g, 0, none⟩), .int .i64 4] w (RetT g (fun v _ => ∃ j : Nat, j < 4 ∧ v = .int .i64 (j : Nat)) w)) := Lib.hid (next_any g 4 w hT (by omega) (by omega))
  have HWH : Hid (∀ V, TapeAt V g → Calls Tryz.prog 44 #[.pointer (some ⟨g, 0, none⟩), .int .i64 2] V (RetT g (fun v w' => ∃ z : Int, z.natAbs ≤ 2 ∧ QAt w' v (z : Rat)) V)) := Lib.hid (fun V h => whole_any g 2 V h (by omega))
  have HPO : Hid (∀ V, TapeAt V g → Calls Tryz.prog 45 #[.pointer (some ⟨g, 0, none⟩)] V (RetT g (fun v w' => ∃ (n : Int) (d : Nat), 1 ≤ n ∧ n ≤ 9 ∧ 1 ≤ d ∧ d ≤ 4 ∧ QAt w' v (mkRat n d)) V)) := Lib.hid (fun V h => positive_any g V h)
  obtain ⟨i0, hi, hz0, hz1, hz2⟩ := info_parts rat_info
  obtain ⟨j0, hj, jz0, jz1, jz2⟩ := info_parts qrow_info
  have hg := hT.lt
  clear hT
  go_enter Tryz.func17, Tryz.ntmps17
  go_upto_region 3 with (fail)
  go_wp2_with (fail)
  refine HN.out.mono ?_
  rintro e w1 ⟨_, rfl, ⟨j, hj4, rfl⟩, hT1, ht1⟩
  obtain ⟨m, hm⟩ : ∃ m : Nat, 1 + j = m := ⟨_, rfl⟩
  have hmI : (1 : Int) + (j : Int) = (m : Int) := by omega
  have hm1 : 1 ≤ m := by omega
  have hm4 : m ≤ 4 := by omega
  have HFIN : Hid (PtSt w g vars m w1 m none 0 [] none 0 []) := Lib.hid ⟨OwnP.nil _ _, OwnQ.nil _ _, hT1, ht1, by simp, rfl, fun p h => absurd h (by simp), fun p h => absurd h (by simp), fun p h => absurd h (by simp)⟩
  clear hm hT1 ht1 HN
  go_wp2
  go_loopw [6, 7, 8] (fun s6 s7 s8 wr => ∃ (k : Nat) (X : Option Addr) (cx : Nat) (ps : List PRow2) (Y : Option Addr) (cy : Nat) (ws : List RVal), s6 = .slice X ps.length cx ∧ s7 = .slice Y ws.length cy ∧ s8 = .int .i64 (k : Nat) ∧ k ≤ m ∧ Hid (PtSt w g vars m wr k X cx ps Y cy ws)) (fun _ _ s8 _ => (intOf s8).toNat)
  case atStart => exact ⟨m, none, 0, [], none, 0, [], rfl, rfl, rfl, Nat.le_refl _, HFIN⟩
  case round =>
    clear HFIN
    obtain ⟨wo, rfl⟩ : ∃ wo : World, wo = wr := ⟨_, rfl⟩
    obtain ⟨k, X, cx, ps, Y, cy, ws, rfl, rfl, rfl, hk, HST⟩ := hrel
    by_cases hk0 : k = 0
    · subst hk0
      go_wp2
      go_ret2
      have hl := HST.out.len
      have hlw := HST.out.lenw
      refine ⟨X, cx, ps, Y, cy, ws, rfl, by omega, by omega, ?_⟩
      have h := HST.out
      have e : ps.length = m := by omega
      rw [e]; exact h
    · have hk1 : 0 < k := by omega
      have hd : decide ((0 : Int) < (k : Int)) = true := decide_eq_true (by omega)
      have hd' : decide (0 < k) = true := decide_eq_true (by omega)
      have HIN : Hid (PtIn wo g wo none 0 []) := Lib.hid ⟨OwnQ.nil _ _, HST.out.tape, Tk.refl _ _, fun p h => absurd h (by simp)⟩
      clear hk0
      go_wp2
      go_loopw [9, 10] (fun s9 s10 wr => ∃ (P : Option Addr) (cp : Nat) (rs : List RVal), s9 = .slice P rs.length cp ∧ s10 = .int .i64 (rs.length : Nat) ∧ rs.length ≤ vars ∧ Hid (PtIn wo g wr P cp rs)) (fun _ s10 _ => vars - (intOf s10).toNat)
      case atStart => exact ⟨none, 0, [], rfl, rfl, Nat.zero_le _, HIN⟩
      case round =>
        clear HIN
        obtain ⟨wi, rfl⟩ : ∃ wi : World, wi = wr := ⟨_, rfl⟩
        obtain ⟨P, cp, rs, rfl, rfl, hrl, HPI⟩ := hrel
        obtain ⟨n, hn⟩ : ∃ n, rs.length = n := ⟨_, rfl⟩
        by_cases hlt : n < vars
        · have hd2 : decide ((n : Int) < (vars : Int)) = true := decide_eq_true (by omega)
          have HNN := Lib.hid hn
          rw [hn] at hrl ⊢
          clear hn
          have HW2 := Lib.hid (HWH.out wi HPI.out.tape)
          obtain ⟨cs1, BT⟩ := HPI.out.tape.blk
          have HBT := Lib.hid BT
          clear BT
          go_wp2_with (fail)
          refine HW2.out.mono ?_
          rintro e w2 ⟨_, rfl, ⟨z, hz, hQ⟩, hT2, ht2⟩
          obtain ⟨r, hrq, rfl, hok⟩ := hQ.rval
          have hgw : g < wo.heap.size := Nat.lt_of_lt_of_le hg (by have := HST.out.tk.size; exact this)
          have hrow := HPI.out.row.tk ht2 hgw HBT.out (by decide)
          have htk2 := HPI.out.tk.trans ht2
          have HOK := Lib.hid hok
          have HC : Hid (Coord r) := Lib.hid ⟨z, hz, hrq⟩
          have hown := hrow.own
          rw [HNN.out] at hown
          have hsz := htk2.size
          have HROW := Lib.hid hrow
          have HTK := Lib.hid htk2
          have HT2 := Lib.hid hT2
          have HNW := Lib.hid (cells_new w2 52 r.cells)
          clear hQ hrq hz hok hrow ht2 htk2 hT2 HW2
          unfold RVal.cells at HNW
          unfold RVal.val
          generalize hs1 : decide (r.q.num < 0) = s1 at *
          generalize hn1 : (dg r.q.num.natAbs).length = n1 at *
          generalize hn2 : (dg (dnz r.q.den)).length = n2 at *
          have HCE : Hid (r.cells = [.bool s1, .slice r.N n1 r.cn, .bool false, .slice r.D n2 r.cd]) := Lib.hid (by unfold RVal.cells; rw [hs1, hn1, hn2])
          clear hs1 hn1 hn2
          generalize r.N = rN at *
          generalize r.D = rD at *
          generalize r.cn = rcn at *
          generalize r.cd = rcd at *
          go_wp2_with (first
            | (at_builtin; refine wpList_append_own_at _ rfl _ _ 27 rfl wo.heap.size 52 i0 _ 4 64 Tryz.underlying27 hi hz0 hz1 hz2 rfl (by decide) (.slice P n cp) n _ rfl (hown.alloc _) ⟨w2.heap.size, 0, none⟩ 1 1 [.bool s1, .slice rN n1 rcn, .bool false, .slice rD n2 rcd] rfl rfl ?c1 ?c2 ?c3 ?c4 ?c5 ?_
               case c1 => exact HNW.out
               case c2 => simp [Value.oneCell']
               case c3 => simp only [maxLen]; omega
               case c4 => omega
               case c5 => simp; omega
               intro v' w5 hown' hgrow _ _))
          obtain ⟨A2, cs2, hv2, _, _⟩ := Sl.of_own hown'
          subst hv2
          have hal := Below.alloc (Below.refl w2.heap.size w2) (Nat.le_refl _) (.cells #[.bool s1, .slice rN n1 rcn, .bool false, .slice rD n2 rcd] 52)
          have hrowA := HROW.out.keep hal
          have hokA := HOK.out.keep hal
          have hownA := hown.alloc (.cells #[.bool s1, .slice rN n1 rcn, .bool false, .slice rD n2 rcd] 52)
          go_roundw
          case rel =>
            refine ⟨A2, cs2, rs ++ [r], by rw [List.length_append, HNN.out]; rfl, by rw [List.length_append, HNN.out]; go_num, by rw [List.length_append, HNN.out]; simp; omega, Lib.hid ⟨?_, ?_, ?_, ?_⟩⟩
            · refine OwnQ.push hrowA hokA (by rw [HNN.out]; exact hgrow) ?_
              rw [HNN.out, HCE.out]; exact hown'
            · exact (HT2.out.keep hal).grown hownA hgw hgrow
            · exact (HTK.out.then hal).grown hownA (Nat.le_refl _) hgrow
            · intro x hx
              rcases List.mem_append.1 hx with hx | hx
              · exact HPI.out.co x hx
              · rw [List.mem_singleton.1 hx]; exact HC.out
          case measure => simp [intOf]; omega
        · have hd2 : decide ((n : Int) < (vars : Int)) = false := decide_eq_false (by omega)
          have hd2' : decide (n < vars) = false := decide_eq_false (by omega)
          have hnv : n = vars := by omega
          have HNN := Lib.hid hn
          have HNV := Lib.hid hnv
          rw [hn] at hrl ⊢
          clear hn hnv hlt
          have hpl : ps.length ≤ 4 := by have := HST.out.len; omega
          have hwl : ws.length ≤ 4 := by have := HST.out.lenw; omega
          have hgw : g < wo.heap.size := Nat.lt_of_lt_of_le hg (by have := HST.out.tk.size; exact this)
          obtain ⟨cs1, BT⟩ := HST.out.tape.blk
          have hX := HST.out.xs.tk HPI.out.tk hg BT (by decide)
          have hY := HST.out.ys.tk HPI.out.tk hg BT (by decide)
          have hsz0 : w.heap.size ≤ wo.heap.size := HST.out.tk.size
          have hszi : wo.heap.size ≤ wi.heap.size := HPI.out.tk.size
          have HX := Lib.hid hX
          have HY := Lib.hid hY
          have hownX := hX.own
          obtain ⟨np, hnp⟩ : ∃ x, ps.length = x := ⟨_, rfl⟩
          obtain ⟨nw, hnw⟩ : ∃ x, ws.length = x := ⟨_, rfl⟩
          rw [hnp] at hownX hpl ⊢
          rw [hnw] at hwl ⊢
          have HNP := Lib.hid hnp
          have HNW := Lib.hid hnw
          clear hX hY BT hnp hnw
          go_wp2_with (first
            | (at_builtin; refine wpList_append_own_at _ rfl _ _ 45 rfl w.heap.size 27 j0 _ 1 24 Tryz.underlying45 hj jz0 jz1 jz2 rfl (by decide) (.slice X np cx) np _ rfl (hownX.alloc _) ⟨wi.heap.size, 0, none⟩ 1 1 [.slice P n cp] rfl rfl ?c1 ?c2 ?c3 ?c4 ?c5 ?_
               case c1 => exact cell_one_new _ _ _
               case c2 => simp [Value.oneCell']
               case c3 => simp only [maxLen]; omega
               case c4 => omega
               case c5 => simp; omega
               intro v' w5 hown' hgrow _ _))
          obtain ⟨X2, cx2, hv2, _, _⟩ := Sl.of_own hown'
          subst hv2
          have hal := Below.alloc (Below.refl wi.heap.size wi) (Nat.le_refl _) (.cells #[.slice P n cp] 27)
          have hownXA := hownX.alloc (.cells #[.slice P n cp] 27)
          have HP5 : Hid (OwnP w.heap.size w5 X2 cx2 (ps ++ [⟨P, cp, rs⟩])) := Lib.hid (by
            refine OwnP.push (HX.out.keep hal) ((HPI.out.row.mono hsz0).keep hal) (by rw [HNP.out]; exact hgrow) ?_
            rw [HNP.out]
            have e : PRow2.cell ⟨P, cp, rs⟩ = .slice P n cp := by unfold PRow2.cell; rw [HNN.out]
            rw [e]; exact hown')
          have HY5 : Hid (OwnQ w.heap.size w5 Y cy ws) := Lib.hid ((HY.out.keep hal).other hownXA hgrow (by decide) (by decide))
          have HT5 : Hid (TapeAt w5 g) := Lib.hid ((HPI.out.tape.keep hal).grown hownXA hg hgrow)
          have HK5 : Hid (Tk g w w5) := Lib.hid (((HST.out.tk.trans HPI.out.tk).then hal).grown hownXA (Nat.le_refl _) hgrow)
          have hsz5 : wi.heap.size ≤ w5.heap.size := by have := hgrow.size; simp at this; omega
          have HPB : Hid ((Value.slice P rs.length cp).ownBlock = none ∨ (Value.slice P rs.length cp).ownBlock ≠ (Value.slice Y ws.length cy).ownBlock) := Lib.hid (by
            cases hP : (Value.slice P rs.length cp).ownBlock with
            | none => exact .inl rfl
            | some b =>
              refine .inr (fun e => ?_)
              have h1 := (HPI.out.row.own.lt b hP).1
              have h2 := (HST.out.ys.own.lt b e.symm).2
              omega)
          clear hownXA hown' hgrow hal hownX
          have HPP := Lib.hid (HPO.out w5 HT5.out)
          refine HPP.out.mono ?_
          rintro e w6 ⟨_, rfl, ⟨zn, zd, z1, z2, z3, z4, hQ⟩, hT6, ht6⟩
          obtain ⟨r, hrq, rfl, hok⟩ := hQ.rval
          obtain ⟨cs5, BT5⟩ := HT5.out.blk
          have HP6 := Lib.hid (HP5.out.tk ht6 hg BT5 (by decide))
          have HY6 := Lib.hid (HY5.out.tk ht6 hg BT5 (by decide))
          have hk6 := HK5.out.trans ht6
          have hsz6 := hk6.size
          have HK6 := Lib.hid hk6
          have HT6 := Lib.hid hT6
          have HOK := Lib.hid hok
          have HWT : Hid (Weight r) := Lib.hid ⟨zn, zd, z1, z2, z3, z4, hrq⟩
          have hownY := HY6.out.own
          rw [HNW.out] at hownY
          have HNC := Lib.hid (cells_new w6 52 r.cells)
          clear hQ hrq z1 z2 z3 z4 hok ht6 hT6 HPP BT5 hk6
          unfold RVal.cells at HNC
          unfold RVal.val
          generalize hs1 : decide (r.q.num < 0) = s1 at *
          generalize hn1 : (dg r.q.num.natAbs).length = n1 at *
          generalize hn2 : (dg (dnz r.q.den)).length = n2 at *
          have HCE : Hid (r.cells = [.bool s1, .slice r.N n1 r.cn, .bool false, .slice r.D n2 r.cd]) := Lib.hid (by unfold RVal.cells; rw [hs1, hn1, hn2])
          clear hs1 hn1 hn2
          generalize r.N = rN at *
          generalize r.D = rD at *
          generalize r.cn = rcn at *
          generalize r.cd = rcd at *
          go_wp2_with (first
            | (at_builtin; refine wpList_append_own_at _ rfl _ _ 27 rfl w.heap.size 52 i0 _ 4 64 Tryz.underlying27 hi hz0 hz1 hz2 rfl (by decide) (.slice Y nw cy) nw _ rfl (hownY.alloc _) ⟨w6.heap.size, 0, none⟩ 1 1 [.bool s1, .slice rN n1 rcn, .bool false, .slice rD n2 rcd] rfl rfl ?c1 ?c2 ?c3 ?c4 ?c5 ?_
               case c1 => exact HNC.out
               case c2 => simp [Value.oneCell']
               case c3 => simp only [maxLen]; omega
               case c4 => omega
               case c5 => simp; omega
               intro v' w7 hown' hgrow _ hat))
          obtain ⟨Y2, cy2, hv2, _, _⟩ := Sl.of_own hown'
          subst hv2
          have hal := Below.alloc (Below.refl w6.heap.size w6) (Nat.le_refl _) (.cells #[.bool s1, .slice rN n1 rcn, .bool false, .slice rD n2 rcd] 52)
          have hownYA := hownY.alloc (.cells #[.bool s1, .slice rN n1 rcn, .bool false, .slice rD n2 rcd] 52)
          have HFAR : Hid (∀ p ∈ ps ++ [⟨P, cp, rs⟩], (Value.slice p.A p.rs.length p.c).ownBlock = none ∨ (Value.slice p.A p.rs.length p.c).ownBlock ≠ (Value.slice Y nw cy).ownBlock) := Lib.hid (fun p hp => by
            rcases List.mem_append.1 hp with hp | hp
            · have := HST.out.far p hp; rwa [HNW.out] at this
            · rw [List.mem_singleton.1 hp]; have := HPB.out; rwa [HNW.out] at this)
          have wk : IntKind.i64.wrap ((k : Int) - 1) = ((k - 1 : Nat) : Int) := by
            rw [show ((k - 1 : Nat) : Int) = (k : Int) - 1 by omega]
            exact IntWalk.i64_in _ (by omega)
          go_roundw
          case rel =>
            refine ⟨k - 1, X2, cx2, ps ++ [⟨P, cp, rs⟩], Y2, cy2, ws ++ [r], by rw [List.length_append, HNP.out]; rfl, by rw [List.length_append, HNW.out]; rfl, by go_num, by omega, Lib.hid ⟨?_, ?_, ?_, ?_, ?_, ?_, ?_, ?_, ?_⟩⟩
            · exact (HP6.out.keep hal).other hownYA hgrow (fun p hp => ((HP6.out.keep hal).rows p hp).apart hownYA hgrow (HFAR.out p hp))
            · refine OwnQ.push (HY6.out.keep hal) (HOK.out.keep hal) (by rw [HNW.out]; exact hgrow) ?_
              rw [HNW.out, HCE.out]; exact hown'
            · exact (HT6.out.keep hal).grown hownYA hg hgrow
            · exact (HK6.out.then hal).grown hownYA (Nat.le_refl _) hgrow
            · have := HST.out.len; simp; omega
            · have := HST.out.lenw; simp; omega
            · intro p hp
              rcases List.mem_append.1 hp with hp | hp
              · exact HST.out.dim p hp
              · rw [List.mem_singleton.1 hp]; exact ⟨HNN.out.trans HNV.out, HPI.out.co⟩
            · intro x hx
              rcases List.mem_append.1 hx with hx | hx
              · exact HST.out.wt x hx
              · rw [List.mem_singleton.1 hx]; exact HWT.out
            · intro p hp
              rw [List.length_append, HNW.out]
              rcases HFAR.out p hp with h | h
              · exact .inl h
              · cases hP : (Value.slice p.A p.rs.length p.c).ownBlock with
                | none => exact .inl rfl
                | some b =>
                  refine .inr (fun e => ?_)
                  rcases hat with h1 | h1
                  · rw [hP] at h; exact h (e.trans h1)
                  · have h2 := ((HP6.out.keep hal).rows p hp).own.lt b hP
                    have h3 := e.trans h1
                    injection h3 with h3
                    omega
          case measure => simp [intOf]; omega
end Go.Proofs.Tg
end
