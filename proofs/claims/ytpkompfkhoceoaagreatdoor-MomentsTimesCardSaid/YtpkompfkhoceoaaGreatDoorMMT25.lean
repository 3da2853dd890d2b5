/- Parts of the proof: WN2, FI4, FI5, TX1, TX2. -/
import Derived.Deep.RegionHeld3
import Derived.Test.YtpkompfkhoceoaaGreatDoorMMT23
import Derived.Test.YtpkompfkhoceoaaGreatDoorMMT24
section
/- Short numbers of the program: reading. -/
namespace Go.Proofs.Tg
open Go.RowKit Go.Qn
set_option maxHeartbeats 4000000
set_option maxRecDepth 100000
def sg (b : Bool) (n : Nat) : Int := if b = true then -(n : Int) else n
end Go.Proofs.Tg
end
section
/- The program's numbers with short parts: reading a canonical text. -/
namespace Go.Proofs.Tg.Fi
open Go.RowKit Go.Rq Go.Qn Go.Proofs.Tg
set_option maxHeartbeats 6400000
set_option maxRecDepth 100000
theorem rshort_text (b : Bool) (n d : Nat) (w : World) (hc : Canon b n d) (hn : n < 1000000000) (hd : d < 1000000000) :
    Calls Tryz.prog 80 #[.string (bs (text b n d))] w fun e w' => e = .returned (.tuple #[.agg #[.int .i64 (sg b n), .int .i64 (d : Nat)], .bool true]) ∧ Below w.heap.size w w' := by
  have hsz := text_len (b := b) hn hd
  have HSP := Lib.hid (fun W => split_text b n d W hc (by omega))
  unfold RetSplit3 at HSP
  have hg := hc.2.1
  have hnl := dec_nine hn
  have hdl := dec_nine hd
  obtain ⟨s, hs⟩ : ∃ s, bs (text b n d) = s := ⟨_, rfl⟩
  have hss : s.size ≤ 20 := by rw [← hs, bs_size]; exact hsz
  rw [hs] at HSP ⊢
  have hd20 : decide ((20 : Int) < (s.size : Int)) = false := decide_eq_false (by omega)
  obtain ⟨W0, hW0⟩ : ∃ W0, w.alloc (.cells #[.int .i64 0, .int .i64 0] 116) = W0 := ⟨_, rfl⟩
  have B2 : Blk W0 w.heap.size 116 #[.int .i64 0, .int .i64 0] := by rw [← hW0]; exact Blk.new _ _ _
  have hbA : Below w.heap.size w W0 := by rw [← hW0]; exact (Below.refl _ _).alloc (Nat.le_refl _) _
  have HW0 := Lib.hid hW0
  obtain ⟨num, hnum⟩ : ∃ l, Lib.decDigits n = l := ⟨_, rfl⟩
  have HD := Lib.hid (fun W => dval_any (bs num) W (by rw [bs_size, ← hnum]; omega) (by rw [bs_data, ← hnum]; exact dec_allD n))
  rw [bs_data] at HD
  rw [show Qn.val num = n from by rw [← hnum]; exact val_dec n] at HD
  rw [hnum] at hnl HSP
  clear hW0 hs hsz hc hnum
  by_cases h1 : d = 1
  · subst h1
    rw [if_pos rfl] at HSP
    clear hg
    go_enter Tryz.func80, Tryz.ntmps80
    go_upto_region 1 with (fail)
    rw [HW0.out]
    go_wp2_with (fail)
    refine (HSP.out W0).mono ?_
    rintro e w1 ⟨rfl, hb1⟩
    go_upto_region 4 with (fail)
    obtain ⟨W1, hW1⟩ : ∃ W1, w1.alloc (.cells #[.bool b, .string (bs num), .string (bs [])] 142) = W1 := ⟨_, rfl⟩
    have C2 : Blk W1 w.heap.size 116 #[.int .i64 0, .int .i64 0] := by rw [← hW1]; exact (B2.keep hb1 B2.lt).alloc _
    have C4 : Blk W1 w1.heap.size 142 #[.bool b, .string (bs num), .string (bs [])] := by rw [← hW1]; exact Blk.new _ _ _
    have hbB : Below w.heap.size w W1 := by rw [← hW1]; have := below_all hbA hb1; exact this.alloc this.size _
    have hz1 : w.heap.size < w1.heap.size := by have := B2.lt; have := hb1.size; omega
    rw [hW1]
    clear hW1 B2 hb1 hbA
    obtain ⟨a0, a1, a2, a3⟩ := C2.two
    obtain ⟨p0, p1, p2, _, _, _⟩ := C4.three
    have hz2 := C4.lt
    have hz3 := C2.lt
    have l1 : decide ((9 : Int) < ((bs num).size : Int)) = false := by rw [bs_size]; exact decide_eq_false (by omega)
    have l2 : decide ((9 : Int) < ((bs []).size : Int)) = false := by rw [bs_size]; exact decide_eq_false (by simp)
    have hbe : (bs []).toList.isEmpty = true := by rw [bs_toList]; rfl
    have hbe' : (bs []).toList = [] := by rw [bs_toList]
    go_upto_region 7 with (go_at_call 116; refine (HD.out _).mono ?_; rintro e w' ⟨rfl, rfl⟩)
    obtain ⟨W2, hW2⟩ : ∃ W2, W1.alloc (.cells #[.int .i64 n, .int .i64 1] 116) = W2 := ⟨_, rfl⟩
    have D2 : Blk W2 w.heap.size 116 #[.int .i64 0, .int .i64 0] := by rw [← hW2]; exact C2.alloc _
    have D4 : Blk W2 w1.heap.size 142 #[.bool b, .string (bs num), .string (bs [])] := by rw [← hW2]; exact C4.alloc _
    have D6 : Blk W2 W1.heap.size 116 #[.int .i64 n, .int .i64 1] := by rw [← hW2]; exact Blk.new W1 _ _
    have hbC : Below w.heap.size w W2 := by rw [← hW2]; exact hbB.alloc hbB.size _
    rw [hW2]
    have hz4 := D2.lt
    clear hW2 C2 C4 hbB a0 a1 a2 a3 p0 p1 p2
    obtain ⟨a0, a1, a2, a3⟩ := D2.two
    obtain ⟨p0, p1, p2, _, _, _⟩ := D4.three
    obtain ⟨x0, x1, x2, x3⟩ := D6.two
    cases b with
    | false =>
      go_wp2
      refine bodyPost_ret (v := .tuple #[.agg #[.int .i64 (sg false n), .int .i64 (1 : Nat)], .bool true]) (by simp [results, Tryz.results80, go_sem, a0, a1, sg]) rfl ⟨rfl, ?_⟩
      exact below_far (below_far hbC (by omega) _ _) (by omega) _ _
    | true =>
      go_wp2
      refine bodyPost_ret (v := .tuple #[.agg #[.int .i64 (sg true n), .int .i64 (1 : Nat)], .bool true]) (by simp [results, Tryz.results80, go_sem, a0, a1, sg]) rfl ⟨rfl, ?_⟩
      exact below_far (below_far (below_far hbC (by omega) _ _) (by omega) _ _) (by omega) _ _
  · rw [if_neg h1] at HSP
    obtain ⟨den, hden⟩ : ∃ l, Lib.decDigits d = l := ⟨_, rfl⟩
    have HE := Lib.hid (fun W => dval_any (bs den) W (by rw [bs_size, ← hden]; omega) (by rw [bs_data, ← hden]; exact dec_allD d))
    rw [bs_data] at HE
    rw [show Qn.val den = d from by rw [← hden]; exact val_dec d] at HE
    have hdn : den ≠ [] := by rw [← hden]; exact dec_ne d
    rw [hden] at hdl HSP
    have HG := Lib.hid (fun W => sgcd_big n d W (by omega) (by omega))
    rw [hg] at HG
    have hbe : (bs den).toList.isEmpty = false := by rw [bs_toList]; cases den; exact absurd rfl hdn; rfl
    have hbe' : ¬ (bs den).toList = [] := by rw [bs_toList]; exact hdn
    clear hg hden hdn h1
    go_enter Tryz.func80, Tryz.ntmps80
    go_upto_region 1 with (fail)
    rw [HW0.out]
    go_wp2_with (fail)
    refine (HSP.out W0).mono ?_
    rintro e w1 ⟨rfl, hb1⟩
    go_upto_region 4 with (fail)
    obtain ⟨W1, hW1⟩ : ∃ W1, w1.alloc (.cells #[.bool b, .string (bs num), .string (bs den)] 142) = W1 := ⟨_, rfl⟩
    have C2 : Blk W1 w.heap.size 116 #[.int .i64 0, .int .i64 0] := by rw [← hW1]; exact (B2.keep hb1 B2.lt).alloc _
    have C4 : Blk W1 w1.heap.size 142 #[.bool b, .string (bs num), .string (bs den)] := by rw [← hW1]; exact Blk.new _ _ _
    have hbB : Below w.heap.size w W1 := by rw [← hW1]; have := below_all hbA hb1; exact this.alloc this.size _
    have hz1 : w.heap.size < w1.heap.size := by have := B2.lt; have := hb1.size; omega
    rw [hW1]
    clear hW1 B2 hb1 hbA
    obtain ⟨a0, a1, a2, a3⟩ := C2.two
    obtain ⟨p0, p1, p2, _, _, _⟩ := C4.three
    have hz2 := C4.lt
    have hz3 := C2.lt
    have l1 : decide ((9 : Int) < ((bs num).size : Int)) = false := by rw [bs_size]; exact decide_eq_false (by omega)
    have l2 : decide ((9 : Int) < ((bs den).size : Int)) = false := by rw [bs_size]; exact decide_eq_false (by omega)
    go_upto_region 9 with (first
      | (go_at_call 116; with_reducible refine Calls.mono (HD.out _) ?_; rintro e w' ⟨rfl, rfl⟩)
      | (go_at_call 116; with_reducible refine Calls.mono (HE.out _) ?_; rintro e w' ⟨rfl, rfl⟩))
    obtain ⟨W2, hW2⟩ : ∃ W2, W1.alloc (.cells #[.int .i64 n, .int .i64 d] 116) = W2 := ⟨_, rfl⟩
    have D2 : Blk W2 w.heap.size 116 #[.int .i64 0, .int .i64 0] := by rw [← hW2]; exact C2.alloc _
    have D4 : Blk W2 w1.heap.size 142 #[.bool b, .string (bs num), .string (bs den)] := by rw [← hW2]; exact C4.alloc _
    have D6 : Blk W2 W1.heap.size 116 #[.int .i64 n, .int .i64 d] := by rw [← hW2]; exact Blk.new W1 _ _
    have hbC : Below w.heap.size w W2 := by rw [← hW2]; exact hbB.alloc hbB.size _
    rw [hW2]
    clear hW2 C2 C4 hbB a0 a1 a2 a3 p0 p1 p2
    obtain ⟨x0, x1, x2, x3⟩ := D6.two
    go_wp2_with (fail)
    refine (HG.out _).mono ?_
    rintro e w5 ⟨rfl, hb5⟩
    have E2 := D2.keep hb5 D2.lt
    have E4 := D4.keep hb5 D4.lt
    have E6 := D6.keep hb5 D6.lt
    have hbE := below_all hbC hb5
    have hz4 := E2.lt
    clear D2 D4 D6 hbC hb5 x0 x1 x2 x3
    obtain ⟨a0, a1, a2, a3⟩ := E2.two
    obtain ⟨p0, p1, p2, _, _, _⟩ := E4.three
    obtain ⟨x0, x1, x2, x3⟩ := E6.two
    cases b with
    | false =>
      go_wp2
      refine bodyPost_ret (v := .tuple #[.agg #[.int .i64 (sg false n), .int .i64 d], .bool true]) (by simp [results, Tryz.results80, go_sem, a0, a1, sg]) rfl ⟨rfl, ?_⟩
      exact below_far (below_far hbE (by omega) _ _) (by omega) _ _
    | true =>
      go_wp2
      refine bodyPost_ret (v := .tuple #[.agg #[.int .i64 (sg true n), .int .i64 d], .bool true]) (by simp [results, Tryz.results80, go_sem, a0, a1, sg]) rfl ⟨rfl, ?_⟩
      exact below_far (below_far (below_far hbE (by omega) _ _) (by omega) _ _) (by omega) _ _
end Go.Proofs.Tg.Fi
end
section
/- The program's sums and products of numbers with short parts. -/
namespace Go.Proofs.Tg.Fi
open Go.RowKit Go.Rq Go.Qn Go.Proofs.Tg
set_option maxHeartbeats 6400000
set_option maxRecDepth 100000
theorem rshort_q (q : Rat) (h : Sh q) (w : World) :
    Calls Tryz.prog 80 #[.string (qtx q)] w fun e w' => e = .returned (.tuple #[.agg #[.int .i64 q.num, .int .i64 (q.den : Nat)], .bool true]) ∧ Below w.heap.size w w' := by
  have := rshort_text (decide (q.num < 0)) q.num.natAbs q.den w (canon q) h.1 h.2
  have e : sg (decide (q.num < 0)) q.num.natAbs = q.num := sgq q
  rwa [e] at this
theorem below_two {w V : World} {g : Nat} {a' b' : Value} (h : Below w.heap.size w V) (hg : w.heap.size ≤ g) : Below w.heap.size w ((V.setCell ⟨g, 0, none⟩ a').setCell ⟨g, 1, none⟩ b') := below_far (below_far h hg _ _) hg _ _
theorem rtwo_q (p q : Rat) (hp : Sh p) (hq : Sh q) (w : World) :
    Calls Tryz.prog 66 #[.string (qtx p), .string (qtx q)] w fun e w' => e = .returned (.tuple #[.agg #[.int .i64 p.num, .int .i64 (p.den : Nat)], .agg #[.int .i64 q.num, .int .i64 (q.den : Nat)], .bool true]) ∧ Below w.heap.size w w' := by
  have H1 := Lib.hid (fun W => rshort_q p hp W)
  have H2 := Lib.hid (fun W => rshort_q q hq W)
  generalize qtx p = S at *
  generalize qtx q = T at *
  generalize p.num = a at *
  generalize p.den = b at *
  generalize q.num = c at *
  generalize q.den = d at *
  obtain ⟨W, hW⟩ : ∃ W, (w.alloc (.cells #[.int .i64 0, .int .i64 0] 116)).alloc (.cells #[.int .i64 0, .int .i64 0] 116) = W := ⟨_, rfl⟩
  have B4 : Blk W w.heap.size 116 #[.int .i64 0, .int .i64 0] := by rw [← hW]; exact (Blk.new _ _ _).alloc _
  have B5 : Blk W (w.heap.size + 1) 116 #[.int .i64 0, .int .i64 0] := by
    rw [← hW]; have := Blk.new (w.alloc (.cells #[.int .i64 0, .int .i64 0] 116)) 116 #[.int .i64 0, .int .i64 0]
    simpa using this
  have hbW : Below w.heap.size w W := by rw [← hW]; exact ((Below.refl _ _).alloc (Nat.le_refl _) _).alloc (by simp) _
  have HW := Lib.hid hW
  clear hW hp hq
  go_enter Tryz.func66, Tryz.ntmps66
  go_upto_region 1 with (fail)
  rw [HW.out]
  go_wp2_with (fail)
  refine (H1.out _).mono ?_
  rintro e w1 ⟨rfl, hb1⟩
  obtain ⟨W1, hW1⟩ : ∃ W1, w1.alloc (.cells #[.int .i64 a, .int .i64 b] 116) = W1 := ⟨_, rfl⟩
  have hb1' := below_all hbW hb1
  have C4 : Blk W1 w.heap.size 116 #[.int .i64 0, .int .i64 0] := by rw [← hW1]; exact (B4.keep hb1 B4.lt).alloc _
  have C5 : Blk W1 (w.heap.size + 1) 116 #[.int .i64 0, .int .i64 0] := by rw [← hW1]; exact (B5.keep hb1 B5.lt).alloc _
  have C7 : Blk W1 w1.heap.size 116 #[.int .i64 a, .int .i64 b] := by rw [← hW1]; exact Blk.new _ _ _
  have hbW1 : Below w.heap.size w W1 := by rw [← hW1]; exact hb1'.alloc hb1'.size _
  have hz5 : w.heap.size + 1 < w1.heap.size := by have := B5.lt; have := hb1.size; omega
  go_upto_region 4 with (fail)
  try rw [hW1]
  clear hW1 B4 B5 hb1 hb1' H1
  go_wp2_with (fail)
  refine (H2.out _).mono ?_
  rintro e w2 ⟨rfl, hb2⟩
  obtain ⟨W2, hW2⟩ : ∃ W2, w2.alloc (.cells #[.int .i64 c, .int .i64 d] 116) = W2 := ⟨_, rfl⟩
  have hb2' := below_all hbW1 hb2
  have D4 : Blk W2 w.heap.size 116 #[.int .i64 0, .int .i64 0] := by rw [← hW2]; exact (C4.keep hb2 C4.lt).alloc _
  have D5 : Blk W2 (w.heap.size + 1) 116 #[.int .i64 0, .int .i64 0] := by rw [← hW2]; exact (C5.keep hb2 C5.lt).alloc _
  have D7 : Blk W2 w1.heap.size 116 #[.int .i64 a, .int .i64 b] := by rw [← hW2]; exact (C7.keep hb2 C7.lt).alloc _
  have D9 : Blk W2 w2.heap.size 116 #[.int .i64 c, .int .i64 d] := by rw [← hW2]; exact Blk.new _ _ _
  have hbW2 : Below w.heap.size w W2 := by rw [← hW2]; exact hb2'.alloc hb2'.size _
  have hz7 : w1.heap.size < w2.heap.size := by have := C7.lt; have := hb2.size; omega
  go_upto_region 7 with (fail)
  try rw [hW2]
  clear hW2 C4 C5 C7 hb2 hb2' H2 hbW1
  obtain ⟨x0, x1, x2, x3⟩ := D4.two
  obtain ⟨y0, y1, y2, y3⟩ := D5.two
  obtain ⟨a0, a1, a2, a3⟩ := D7.two
  obtain ⟨b0, b1, b2, b3⟩ := D9.two
  have HD4 := Lib.hid D4
  have HD5 := Lib.hid D5
  have HBE := Lib.hid hbW2
  clear D4 D5 D7 D9 hbW2 hbW
  have n1 : (w.heap.size = w1.heap.size) = False := eq_false (by omega)
  have n2 : (w.heap.size = w2.heap.size) = False := eq_false (by omega)
  have n3 : (w.heap.size + 1 = w1.heap.size) = False := eq_false (by omega)
  have n4 : (w.heap.size + 1 = w2.heap.size) = False := eq_false (by omega)
  go_region
  all_goals
    try go_wp2
    refine bodyPost_ret (v := .tuple #[.agg #[.int .i64 a, .int .i64 (b : Nat)], .agg #[.int .i64 c, .int .i64 (d : Nat)], .bool true]) (by simp [results, Tryz.results66, go_sem, x0, x1, y0, y1]) rfl ⟨rfl, ?_⟩
    first
      | exact below_two (below_two (below_drewN HBE.out 1) (by omega)) (by omega)
      | exact below_drewN (below_two (below_two HBE.out (by omega)) (by omega)) 1
theorem sh_num {q : Rat} (h : Sh q) : -1000000000 < q.num ∧ q.num < 1000000000 := by have := h.1; omega
theorem mul_lt9 {a b : Int} (ha : -1000000000 < a ∧ a < 1000000000) (hb : -1000000000 < b ∧ b < 1000000000) : -1000000000000000000 < a * b ∧ a * b < 1000000000000000000 := by
  have h : (a * b).natAbs < 1000000000 * 1000000000 := by
    rw [Int.natAbs_mul]
    exact Nat.mul_lt_mul'' (by omega) (by omega)
  omega
/-- The sum. -/
theorem add_q (p q : Rat) (hp : Sh p) (hq : Sh q) (w : World) (ht : PT w) :
    Calls Tryz.prog 41 #[.string (qtx p), .string (qtx q)] w (RetTx (p + q) w) := by
  have H := Lib.hid (rtwo_q p q hp hq w)
  have a1 := sh_num hp
  have c1 := sh_num hq
  have b1 : -1000000000 < (p.den : Int) ∧ (p.den : Int) < 1000000000 := by have := hp.2; omega
  have d1 : -1000000000 < (q.den : Int) ∧ (q.den : Int) < 1000000000 := by have := hq.2; omega
  have m1 := mul_lt9 a1 d1
  have m2 := mul_lt9 c1 b1
  have m3 := mul_lt9 b1 d1
  have hpq : mkRat (p.num * (q.den : Int) + q.num * (p.den : Int)) (p.den * q.den) = p + q := (Rat.add_def' p q).symm
  have hne : p.den * q.den ≠ 0 := Nat.mul_ne_zero p.den_nz q.den_nz
  have hcast : (p.den : Int) * (q.den : Int) = ((p.den * q.den : Nat) : Int) := by simp
  have hl : p.den * q.den < 9000000000000000000 := by omega
  rw [hcast] at m3
  have HF := Lib.hid (fun V (h : PT V) => fshort_any (p.num * (q.den : Int) + q.num * (p.den : Int)) (p.den * q.den) V (by omega) hl hne h)
  rw [hpq, ← hcast] at HF
  rw [← hcast] at m3
  have HT := Lib.hid ht
  unfold RetTx at *
  generalize p + q = R at *
  generalize qtx p = S at *
  generalize qtx q = T at *
  generalize qtx R = U at *
  clear hpq hne hcast hl hp hq ht
  generalize (q.den : Int) = d at *
  generalize (p.den : Int) = b at *
  generalize q.num = c at *
  generalize p.num = a at *
  have w1 : IntKind.i64.wrap (a * d) = a * d := IntWalk.i64_in _ (by omega)
  have w2 : IntKind.i64.wrap (c * b) = c * b := IntWalk.i64_in _ (by omega)
  have w3 : IntKind.i64.wrap (b * d) = b * d := IntWalk.i64_in _ (by omega)
  have w4 : IntKind.i64.wrap (a * d + c * b) = a * d + c * b := IntWalk.i64_in _ (by omega)
  clear m1 m2 m3 a1 b1 c1 d1
  go_enter Tryz.func41, Tryz.ntmps41
  go_wp2_with (fail)
  refine H.out.mono ?_
  rintro e w2 ⟨rfl, hb2⟩
  have HTT := Lib.hid (fun V (h : Below w2.heap.size w2 V) => (HT.out.keep hb2).keep h)
  go_wp2_with (fail)
  refine (HF.out _ (HTT.out _ (((Below.refl _ _).alloc (Nat.le_refl _) _).alloc (by simp) _))).mono ?_
  rintro e w3 ⟨rfl, hb3⟩
  go_wp2
  go_ret
  exact ⟨rfl, (hb2.trans ((((Below.refl w2.heap.size w2).alloc (Nat.le_refl _) _).alloc (by simp) _).mono hb2.size)).trans (hb3.mono (by have := hb2.size; simp; omega))⟩
/-- The product. -/
theorem mul_q (p q : Rat) (hp : Sh p) (hq : Sh q) (w : World) (ht : PT w) :
    Calls Tryz.prog 40 #[.string (qtx p), .string (qtx q)] w (RetTx (p * q) w) := by
  have H := Lib.hid (rtwo_q p q hp hq w)
  have a1 := sh_num hp
  have c1 := sh_num hq
  have b1 : -1000000000 < (p.den : Int) ∧ (p.den : Int) < 1000000000 := by have := hp.2; omega
  have d1 : -1000000000 < (q.den : Int) ∧ (q.den : Int) < 1000000000 := by have := hq.2; omega
  have m1 := mul_lt9 a1 c1
  have m3 := mul_lt9 b1 d1
  have hpq : mkRat (p.num * q.num) (p.den * q.den) = p * q := (Rat.mul_def' p q).symm
  have hne : p.den * q.den ≠ 0 := Nat.mul_ne_zero p.den_nz q.den_nz
  have hcast : (p.den : Int) * (q.den : Int) = ((p.den * q.den : Nat) : Int) := by simp
  have hl : p.den * q.den < 9000000000000000000 := by omega
  rw [hcast] at m3
  have HF := Lib.hid (fun V (h : PT V) => fshort_any (p.num * q.num) (p.den * q.den) V (by omega) hl hne h)
  rw [hpq, ← hcast] at HF
  rw [← hcast] at m3
  have HT := Lib.hid ht
  unfold RetTx at *
  generalize p * q = R at *
  generalize qtx p = S at *
  generalize qtx q = T at *
  generalize qtx R = U at *
  clear hpq hne hcast hl hp hq ht
  generalize (q.den : Int) = d at *
  generalize (p.den : Int) = b at *
  generalize q.num = c at *
  generalize p.num = a at *
  have w1 : IntKind.i64.wrap (a * c) = a * c := IntWalk.i64_in _ (by omega)
  have w3 : IntKind.i64.wrap (b * d) = b * d := IntWalk.i64_in _ (by omega)
  clear m1 m3 a1 b1 c1 d1
  go_enter Tryz.func40, Tryz.ntmps40
  go_wp2_with (fail)
  refine H.out.mono ?_
  rintro e w2 ⟨rfl, hb2⟩
  have HTT := Lib.hid (fun V (h : Below w2.heap.size w2 V) => (HT.out.keep hb2).keep h)
  go_wp2_with (fail)
  refine (HF.out _ (HTT.out _ (((Below.refl _ _).alloc (Nat.le_refl _) _).alloc (by simp) _))).mono ?_
  rintro e w3 ⟨rfl, hb3⟩
  go_wp2
  go_ret
  exact ⟨rfl, (hb2.trans ((((Below.refl w2.heap.size w2).alloc (Nat.le_refl _) _).alloc (by simp) _).mono hb2.size)).trans (hb3.mono (by have := hb2.size; simp; omega))⟩
theorem valid_q (q : Rat) (h : Sh q) (w : World) : Calls Tryz.prog 48 #[.string (qtx q)] w fun e w' => e = .returned (.bool true) ∧ Below w.heap.size w w' := by
  have H := Lib.hid (fun W => rshort_q q h W)
  generalize qtx q = S at *
  generalize q.num = a at *
  generalize q.den = b at *
  clear h
  go_enter Tryz.func48, Tryz.ntmps48
  go_wp2_with (fail)
  refine (H.out _).mono ?_
  rintro e w1 ⟨rfl, hb1⟩
  go_wp2
  go_ret
  exact ⟨rfl, hb1.alloc hb1.size _⟩
end Go.Proofs.Tg.Fi
end
section
/- Lists of texts of numbers: numbers (the program), Texts (the harness). -/
namespace Go.Proofs.Tg.Fi
open Go.RowKit Go.Rq Go.Qn Go.Proofs.Tg
set_option maxHeartbeats 6400000
set_option maxRecDepth 100000
def vq (q : Rat) : Value := .string (qtx q)
/-- A slice of texts of numbers. -/
abbrev Txts (w : World) (A : Option Addr) (qs : List Rat) : Prop := Sl w A qs.length 1 (qs.map vq)
theorem Txts.at {w : World} {A : Option Addr} {qs : List Rat} (h : Txts w A qs) {k : Nat} (hk : k < qs.length) : ∃ ad, A = some ad ∧ w.cell? (ad.add k) = some (.string (qtx qs[k])) := by
  obtain ⟨ad, rfl, hc⟩ := Sl.at1 h hk
  exact ⟨ad, rfl, by simpa [vq] using hc⟩
theorem numbers_q (A : Option Addr) (c : Nat) (qs : List Rat) (w : World) (hA : Txts w A qs) (hs : ∀ q ∈ qs, Sh q) (hn : qs.length ≤ 1000000) :
    Calls Tryz.prog 37 #[.slice A qs.length c] w fun e w' => e = .returned (.bool true) ∧ Below w.heap.size w w' := by
  have HV := Lib.hid (fun q (h : q ∈ qs) W => valid_q q (hs q h) W)
  obtain ⟨n, hn'⟩ : ∃ n, qs.length = n := ⟨_, rfl⟩
  have HA := Lib.hid hA
  rw [hn'] at hn ⊢
  have HN := Lib.hid hn'
  clear hs hA hn'
  go_enter Tryz.func37, Tryz.ntmps37
  go_wp2
  go_loopw [7] (fun s7 wr => ∃ k : Nat, s7 = .int .i64 (k : Nat) ∧ k ≤ n ∧ Hid (Below w.heap.size w wr)) (fun s7 _ => n - (intOf s7).toNat)
  case atStart => exact ⟨0, rfl, Nat.zero_le _, Lib.hid (Below.refl _ _)⟩
  case round =>
    obtain ⟨wo, rfl⟩ : ∃ wo : World, wo = wr := ⟨_, rfl⟩
    obtain ⟨k, rfl, hk, HB⟩ := hrel
    by_cases hkn : k = n
    · have e1 : decide ((k : Int) < (n : Int)) = false := decide_eq_false (by omega)
      have e1' : decide (k < n) = false := decide_eq_false (by omega)
      clear hkn
      go_wp2
      go_ret
      exact ⟨rfl, HB.out⟩
    · have hkl : k < n := by omega
      have e1 : decide ((k : Int) < (n : Int)) = true := decide_eq_true (by omega)
      have e1' : decide (k < n) = true := decide_eq_true hkl
      obtain ⟨ad, rfl, hc⟩ := Txts.at (HA.out.keep HB.out) (k := k) (by rw [HN.out]; exact hkl)
      have HC := Lib.hid (HV.out (qs[k]'(by rw [HN.out]; exact hkl)) (List.getElem_mem _) wo)
      generalize qtx (qs[k]'(by rw [HN.out]; exact hkl)) = S at *
      clear hkn
      go_wp2_with (fail)
      refine HC.out.mono ?_
      rintro e w2 ⟨rfl, hb2⟩
      go_wp2
      go_roundw
      case rel => exact ⟨k + 1, by go_num, by omega, Lib.hid (below_all HB.out hb2)⟩
      case measure => simp [intOf]; omega
end Go.Proofs.Tg.Fi
end
section
/- Lists of texts that are being filled; Texts of the harness. -/
namespace Go.Proofs.Tg.Fi
open Go.RowKit Go.Rq Go.Qn Go.Bn Go.Proofs.Tg
set_option maxHeartbeats 6400000
set_option maxRecDepth 100000
/-- The first k of n texts are there. -/
def tpart (qs : List Rat) (n k : Nat) : Array Value := ((qs.take k).map vq ++ List.replicate (n - k) (Value.string ⟨#[]⟩)).toArray
theorem tpart_zero (qs : List Rat) (n : Nat) : madeCells #[.string ⟨#[]⟩] n = tpart qs n 0 := by
  apply Array.ext
  · simp [tpart, size_madeCells]
  · intro i h1 h2
    simp [madeCells, tpart, Nat.mod_one]
theorem tpart_all {qs : List Rat} {n : Nat} (h : qs.length = n) : tpart qs n n = (qs.map vq).toArray := by
  subst h
  simp [tpart]
theorem tpart_set {qs : List Rat} {n k : Nat} (h : qs.length = n) (hk : k < n) : (tpart qs n k).setIfInBounds k (.string (qtx (qs[k]'(by omega)))) = tpart qs n (k + 1) := by
  unfold tpart
  rw [List.take_succ_eq_append_getElem (by omega), show n - k = (n - (k + 1)) + 1 by omega, List.replicate_succ]
  have e : ((qs.take k).map vq).length = k := by simp; omega
  simp only [List.setIfInBounds_toArray, List.map_append]
  congr 1
  rw [List.set_append_right _ _ (by omega), e, Nat.sub_self, List.set_cons_zero]
  simp [vq]
theorem tpart_at {qs : List Rat} {n k : Nat} (h : qs.length = n) (hk : k < n) : ∃ u, (tpart qs n k)[k]? = some u := by
  refine ⟨_, Array.getElem?_eq_getElem ?_⟩
  simp [tpart]; omega
theorem txts_of {w : World} {g : Nat} {qs : List Rat} (h : Blk w g 9 (qs.map vq).toArray) : Txts w (some ⟨g, 0, none⟩) qs :=
  ⟨by simp, fun _ => ⟨_, rfl, h.lt, fun j u hu => by rw [add_lit, Nat.zero_add, h.cell j]; simpa using hu⟩⟩
theorem text_info : (Tryz.prog.info? 9).map (fun i => (i.zero, i.size, i.bytes)) = some (some (.string ⟨#[]⟩), 1, 16) := by kernel_rfl
theorem make_txts (n : Nat) (hn : n ≤ 1000000) (w : World) : (Instr.makeSlice 22 (.int .i64 (n : Int)) (.int .i64 (n : Int))).run Tryz.prog w = .ok (.slice (some ⟨w.heap.size, 0, none⟩) n n) (w.alloc (.cells (madeCells #[.string ⟨#[]⟩] n) 9)) := by
  obtain ⟨i0, hi, hz0, hz1, hz2⟩ := info_parts text_info
  have hr := run_make (P := Tryz.prog) w 22 9 i0 (.string ⟨#[]⟩) Tryz.underlying22 hi hz0 .i64 .i64 n n (by omega) (by omega) (by rw [hz2]; omega) (by omega)
  rw [hz1, Nat.mul_one, Int.toNat_natCast] at hr
  exact hr
/-- A slice of rational numbers that can be read. -/
structure QsAt (w : World) (A : Option Addr) (rs : List RVal) : Prop where
  sl : Sl w A rs.length 4 (rs.flatMap RVal.cells)
  ok : ∀ r ∈ rs, r.Ok w
theorem QsAt.keep {w w' : World} {A : Option Addr} {rs : List RVal} (h : QsAt w A rs) (hb : Below w.heap.size w w') : QsAt w' A rs := ⟨h.sl.keep hb, fun r hr => (h.ok r hr).keep hb⟩
theorem OwnQ.qs {base : Nat} {w : World} {A : Option Addr} {c : Nat} {rs : List RVal} (h : OwnQ base w A c rs) : QsAt w A rs := ⟨Sl.own h.own, h.ok⟩
theorem flat4 {rs : List RVal} {k j : Nat} (hk : k < rs.length) {u : Value} (hu : rs[k].cells[j]? = some u) : (rs.flatMap RVal.cells)[k * 4 + j]? = some u := by
  have hj : j < 4 := (List.getElem?_eq_some_iff.1 hu).1
  induction rs generalizing k with
  | nil => exact absurd hk (by simp)
  | cons r rs ih =>
    cases k with
    | zero =>
      rw [List.flatMap_cons, List.getElem?_append_left (by rw [RVal.cells_len]; omega)]
      simpa using hu
    | succ k =>
      rw [List.flatMap_cons, List.getElem?_append_right (by rw [RVal.cells_len]; omega), RVal.cells_len]
      have : (k + 1) * 4 + j - 4 = k * 4 + j := by omega
      rw [this]
      exact ih (by simpa using hk) (by simpa using hu)
/-- The four cells of an element. -/
theorem QsAt.at {w : World} {A : Option Addr} {rs : List RVal} (h : QsAt w A rs) {k : Nat} (hk : k < rs.length) : ∃ ad, A = some ad ∧
    w.cell? (ad.add (k * 4)) = some (.bool (decide (rs[k].q.num < 0))) ∧ w.cell? ⟨(ad.add (k * 4)).block, (ad.add (k * 4)).off + 1, none⟩ = some (.slice rs[k].N (dg rs[k].q.num.natAbs).length rs[k].cn) ∧
    w.cell? ⟨(ad.add (k * 4)).block, (ad.add (k * 4)).off + 2, none⟩ = some (.bool false) ∧ w.cell? ⟨(ad.add (k * 4)).block, (ad.add (k * 4)).off + 3, none⟩ = some (.slice rs[k].D (dg (dnz rs[k].q.den)).length rs[k].cd) := by
  obtain ⟨ad, e, hlt, ha⟩ := h.sl.lies (by omega)
  have off : ∀ j, (⟨(ad.add (k * 4)).block, (ad.add (k * 4)).off + (j + 1), none⟩ : Addr) = ad.add (k * 4 + (j + 1)) := fun j => by
    rw [← add_add]; simp [Addr.add]
  refine ⟨ad, e, ha _ _ (flat4 (j := 0) hk rfl), (congrArg w.cell? (off 0)).trans (ha _ _ (flat4 (j := 1) hk rfl)), (congrArg w.cell? (off 1)).trans (ha _ _ (flat4 (j := 2) hk rfl)), (congrArg w.cell? (off 2)).trans (ha _ _ (flat4 (j := 3) hk rfl))⟩
/-- The same, with the block named. -/
def RetTB (qs : List Rat) (w : World) (e : Ending) (w' : World) : Prop := ∃ g, e = .returned (.slice (some ⟨g, 0, none⟩) qs.length qs.length) ∧ Blk w' g 9 (qs.map vq).toArray ∧ w.heap.size ≤ g ∧ Below w.heap.size w w'
theorem texts_b (A : Option Addr) (c : Nat) (rs : List RVal) (w : World) (h : QsAt w A rs) (hs : ∀ r ∈ rs, Sh r.q) (hn : rs.length ≤ 1000000) :
    Calls Tryz.prog 19 #[.slice A rs.length c] w (RetTB (rs.map RVal.q) w) := by
  obtain ⟨n, hn'⟩ : ∃ n, rs.length = n := ⟨_, rfl⟩
  have HT := Lib.hid (fun r (hr : r ∈ rs) V (hb : Below w.heap.size w V) => text_q r.q r.val V ((h.ok r hr).keep hb).at (hs r hr))
  have HA := Lib.hid h
  rw [hn'] at hn ⊢
  have HN := Lib.hid hn'
  have hmk := make_txts n hn
  have hql : (rs.map RVal.q).length = n := by rw [List.length_map, hn']
  unfold RetTB
  rw [hql]
  have HQL := Lib.hid hql
  have HFI : Hid ((tpart (rs.map RVal.q) n n) = ((rs.map RVal.q).map vq).toArray) := Lib.hid (tpart_all hql)
  obtain ⟨W, hW⟩ : ∃ W, w.alloc (.cells (madeCells #[.string ⟨#[]⟩] n) 9) = W := ⟨_, rfl⟩
  have HST : Hid (Blk W w.heap.size 9 (tpart (rs.map RVal.q) n 0) ∧ Below w.heap.size w W) := Lib.hid (by
    rw [← hW, tpart_zero (rs.map RVal.q) n]
    exact ⟨Blk.new _ _ _, (Below.refl _ _).alloc (Nat.le_refl _) _⟩)
  have HWW := Lib.hid hW
  clear hs h hn' hql hW
  go_enter Tryz.func19, Tryz.ntmps19
  go_upto_region 2 with (fail)
  rw [HWW.out]
  go_wp2
  go_loopw [4] (fun s4 wr => ∃ k : Nat, s4 = .int .i64 (k : Nat) ∧ k ≤ n ∧ Hid (Blk wr w.heap.size 9 (tpart (rs.map RVal.q) n k) ∧ Below w.heap.size w wr)) (fun s4 _ => n - (intOf s4).toNat)
  case atStart => exact ⟨0, rfl, Nat.zero_le _, HST⟩
  case round =>
    clear HST
    obtain ⟨wo, rfl⟩ : ∃ wo : World, wo = wr := ⟨_, rfl⟩
    obtain ⟨k, rfl, hk, HST⟩ := hrel
    by_cases hkn : k = n
    · have e1 : decide ((k : Int) < (n : Int)) = false := decide_eq_false (by omega)
      have e1' : decide (k < n) = false := decide_eq_false (by omega)
      have HK := Lib.hid hkn
      clear hkn
      go_wp2
      go_ret
      have hB := HST.out.1
      rw [HK.out, HFI.out] at hB
      exact ⟨w.heap.size, rfl, hB, Nat.le_refl _, HST.out.2⟩
    · have hkl : k < n := by omega
      have e1 : decide ((k : Int) < (n : Int)) = true := decide_eq_true (by omega)
      have e1' : decide (k < n) = true := decide_eq_true hkl
      have q0 : (0 : Int) ≤ (k : Int) := by omega
      have q1 : (k : Int) < (n : Int) := by omega
      have hkr : k < rs.length := by rw [HN.out]; exact hkl
      obtain ⟨ad, rfl, h0, h1, h2, h3⟩ := (HA.out.keep HST.out.2).at hkr
      have HC := Lib.hid (HT.out (rs[k]'hkr) (List.getElem_mem _) wo HST.out.2)
      have HSET : Hid ((tpart (rs.map RVal.q) n k).setIfInBounds k (.string (qtx (rs[k]'hkr).q)) = tpart (rs.map RVal.q) n (k + 1)) := Lib.hid (by
        have := tpart_set HQL.out hkl
        simpa using this)
      unfold RVal.val at HC
      generalize rs[k]'hkr = r at *
      generalize decide (r.q.num < 0) = s1 at *
      generalize (dg r.q.num.natAbs).length = n1 at *
      generalize (dg (dnz r.q.den)).length = n2 at *
      generalize qtx r.q = S at *
      generalize r.N = rN at *
      generalize r.D = rD at *
      generalize r.cn = rcn at *
      generalize r.cd = rcd at *
      clear hkn
      go_wp2_with (fail)
      refine HC.out.mono ?_
      rintro e w2 ⟨rfl, hb2⟩
      have hB2 := HST.out.1.keep hb2 HST.out.1.lt
      obtain ⟨u, hu⟩ := tpart_at HQL.out hkl
      have c0 : w2.cell? ⟨w.heap.size, k, none⟩ = some u := by rw [hB2.cell k]; exact hu
      have f0 := hB2.frozen k
      have HB2 := Lib.hid hB2
      clear hu hB2 h0 h1 h2 h3
      go_wp2
      go_roundw
      case rel =>
        refine ⟨k + 1, by go_num, by omega, Lib.hid ⟨?_, below_far (below_all HST.out.2 hb2) (Nat.le_refl _) _ _⟩⟩
        rw [← HSET.out]
        exact HB2.out.set _ _
      case measure => simp [intOf]; omega
end Go.Proofs.Tg.Fi
end
