/- Parts of the proof: WN1, FI3, WS3. -/
import Derived.Test.YtpkompfkhoceoaaGreatDoorMMV3
import Derived.Test.YtpkompfkhoceoaaGreatDoorMMV5
import Derived.Test.YtpkompfkhoceoaaGreatDoorMMV7
import Derived.Test.YtpkompfkhoceoaaGreatDoorMMV21
section
/- Short numbers of the program: the value of digits, the common divisor, reading. -/
namespace Go.Proofs.Tg
open Go.RowKit Go.Qn
set_option maxHeartbeats 2000000
set_option maxRecDepth 100000
theorem dval_any (s : ByteArray) (w : World) (hs : s.size ≤ 18) (hd : ∀ c ∈ s.data.toList, isD c = true) :
    Calls Tryz.prog 116 #[.string s] w fun e w' => e = .returned (.int .i64 (val s.data.toList : Nat)) ∧ w = w' := by
  have HD := Lib.hid hd
  have HL := Lib.hid (len_size s)
  clear hd
  go_enter Tryz.func116, Tryz.ntmps116
  go_wp2
  go_loop [3, 7] (fun s3 s7 => ∃ (k v : Nat), k ≤ s.size ∧ s7 = .int .i64 k ∧ s3 = .int .i64 v ∧ Hid (v = val (s.data.toList.take k) ∧ v < 10 ^ k)) (fun _ s7 => s.size - (intOf s7).toNat)
  case atStart => exact ⟨0, 0, Nat.zero_le _, rfl, rfl, Lib.hid ⟨rfl, by decide⟩⟩
  case round =>
    obtain ⟨k, v, hk, rfl, rfl, HV⟩ := hrel
    by_cases hlt : k < s.size
    · have hlt' : k < s.data.toList.length := by rw [HL.out]; exact hlt
      have hD := HD.out s.data.toList[k] (List.getElem_mem _)
      obtain ⟨d1, d2⟩ := isD_int hD
      have HX : Hid (val (s.data.toList.take (k + 1)) = 10 * v + (s[k].toNat - 48)) := Lib.hid (by rw [val_take _ _ hlt', HV.out.1]; rfl)
      have hv : v < 100000000000000000 := Nat.lt_of_lt_of_le HV.out.2 (by
        have : 10 ^ k ≤ 10 ^ 17 := Nat.pow_le_pow_right (by omega) (by omega)
        exact Nat.le_trans this (by decide))
      have HP : Hid (10 * v + (s[k].toNat - 48) < 10 ^ (k + 1)) := Lib.hid (by
        have h1 := HV.out.2
        rw [Nat.pow_succ]
        have : s[k].toNat ≤ 57 := by have h := d2; change ((s[k].toNat : Int)) ≤ 57 at h; omega
        omega)
      have e1 : (48 : Int) ≤ (s[k].toNat : Int) := d1
      have e2 : (s[k].toNat : Int) ≤ 57 := d2
      clear hD d1 d2
      go_wp2
      go_round
      case rel => exact ⟨k + 1, 10 * v + (s[k].toNat - 48), by omega, by go_num, by go_num, Lib.hid ⟨HX.out.symm, HP.out⟩⟩
      case measure => simp [intOf]; omega
    · obtain rfl : k = s.size := by omega
      have d0 : decide (s.size < s.size) = false := by simp
      go_wp2
      go_ret
      refine ⟨?_, rfl⟩
      have := HV.out.1
      rw [List.take_of_length_le (by rw [HL.out]; exact Nat.le_refl _)] at this
      rw [this]; rfl
end Go.Proofs.Tg
end
section
/- The program's numbers with short parts: writing a quotient. -/
namespace Go.Proofs.Tg.Fi
open Go.RowKit Go.Rq Go.Qn Go.Proofs.Tg
set_option maxHeartbeats 6400000
set_option maxRecDepth 100000
theorem sgcd_big (a b : Nat) (w : World) (ha : a < 9000000000000000000) (hb : b < 9000000000000000000) :
    Calls Tryz.prog 100 #[.int .i64 a, .int .i64 b] w fun e w' => e = .returned (.int .i64 (Nat.gcd a b : Nat)) ∧ Below w.heap.size w w' := by
  go_enter Tryz.func100, Tryz.ntmps100
  go_wp2
  go_loopw [0, 1] (fun s0 s1 wr => ∃ (x y : Nat), s0 = .int .i64 x ∧ s1 = .int .i64 y ∧ x < 9000000000000000000 ∧ y < 9000000000000000000 ∧ Hid (Nat.gcd x y = Nat.gcd a b) ∧ Below w.heap.size w wr) (fun _ s1 _ => (intOf s1).toNat)
  case atStart => exact ⟨a, b, rfl, rfl, ha, hb, Lib.hid rfl, Below.refl _ _⟩
  case round =>
    obtain ⟨wo, rfl⟩ : ∃ wo : World, wo = wr := ⟨_, rfl⟩
    obtain ⟨x, y, rfl, rfl, hx, hy, HG, hbw⟩ := hrel
    by_cases h0 : y = 0
    · subst h0
      go_wp2
      go_ret
      refine ⟨?_, hbw⟩
      have := HG.out
      rw [Nat.gcd_zero_right] at this
      rw [this]; rfl
    · have hne : ((y : Int) != 0) = true := by simp [h0]
      have hne' : ((y : Int) == 0) = false := by simp [h0]
      have hm : Int.tmod (x : Int) (y : Int) = ((x % y : Nat) : Int) := by rw [Int.ofNat_tmod]
      have hlt : x % y < y := Nat.mod_lt _ (by omega)
      have hw : IntKind.i64.wrap (((x % y : Nat) : Int)) = ((x % y : Nat) : Int) := IntWalk.i64_in _ (by omega)
      have HG2 : Hid (Nat.gcd y (x % y) = Nat.gcd a b) := Lib.hid (by rw [← HG.out, Nat.gcd_comm y (x % y), ← Nat.gcd_rec, Nat.gcd_comm])
      generalize x % y = r at *
      go_wp2
      go_quiet (fail)
      go_wp2
      go_roundw
      case rel => exact ⟨y, r, rfl, rfl, hy, by omega, HG2, below_drewN hbw _⟩
      case measure => simp [intOf]; omega
theorem qtx_int (n : Int) : qtx (n : Rat) = bs (Lib.itoa n) := by
  unfold qtx
  rw [itoa_text]; rfl
theorem qtx_frac {q : Rat} (h : q.den ≠ 1) : qtx q = bs (Lib.itoa q.num ++ 47 :: Lib.itoa (q.den : Int)) := by
  unfold qtx
  rw [itoa_text, itoa_text]
  unfold text
  rw [if_neg h, decide_eq_false (show ¬ ((q.den : Nat) : Int) < 0 by omega)]
  simp
/-- What is left when the two parts are coprime. -/
def RetTx (q : Rat) (w : World) (e : Ending) (w' : World) : Prop := e = .returned (.string (qtx q)) ∧ Below w.heap.size w w'
def z48 : Array Value := Array.replicate 48 (.int .u8 0)
theorem alloc48 (w : World) : w.alloc (.cells #[.int .u8 0, .int .u8 0, .int .u8 0, .int .u8 0, .int .u8 0, .int .u8 0, .int .u8 0, .int .u8 0, .int .u8 0, .int .u8 0, .int .u8 0, .int .u8 0, .int .u8 0, .int .u8 0, .int .u8 0, .int .u8 0, .int .u8 0, .int .u8 0, .int .u8 0, .int .u8 0, .int .u8 0, .int .u8 0, .int .u8 0, .int .u8 0, .int .u8 0, .int .u8 0, .int .u8 0, .int .u8 0, .int .u8 0, .int .u8 0, .int .u8 0, .int .u8 0, .int .u8 0, .int .u8 0, .int .u8 0, .int .u8 0, .int .u8 0, .int .u8 0, .int .u8 0, .int .u8 0, .int .u8 0, .int .u8 0, .int .u8 0, .int .u8 0, .int .u8 0, .int .u8 0, .int .u8 0, .int .u8 0] 167) = w.alloc (.cells z48 167) := rfl
theorem Buf.cellAt {w : World} {g N : Nat} {t : TypeId} {l : List UInt8} (h : Buf w g t N (Lib.byteCells l)) (hl : l.length ≤ N) : ∀ j (hj : j < l.length), w.cell? ((⟨g, 0, none⟩ : Addr).add j) = some (Value.int .u8 (l[j].toNat : Int)) := by
  intro j hj
  obtain ⟨cs, B, hs, ht⟩ := h.ex
  rw [add_lit, Nat.zero_add, B.cell j]
  have hl2 : (Lib.byteCells l).length = l.length := by simp [Lib.byteCells]
  have e : (Lib.byteCells l)[j]? = some (Value.int .u8 (l[j].toNat : Int)) := by simp [Lib.byteCells, hj]
  rw [← ht, hl2, List.getElem?_take_of_lt hj] at e
  simpa using e
theorem mk_parts (n : Int) (d : Nat) (hd : d ≠ 0) : Int.tdiv n ((Nat.gcd n.natAbs d : Nat) : Int) = (mkRat n d).num ∧ Int.tdiv (d : Int) ((Nat.gcd n.natAbs d : Nat) : Int) = ((mkRat n d).den : Int) := by
  have hg : 0 < Nat.gcd n.natAbs d := Nat.gcd_pos_of_pos_right _ (by omega)
  rw [Rat.num_mkRat, Rat.den_mkRat, if_neg hd, if_neg hd, Nat.gcd_comm d]
  constructor
  · rw [Int.tdiv_eq_ediv_of_dvd (Int.ofNat_dvd_left.2 (Nat.gcd_dvd_left _ _))]
  · rw [← Int.ofNat_tdiv]
theorem fshort_any (n : Int) (d : Nat) (w : World) (hn : n.natAbs < 9000000000000000000) (hd : d < 9000000000000000000) (hd0 : d ≠ 0) (ht : PT w) :
    Calls Tryz.prog 67 #[.int .i64 n, .int .i64 (d : Nat)] w (RetTx (mkRat n d) w) := by
  have hdn : decide ((d : Int) < 0) = false := decide_eq_false (by omega)
  have HFI := Lib.hid (fun (z : Int) (hz : z.natAbs < 9000000000000000000) V (h : PT V) => fmti_any z (by omega) (by omega) V h)
  by_cases h1 : d = 1
  · subst h1
    have hq : mkRat n 1 = (n : Rat) := Rat.ext (by rw [Rat.num_mkRat]; simp) (by rw [Rat.den_mkRat]; simp)
    rw [hq]
    have HQ := Lib.hid (qtx_int n)
    have HT := Lib.hid ht
    clear hq ht hdn
    unfold RetTx
    go_enter Tryz.func67, Tryz.ntmps67
    go_wp2_with (fail)
    refine (HFI.out n hn w HT.out).mono ?_
    rintro e w2 ⟨rfl, hb⟩
    go_wp2
    go_ret
    exact ⟨by rw [HQ.out]; rfl, hb⟩
  · obtain ⟨g, hg⟩ : ∃ g, Nat.gcd n.natAbs d = g := ⟨_, rfl⟩
    obtain ⟨e1, e2⟩ := mk_parts n d hd0
    obtain ⟨f1, f2, _⟩ := mk_num n d hd0
    rw [hg] at e1 e2 f1 f2
    have hg0 : g ≠ 0 := by rw [← hg]; exact Nat.pos_iff_ne_zero.1 (Nat.gcd_pos_of_pos_right _ (by omega))
    have HG := Lib.hid (fun V => sgcd_big n.natAbs d V hn hd)
    rw [hg] at HG
    obtain ⟨q, hq⟩ : ∃ q, mkRat n d = q := ⟨_, rfl⟩
    rw [hq] at e1 e2 f1 f2 ⊢
    have b1 : q.num.natAbs < 9000000000000000000 := by rw [f1]; exact Nat.lt_of_le_of_lt (Nat.div_le_self _ _) hn
    have b2 : q.den < 9000000000000000000 := by rw [f2]; exact Nat.lt_of_le_of_lt (Nat.div_le_self _ _) hd
    have gne : ((g : Int) == 0) = false := beq_eq_false_iff_ne.2 (by omega)
    have d1 : ((d : Int) != 1) = true := by simp; omega
    have w1 : IntKind.i64.wrap q.num = q.num := IntWalk.i64_in _ (by omega)
    have w2 : IntKind.i64.wrap (q.den : Int) = (q.den : Int) := IntWalk.i64_in _ (by omega)
    have HT := Lib.hid ht
    have HI := Lib.hid (qtx_int q.num)
    have HFR := Lib.hid (qtx_frac (q := q))
    have HW1 : Hid (q.den = 1 → qtx q = bs (Lib.itoa q.num)) := Lib.hid (fun h => by rw [← qtx_int, ← rat_whole h])
    clear hg hq f1 f2 ht h1
    unfold RetTx
    generalize q.num = qn at *
    generalize q.den = qd at *
    generalize qtx q = T at *
    obtain ⟨m, hm⟩ : ∃ m, n.natAbs = m := ⟨_, rfl⟩
    rw [hm] at HG hn
    have w0 : IntKind.i64.wrap (-n) = -n := IntWalk.i64_in _ (by omega)
    have hmx : max n (-n) = (m : Int) := by omega
    clear hm
    go_enter Tryz.func67, Tryz.ntmps67
    go_wp2_with (fail)
    refine (HG.out _).mono ?_
    rintro e w3 ⟨rfl, hb3⟩
    have HT3 : Hid (∀ k, PT (w3.drewN k)) := Lib.hid (fun k => HT.out.keep (below_drewN hb3 k))
    by_cases hqd : qd = 1
    · have q1 : ((qd : Int) == 1) = true := by simp [hqd]
      have q1' : (qd == 1) = true := by simp [hqd]
      have HF := Lib.hid (HW1.out hqd)
      clear hqd
      go_wp2
      go_quiet (fail)
      go_wp2_with (fail)
      refine (HFI.out qn b1 _ (HT3.out _)).mono ?_
      rintro e w4 ⟨rfl, hb4⟩
      go_wp2
      go_ret
      exact ⟨by rw [HF.out]; rfl, hb3.trans ((below_of_drewN hb4).mono hb3.size)⟩
    · have q1 : ((qd : Int) == 1) = false := by simp; omega
      have q1' : (qd == 1) = false := by simp; omega
      have HF := Lib.hid (HFR.out hqd)
      clear hqd HFI HG
      go_wp2
      go_quiet (fail)
      go_wp2_with (fail)
      rw [alloc48]
      have HTA := HT3.out nq
      have hbq : Below w.heap.size w (w3.drewN nq) := below_drewN hb3 nq
      have hgl := HTA.lt
      have hws : (w3.drewN nq).heap.size = w3.heap.size := rfl
      generalize w3.drewN nq = V at *
      obtain ⟨W, hW⟩ : ∃ W, V.alloc (.cells z48 167) = W := ⟨_, rfl⟩
      have hal : Below V.heap.size V W := by rw [← hW]; exact (Below.refl _ _).alloc (Nat.le_refl _) _
      have hB0 : Buf W V.heap.size 167 48 [] := by rw [← hW]; exact ⟨_, Blk.new _ _ _, by simp [z48], rfl⟩
      have HTW := HTA.keep hal
      obtain ⟨gB, hgB⟩ : ∃ g, w3.heap.size = g := ⟨_, rfl⟩
      rw [hgB] at hws
      rw [hws] at hB0 hgl
      have l1 := Lib.itoa_length_le qn (by omega) (by omega)
      have l2 := Lib.itoa_length_le (qd : Int) (by omega) (by omega)
      have HA1 := aint_any qn (by omega) (by omega) gB 48 167 [] W hB0 (by simp) HTW hgl
      unfold RetBuf at HA1
      rw [List.length_nil, Nat.zero_add, List.nil_append] at HA1
      have HA2 := fun V' h h2 => aint_any (qd : Int) (by omega) (by omega) gB 48 167 (Lib.byteCells (Lib.itoa qn) ++ [.int .u8 47]) V' h (by simp [Lib.byteCells]; omega) h2 hgl
      unfold RetBuf at HA2
      have hbl : (Lib.byteCells (Lib.itoa qn) ++ [Value.int .u8 47]).length = (Lib.itoa qn).length + 1 := by simp [Lib.byteCells]
      rw [hbl] at HA2
      have hxl : (Lib.byteCells (Lib.itoa qn)).length = (Lib.itoa qn).length := by simp [Lib.byteCells]
      have htot : (Lib.itoa qn ++ 47 :: Lib.itoa (qd : Int)).length = (Lib.itoa qn).length + 1 + (Lib.itoa (qd : Int)).length := by simp; omega
      have hcel : Lib.byteCells (Lib.itoa qn) ++ [Value.int .u8 47] ++ Lib.byteCells (Lib.itoa (qd : Int)) = Lib.byteCells (Lib.itoa qn ++ 47 :: Lib.itoa (qd : Int)) := by simp [Lib.byteCells]
      rw [hcel, ← htot] at HA2
      rw [hW, hgB]
      have HXL := Lib.hid hxl
      have HTOT := Lib.hid htot
      generalize Lib.itoa qn ++ 47 :: Lib.itoa (qd : Int) = L at *
      generalize Lib.byteCells (Lib.itoa qn) = X1 at *
      generalize (Lib.itoa qn).length = k1 at *
      generalize (Lib.itoa (qd : Int)).length = k2 at *
      have HA1 := Lib.hid HA1
      have HA2 := Lib.hid HA2
      have hbW := below_all hbq hal
      have hgw : w.heap.size ≤ gB := by rw [← hws]; exact hbq.size
      clear hW hB0 hbl hxl htot hcel hal hbq hb3 HT3 HT HTA HI HW1 HFR
      refine HA1.out.mono ?_
      rintro e w4 ⟨rfl, hB1, hT1⟩
      have hpt1 := HTW.tk hT1 hgl
      obtain ⟨W2, hW2⟩ : ∃ W2, w4.alloc (.cells #[.int .u8 47] 5) = W2 := ⟨_, rfl⟩
      have hal2 : Below w4.heap.size w4 W2 := by rw [← hW2]; exact (Below.refl _ _).alloc (Nat.le_refl _) _
      have hcell : ∀ j v, [Value.int .u8 47][j]? = some v → W2.cell? ((⟨w4.heap.size, 0, none⟩ : Addr).add j) = some v := by rw [← hW2]; exact cells_new w4 5 [.int .u8 47]
      have hsrc := Src.ofSlice (P := Tryz.prog) (w := W2) (size := 1) (tx := 149) Tryz.underlying149 ⟨w4.heap.size, 0, none⟩ 1 1 [.int .u8 47] rfl hcell (by simp [Value.oneCell'])
      obtain ⟨hr, hB2, hT2⟩ := buf_append (hB1.keep hal2) 149 149 _ _ _ hsrc (by rw [HXL.out]; omega)
      rw [HXL.out] at hr hB2 hT2
      have hpt2 := (hpt1.keep hal2).tk hT2 hgl
      have HR := Lib.hid hr
      have HW2 := Lib.hid hW2
      have HAA := Lib.hid (HA2.out _ hB2 hpt2)
      have HTT := Lib.hid ((hT1.then hal2).trans hT2)
      clear hr hB2 hT2 hsrc hcell hW2 hal2 hpt2 hpt1 hT1 hB1
      go_wp2_with (at_builtin; rw [HW2.out]; refine wpList_append_run _ rfl _ _ 149 149 rfl _ _ HR.out ?_)
      refine HAA.out.mono ?_
      rintro e w5 ⟨rfl, hB3, hT3⟩
      have hLl : L.length ≤ 48 := by have := HTOT.out; omega
      have hcv := run_convert_bytes_back (P := Tryz.prog) w5 149 9 5 ⟨gB, 0, none⟩ 48 L Tryz.underlying149 Tryz.underlying5 Tryz.underlying9 (hB3.cellAt hLl)
      have HLL := Lib.hid HTOT.out
      have hBE : Hid (Below w.heap.size w w5) := Lib.hid (Tk.below hbW (HTT.out.trans hT3) hgw)
      have hll : L.length = k1 + 1 + k2 := HTOT.out
      obtain ⟨kl, hkl⟩ : ∃ k, L.length = k := ⟨_, rfl⟩
      rw [hkl] at hcv ⊢
      clear hll hkl hB3 hT3
      go_wp2
      go_ret
      exact ⟨by rw [HF.out]; rfl, hBE.out⟩
end Go.Proofs.Tg.Fi
end
section
/- Walks: the parts of a number's text, once more, with what stands in each part. -/
namespace Go.Proofs.Tg
open Go.RowKit Go.Qn
set_option maxHeartbeats 1000000
set_option maxRecDepth 100000
def RetSplit2 (l : List UInt8) (w : World) (e : Ending) (w' : World) : Prop :=
  ∃ b num den ok, e = .returned (.tuple #[.agg #[.bool b, .string (bs num), .string (bs den)], .bool ok]) ∧ (SplitIs l b num den ok ∧ b = (cut l).1 ∧ num = (cut l).2.takeWhile isD ∧ (den = [] ∨ den = ((cut l).2.dropWhile isD).tail.takeWhile isD)) ∧ Below w.heap.size w w'
theorem split_fin2 {l den r : List UInt8} {b ok : Bool} {N D : ByteArray} {w w' : World} (hden : den = [] ∨ den = (r.dropWhile isD).tail.takeWhile isD) (hc : cut l = (b, r)) (hN : bs (r.takeWhile isD) = N) (hD : bs den = D) (h : SplitIs l b (r.takeWhile isD) den ok) (hb : Below w.heap.size w w') :
    RetSplit2 l w (.returned (.tuple #[.agg #[.bool b, .string N, .string D], .bool ok])) w' := by
  subst hN hD
  exact ⟨b, _, den, ok, rfl, ⟨h, by rw [hc], by rw [hc], by rw [hc]; exact hden⟩, hb⟩
set_option maxHeartbeats 4000000 in
theorem split_more (s : ByteArray) (w : World) (hs : s.size ≤ 64) :
    Calls Tryz.prog 81 #[.string s] w (RetSplit2 s.data.toList w) := by
  obtain ⟨b, r, hc⟩ : ∃ b r, cut s.data.toList = (b, r) := ⟨_, _, rfl⟩
  have HC : Hid (∀ W, Calls Tryz.prog 117 #[.string s, .string ⟨#[45]⟩] W fun e w' => e = .returned (.tuple #[.string (bs r), .bool b]) ∧ W = w') := Lib.hid (fun W => by
    have := cutp_any s W hs
    rwa [hc] at this)
  have hrl : r.length ≤ 64 := by
    have := (spl_len hc).2
    rw [len_size] at this; omega
  obtain ⟨N, hN⟩ : ∃ N, bs (r.takeWhile isD) = N := ⟨_, rfl⟩
  obtain ⟨R, hR⟩ : ∃ R, bs (r.dropWhile isD) = R := ⟨_, rfl⟩
  have HD : Hid (∀ W, Calls Tryz.prog 118 #[.string (bs r)] W fun e w' => e = .returned (.tuple #[.string N, .string R]) ∧ Below W.heap.size W w') := Lib.hid (fun W => by
    have := digits_any (bs r) W (by rw [bs_size]; exact hrl)
    rwa [bs_data, hN, hR] at this)
  have HN := Lib.hid hN
  have HR := Lib.hid hR
  have Hc := Lib.hid hc
  clear hN hR hc
  go_enter Tryz.func81, Tryz.ntmps81
  go_wp2_with (go_at_call 117; refine (HC.out _).mono ?_; rintro e w' ⟨rfl, rfl⟩)
  with_reducible refine (HD.out _).mono ?_
  rintro e w1 ⟨rfl, hb1⟩
  have B4 : Blk w1 (w.heap.size + 1) 142 #[.bool b, .string ByteArray.empty, .string ByteArray.empty] := by
    have := (Blk.new (w.alloc (.cells #[.bool false, .string ByteArray.empty, .string ByteArray.empty] 142)) 142 #[.bool b, .string ByteArray.empty, .string ByteArray.empty]).keep hb1 (by simp)
    simpa using this
  have B2 : Blk w1 w.heap.size 142 #[.bool false, .string ByteArray.empty, .string ByteArray.empty] :=
    ((Blk.new w 142 #[.bool false, .string ByteArray.empty, .string ByteArray.empty]).alloc _).keep hb1 (by simp; omega)
  have hbw : Below w.heap.size w w1 := (((Below.refl _ _).alloc (Nat.le_refl _) _).alloc (by simp) _).trans (hb1.mono (by simp; omega))
  have hz : w.heap.size + 1 < w1.heap.size := B4.lt
  have HB4 := Lib.hid B4
  have HB2 := Lib.hid B2
  have c0 := B4.cell 0
  have c1 := B4.cell 1
  have c2 := B4.cell 2
  have f0 := B4.frozen 0
  have f1 := B4.frozen 1
  have f2 := B4.frozen 2
  have d0 := B2.cell 0
  have d1 := B2.cell 1
  have d2 := B2.cell 2
  have e0 := B2.frozen 0
  have e1 := B2.frozen 1
  have e2 := B2.frozen 2
  clear hb1 B4 B2
  simp at c0 c1 c2 d0 d1 d2
  go_wp2_with (fail)
  · have t1 : (N.toList == [48]) = true := by assumption
    have t2 : b = true := by assumption
    subst t2
    refine bodyPost_ret (v := .tuple #[.agg #[.bool true, .string N, .string ByteArray.empty], .bool false]) (by simp [results, Tryz.results81, go_sem, d0, d1, d2]) rfl (split_fin2 (.inl rfl) Hc.out HN.out bs_nil (spl_zero Hc.out ?_) ?_)
    · rw [← bs_toList (r.takeWhile isD), HN.out]; simpa using t1
    · exact (((hbw.setCell (by simp) _).setCell (by simp) _).setCell (by simp) _).setCell (by simp) _
  · have t1 : (N.toList == [48]) = true := by assumption
    have t2 : ¬ b = true := by assumption
    obtain rfl : b = false := eq_false_of_ne_true t2
    refine bodyPost_ret (v := .tuple #[.agg #[.bool false, .string N, .string ByteArray.empty], .bool R.toList.isEmpty]) (by simp [results, Tryz.results81, go_sem, d0, d1, d2]) rfl (split_fin2 (.inl rfl) Hc.out HN.out bs_nil ?_ ?_)
    · have := spl_zero Hc.out (by rw [← bs_toList (r.takeWhile isD), HN.out]; simpa using t1)
      rw [← HR.out, bs_toList]
      simpa using this
    · exact (((hbw.setCell (by simp) _).setCell (by simp) _).setCell (by simp) _).setCell (by simp) _
  · have t1 : (N.toList == [48]) = false := by assumption
    have t2 : N.toList = [] := by assumption
    refine bodyPost_ret (v := .tuple #[.agg #[.bool b, .string N, .string ByteArray.empty], .bool false]) (by simp [results, Tryz.results81, go_sem, d0, d1, d2]) rfl (split_fin2 (.inl rfl) Hc.out HN.out bs_nil (spl_bad Hc.out ?_ (.inl ?_)) ?_)
    · rw [← bs_toList (r.takeWhile isD), HN.out]; simpa using t1
    · rw [← bs_toList (r.takeWhile isD), HN.out]; exact t2
    · exact (((hbw.setCell (by simp) _).setCell (by simp) _).setCell (by simp) _).setCell (by simp) _
  · have t1 : (N.toList == [48]) = false := by assumption
    have t3 : ¬ N.toList = [] := by assumption
    have t4 : 0 < N.size := by assumption
    have t2 : N.toList.isEmpty = true ∨ ((N[0].toNat : Int) == 48) = true := by assumption
    refine bodyPost_ret (v := .tuple #[.agg #[.bool b, .string N, .string ByteArray.empty], .bool false]) (by simp [results, Tryz.results81, go_sem, d0, d1, d2]) rfl (split_fin2 (.inl rfl) Hc.out HN.out bs_nil (spl_bad Hc.out ?_ (.inr ?_)) ?_)
    · rw [← bs_toList (r.takeWhile isD), HN.out]; simpa using t1
    · rcases t2 with t2 | t2
      · exact absurd (List.isEmpty_iff.1 t2) t3
      · exact of_head HN.out (c := 48) t2
    · exact (((hbw.setCell (by simp) _).setCell (by simp) _).setCell (by simp) _).setCell (by simp) _
  · have t1 : (N.toList == [48]) = false := by assumption
    have t3 : ¬ N.toList = [] := by assumption
    have t4 : 0 < N.size := by assumption
    have t2 : N.toList.isEmpty = false ∧ ((N[0].toNat : Int) == 48) = false := by assumption
    have t5 : R.toList.isEmpty = true := by assumption
    refine bodyPost_ret (v := .tuple #[.agg #[.bool b, .string N, .string ByteArray.empty], .bool true]) (by simp [results, Tryz.results81, go_sem, d0, d1, d2]) rfl (split_fin2 (.inl rfl) Hc.out HN.out bs_nil (spl_whole Hc.out ?_ ?_ ?_) ?_)
    · rw [← bs_toList (r.takeWhile isD), HN.out]; simpa using t1
    · rintro (h | h)
      · exact t3 (by rw [← HN.out, bs_toList]; exact h)
      · exact of_not_head HN.out (c := 48) t2.2 h
    · rw [← bs_toList (r.dropWhile isD), HR.out]; exact List.isEmpty_iff.1 t5
    · exact (((hbw.setCell (by simp) _).setCell (by simp) _).setCell (by simp) _).setCell (by simp) _
  · have t1 : (N.toList == [48]) = false := by assumption
    have t3 : ¬ N.toList = [] := by assumption
    have t4 : 0 < N.size := by assumption
    have t2 : N.toList.isEmpty = false ∧ ((N[0].toNat : Int) == 48) = false := by assumption
    have t5 : R.toList.isEmpty = false := by assumption
    have t6 : 0 < R.size := by assumption
    have t7 : ((R[0].toNat : Int) != 47) = true := by assumption
    have hR : r.dropWhile isD = R.toList := by rw [← HR.out, bs_toList]
    obtain ⟨c, t, hct⟩ : ∃ c t, r.dropWhile isD = c :: t := by
      cases hh : r.dropWhile isD with
      | nil => rw [hh] at hR; rw [← hR] at t5; cases t5
      | cons c t => exact ⟨c, t, rfl⟩
    refine bodyPost_ret (v := .tuple #[.agg #[.bool b, .string N, .string ByteArray.empty], .bool false]) (by simp [results, Tryz.results81, go_sem, d0, d1, d2]) rfl (split_fin2 (.inl rfl) Hc.out HN.out bs_nil (spl_slash Hc.out ?_ ?_ hct ?_) ?_)
    · rw [← bs_toList (r.takeWhile isD), HN.out]; simpa using t1
    · rintro (h | h)
      · exact t3 (by rw [← HN.out, bs_toList]; exact h)
      · exact of_not_head HN.out (c := 48) t2.2 h
    · have := of_not_head HR.out (c := 47) (h := t6) (by simpa using t7)
      rw [hct] at this
      simpa using this
    · exact (((hbw.setCell (by simp) _).setCell (by simp) _).setCell (by simp) _).setCell (by simp) _
  · have t1 : (N.toList == [48]) = false := by assumption
    have t3 : ¬ N.toList = [] := by assumption
    have t4 : 0 < N.size := by assumption
    have t2 : N.toList.isEmpty = false ∧ ((N[0].toNat : Int) == 48) = false := by assumption
    have t5 : R.toList.isEmpty = false := by assumption
    have t6 : 0 < R.size := by assumption
    have t7 : ((R[0].toNat : Int) != 47) = false := by assumption
    have hR : r.dropWhile isD = R.toList := by rw [← HR.out, bs_toList]
    obtain ⟨t, hct⟩ : ∃ t, r.dropWhile isD = 47 :: t := by
      have := of_head HR.out (c := 47) (h := t6) (by simpa using t7)
      cases hh : r.dropWhile isD with
      | nil => rw [hh] at this; cases this
      | cons c t => rw [hh] at this; injection this with this; subst this; exact ⟨t, rfl⟩
    have hext : R.extract 1 R.size = bs t := by rw [ext_end, ← HR.out, bs_data, hct]; rfl
    have htl : t.length ≤ 64 := by
      have a2 := dw_len isD r
      rw [hct, List.length_cons] at a2
      omega
    obtain ⟨D, hD⟩ : ∃ D, bs (t.takeWhile isD) = D := ⟨_, rfl⟩
    obtain ⟨R2, hR2⟩ : ∃ R, bs (t.dropWhile isD) = R := ⟨_, rfl⟩
    have HD2 : Hid (∀ W, Calls Tryz.prog 118 #[.string (R.extract 1 R.size)] W fun e w' => e = .returned (.tuple #[.string D, .string R2]) ∧ Below W.heap.size W w') := Lib.hid (fun W => by
      have := digits_any (bs t) W (by rw [bs_size]; exact htl)
      rwa [bs_data, hD, hR2, ← hext] at this)
    have HDD := Lib.hid hD
    have HR2 := Lib.hid hR2
    have Hct := Lib.hid hct
    have T1 := Lib.hid t1
    have T2 := Lib.hid t2
    clear hD hR2 hct hR hext t1 t2 t7
    with_reducible refine (HD2.out _).mono ?_
    rintro e w2 ⟨rfl, hb2⟩
    have B4 : Blk w2 (w.heap.size + 1) 142 #[.bool b, .string N, .string ByteArray.empty] := (HB4.out.set 1 (.string N)).keep hb2 (by simp; omega)
    have B2 : Blk w2 w.heap.size 142 #[.bool false, .string ByteArray.empty, .string ByteArray.empty] := (HB2.out.far (p := ⟨w.heap.size + 1, 1, none⟩) (by simp) (.string N)).keep hb2 (by simp; omega)
    have hbw2 : Below w.heap.size w w2 := (hbw.setCell (p := ⟨w.heap.size + 1, 1, none⟩) (by simp) (.string N)).trans (hb2.mono (by simp; omega))
    have hz2 : w.heap.size + 1 < w2.heap.size := B4.lt
    clear c0 c1 c2 d0 d1 d2 e0 e1 e2 f0 f1 f2 hb2 hz HB4 HB2 hbw
    have c0 := B4.cell 0
    have c1 := B4.cell 1
    have c2 := B4.cell 2
    have f0 := B4.frozen 0
    have f1 := B4.frozen 1
    have f2 := B4.frozen 2
    have d0 := B2.cell 0
    have d1 := B2.cell 1
    have d2 := B2.cell 2
    have e0 := B2.frozen 0
    have e1 := B2.frozen 1
    have e2 := B2.frozen 2
    clear B4 B2
    simp at c0 c1 c2 d0 d1 d2
    have fin : ∀ (ok : Bool) (w' : World), (ok = true ↔ t.dropWhile isD = [] ∧ t.takeWhile isD ≠ [] ∧ (t.takeWhile isD).head? ≠ some 48 ∧ t.takeWhile isD ≠ [49]) → Below w.heap.size w w' →
        RetSplit2 s.data.toList w (.returned (.tuple #[.agg #[.bool b, .string N, .string D], .bool ok])) w' := by
      intro ok w' hok hb
      refine split_fin2 (.inr (by rw [Hct.out]; rfl)) Hc.out HN.out HDD.out (spl_den Hc.out ?_ ?_ Hct.out hok) hb
      · rw [← bs_toList (r.takeWhile isD), HN.out]; simpa using T1.out
      · rintro (h | h)
        · exact t3 (by rw [← HN.out, bs_toList]; exact h)
        · exact of_not_head HN.out (c := 48) T2.out.2 h
    have FIN := Lib.hid fin
    clear fin
    have hRl : R2.toList = t.dropWhile isD := by rw [← HR2.out, bs_toList]
    have hDl : D.toList = t.takeWhile isD := by rw [← HDD.out, bs_toList]
    have HRl := Lib.hid hRl
    have HDl := Lib.hid hDl
    clear hRl hDl
    go_wp2
    by_cases r2 : R2.toList.isEmpty = true
    · have r2' : R2.toList = [] := List.isEmpty_iff.1 r2
      by_cases r3 : D.toList.isEmpty = true
      · have r3' : D.toList = [] := List.isEmpty_iff.1 r3
        go_region
        all_goals
          try go_wp2
          refine bodyPost_ret (v := .tuple #[.agg #[.bool b, .string N, .string D], .bool false]) (by simp [results, Tryz.results81, go_sem, d0, d1, d2]) rfl (FIN.out _ _ ?_ ?_)
          · rw [← HRl.out, ← HDl.out, r3']; simp
          · exact below_drewN ((((hbw2.setCell (by simp) _).setCell (by simp) _).setCell (by simp) _).setCell (by simp) _) 1
      · have r3 : D.toList.isEmpty = false := eq_false_of_ne_true r3
        have r3' : ¬ D.toList = [] := fun e => by rw [e] at r3; cases r3
        have r4 : 0 < D.size := by
          rw [← HDD.out]; exact bs_pos (fun e => r3' (by rw [HDl.out]; exact e))
        by_cases r5 : ((D[0].toNat : Int) != 48) = true
        · have r5' : (t.takeWhile isD).head? ≠ some 48 := of_not_head HDD.out (c := 48) (h := r4) (by simpa using r5)
          have R5 := Lib.hid r5'
          clear r5'
          by_cases r6 : (D.toList != [49]) = true
          · skip
            go_region
            all_goals
              try go_wp2
              refine bodyPost_ret (v := .tuple #[.agg #[.bool b, .string N, .string D], .bool true]) (by simp [results, Tryz.results81, go_sem, d0, d1, d2]; simpa using r6) rfl (FIN.out _ _ ?_ ?_)
              · rw [← HRl.out, ← HDl.out]; exact iff_of_true rfl ⟨r2', r3', by rw [HDl.out]; exact R5.out, by simpa using r6⟩
              · exact below_drewN ((((hbw2.setCell (by simp) _).setCell (by simp) _).setCell (by simp) _).setCell (by simp) _) 1
          · have r6 : (D.toList != [49]) = false := eq_false_of_ne_true r6
            go_region
            all_goals
              try go_wp2
              refine bodyPost_ret (v := .tuple #[.agg #[.bool b, .string N, .string D], .bool false]) (by simp [results, Tryz.results81, go_sem, d0, d1, d2]; simpa using r6) rfl (FIN.out _ _ ?_ ?_)
              · rw [← HRl.out, ← HDl.out]; exact iff_of_false (by decide) (fun h => h.2.2.2 (by simpa using r6))
              · exact below_drewN ((((hbw2.setCell (by simp) _).setCell (by simp) _).setCell (by simp) _).setCell (by simp) _) 1
        · have r5 : ((D[0].toNat : Int) != 48) = false := eq_false_of_ne_true r5
          have r5' : (t.takeWhile isD).head? = some 48 := of_head HDD.out (c := 48) (h := r4) (by simpa using r5)
          have R5 := Lib.hid r5'
          clear r5'
          go_region
          all_goals
            try go_wp2
            refine bodyPost_ret (v := .tuple #[.agg #[.bool b, .string N, .string D], .bool false]) (by simp [results, Tryz.results81, go_sem, d0, d1, d2]) rfl (FIN.out _ _ ?_ ?_)
            · rw [← HRl.out, ← HDl.out]; exact iff_of_false (by decide) (fun h => h.2.2.1 (by rw [HDl.out]; exact R5.out))
            · exact below_drewN ((((hbw2.setCell (by simp) _).setCell (by simp) _).setCell (by simp) _).setCell (by simp) _) 1
    · have r2 : R2.toList.isEmpty = false := eq_false_of_ne_true r2
      have r2' : ¬ R2.toList = [] := fun e => by rw [e] at r2; cases r2
      go_region
      all_goals
        try go_wp2
        refine bodyPost_ret (v := .tuple #[.agg #[.bool b, .string N, .string D], .bool false]) (by simp [results, Tryz.results81, go_sem, d0, d1, d2]) rfl (FIN.out _ _ ?_ ?_)
        · rw [← HRl.out]; simp [r2']
        · exact below_drewN ((((hbw2.setCell (by simp) _).setCell (by simp) _).setCell (by simp) _).setCell (by simp) _) 1
  · have t5 : R.toList.isEmpty = false := by assumption
    have t6 : ¬ 0 < R.size := by assumption
    have hR : r.dropWhile isD = R.toList := by rw [← HR.out, bs_toList]
    have : R.size = (r.dropWhile isD).length := by rw [← HR.out, bs_size]
    have h0 : r.dropWhile isD = [] := List.eq_nil_of_length_eq_zero (by omega)
    rw [← hR, h0] at t5; cases t5
  · have t5 : ¬ N.toList = [] := by assumption
    have t6 : ¬ 0 < N.size := by assumption
    have hR : r.takeWhile isD = N.toList := by rw [← HN.out, bs_toList]
    have : N.size = (r.takeWhile isD).length := by rw [← HN.out, bs_size]
    have h0 : r.takeWhile isD = [] := List.eq_nil_of_length_eq_zero (by omega)
    exact absurd (hR.symm.trans h0) t5
/-- The parts of a number's own text. -/
def RetSplit3 (b : Bool) (n d : Nat) (w : World) (e : Ending) (w' : World) : Prop :=
  e = .returned (.tuple #[.agg #[.bool b, .string (bs (Lib.decDigits n)), .string (bs (if d = 1 then [] else Lib.decDigits d))], .bool true]) ∧ Below w.heap.size w w'
theorem split_text (b : Bool) (n d : Nat) (w : World) (hc : Canon b n d) (hs : (text b n d).length ≤ 64) :
    Calls Tryz.prog 81 #[.string (bs (text b n d))] w (RetSplit3 b n d w) := by
  refine (split_more (bs (text b n d)) w (by rw [bs_size]; exact hs)).mono ?_
  rintro e w' ⟨b2, num, den, ok, rfl, ⟨hS, hb2, hnum, hden⟩, hb⟩
  rw [bs_data] at hS hb2 hnum hden
  rw [cut_text] at hb2 hnum hden
  simp only at hb2 hnum hden
  subst hb2
  obtain ⟨e1, e2⟩ := tw_app (p := isD) (Lib.decDigits n) (if d = 1 then [] else 47 :: Lib.decDigits d) (dec_allD n) (tail_form d)
  rw [e1] at hnum
  rw [e2] at hden
  subst hnum
  obtain ⟨_, _, h0, h1⟩ := hS
  have hrd := rd_text hc
  have hok : ok = true := by
    cases ok with
    | true => rfl
    | false => rw [h0 rfl] at hrd; cases hrd
  subst hok
  obtain ⟨_, h2, h3⟩ := h1 rfl
  have hD : den = if d = 1 then [] else Lib.decDigits d := by
    by_cases hd : d = 1
    · rw [if_pos hd] at hden ⊢
      rcases hden with h | h
      · exact h
      · rw [h]; rfl
    · rw [if_neg hd] at hden ⊢
      rcases hden with h | h
      · have := h2 h
        rw [hrd] at this
        injection this with this
        injection this with _ this
        injection this with _ this
        exact absurd this hd
      · rw [h, List.tail_cons]; have := (tw_app (p := isD) (Lib.decDigits d) [] (dec_allD d) (.inl rfl)).1; rwa [List.append_nil] at this
  subst hD
  exact ⟨rfl, hb⟩
end Go.Proofs.Tg
end
