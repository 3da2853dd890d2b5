/- Parts of the proof: NU13, RQ0, FI1, AD1, Fr19, WC1, SM1, SM2, SP0, SP1, SP2. -/
import Derived.Shelf.Strconv.Itoa4
import Derived.Lib.AppendIntMem
import Derived.Deep.Cut
import Derived.Test.YtodjofbneeejpaaGreatDoorCards
import Derived.Test.YtodjofbneeejpaaGreatDoorTie
import Derived.LaidSub
import Derived.Lib.TrailingZeros
import Derived.ProofKit
import Derived.OpenShut
import Derived.Carry
import Derived.Deep.Slices
import Derived.Deep.Matrix
import Derived.Deep.DeepHandedRow
import Derived.Lib.LaidTab
import Derived.Laws.CopyOwn
import Derived.Laws.IdiomCopy
import Derived.Maps.OwnSet
import Derived.WalkKit
import Derived.DeepKeys5
import Derived.Test.YtodjofbneeejpaaGreatDoorMBD0
import Derived.Test.YtodjofbneeejpaaGreatDoorMBD1
import Derived.Test.YtodjofbneeejpaaGreatDoorMBD2
section
/- The harness's numbers: the text of a fraction. -/
namespace Go.Proofs.Tg
open Go.RowKit Go.Gr Go.Qn
set_option maxHeartbeats 2000000
set_option maxRecDepth 100000
theorem dig_any (b : Bool) (A : Option Addr) (c v : Nat) (w : World) (hA : Digs w A (mg v)) (hv : v < 1000000000) :
    Calls Tryz.prog 128 #[.agg #[.bool b, .slice A (mg v).length c]] w fun e w' => e = .returned (.string (bs (Lib.decDigits v))) ∧ Below w.heap.size w w' := by
  by_cases h0 : v = 0
  ·subst h0
   rw [dec_zero]
   exact digits_nil b A c w
  ·rw [mg_pos h0] at hA ⊢
   exact digits_one b A c v w hA hv h0
theorem dl_pos {m : Nat} (h1 : m ≠ 1) : dl m = mg m := by unfold dl; rw [if_neg h1]
theorem dl_one : dl 1 = [] := rfl
theorem dec_len (k : Nat) : ∀ n, n < 10 ^ (k + 1) → (Lib.decDigits n).length ≤ k + 1 := by
 induction k with
 | zero =>
   intro n hn
   rw [Lib.decDigits, dif_pos (by simpa using hn)]; simp
 | succ k ih =>
   intro n hn
   by_cases h : n < 10
   ·rw [Lib.decDigits, dif_pos h]; simp
   ·rw [Lib.decDigits, dif_neg h, List.length_append]
    have := ih (n / 10) (by rw [Nat.pow_succ] at hn; omega)
    simp; omega
theorem bs_app (a b : List UInt8) : bs (a ++ b) = bs a ++ bs b := by
 rw [← bs_self (bs a ++ bs b)]
 congr 1
theorem text_any (p q : Bool) (N D : Option Addr) (cn cd n m : Nat) (w : World) (hN : Digs w N (mg n)) (hD : Digs w D (dl m)) (hn : n < 1000000000) (hm : m < 1000000000) (hm0 : m ≠ 0) :
    Calls Tryz.prog 96 #[.agg #[.bool p, .slice N (mg n).length cn, .bool q, .slice D (dl m).length cd]] w fun e w' => e = .returned (.string (bs (text p n m))) ∧ Below w.heap.size w w' := by
  have H1 : Hid (∀ W, Below w.heap.size w W → Calls Tryz.prog 128 #[.agg #[.bool p, .slice N (mg n).length cn]] W fun e w' => e = .returned (.string (bs (Lib.decDigits n))) ∧ Below W.heap.size W w') := Lib.hid (fun W h => dig_any p N cn n W (hN.keep h) hn)
  obtain ⟨nn, hnn⟩ : ∃ nn, (mg n).length = nn := ⟨_, rfl⟩
  rw [hnn] at H1 ⊢
  have HT : Hid (bs (text p n m) = (if p = true then ⟨#[45]⟩ ++ bs (Lib.decDigits n) else bs (Lib.decDigits n)) ++ (if m = 1 then ByteArray.empty else ⟨#[47]⟩ ++ bs (Lib.decDigits m))) := Lib.hid (by
   unfold text
   rw [bs_app, bs_app]
   have e1 : bs (if p = true then [45] else []) ++ (bs (Lib.decDigits n) ++ bs (if m = 1 then [] else 47 :: Lib.decDigits m)) = (if p = true then ⟨#[45]⟩ ++ bs (Lib.decDigits n) else bs (Lib.decDigits n)) ++ bs (if m = 1 then [] else 47 :: Lib.decDigits m) := by
    rw [← bs_app, ← bs_app, ← List.append_assoc, bs_app]
    congr 1
    cases p with
    | true => rw [if_pos rfl, if_pos rfl, bs_app]; rfl
    | false => simp
   rw [e1]
   congr 1
   by_cases h : m = 1
   ·rw [if_pos h, if_pos h]; rfl
   ·rw [if_neg h, if_neg h, show (47 :: Lib.decDigits m) = [47] ++ Lib.decDigits m from rfl, bs_app]; rfl)
  have l1 : (bs (Lib.decDigits n)).size ≤ 9 := by rw [bs_size]; exact dec_len 8 n hn
  have l2 : (bs (Lib.decDigits m)).size ≤ 9 := by rw [bs_size]; exact dec_len 8 m hm
  obtain ⟨SN, hSN⟩ : ∃ SN, bs (Lib.decDigits n) = SN := ⟨_, rfl⟩
  obtain ⟨SM, hSM⟩ : ∃ SM, bs (Lib.decDigits m) = SM := ⟨_, rfl⟩
  obtain ⟨ST, hST⟩ : ∃ ST, bs (text p n m) = ST := ⟨_, rfl⟩
  rw [hST] at HT ⊢
  rw [hSN] at H1 HT l1
  rw [hSM] at HT l2
  have HSM := Lib.hid hSM
  clear hSN hSM hST
  have BA := Blk.new w 109 #[.bool p, .slice N nn cn, .bool q, .slice D (dl m).length cd]
  have hbA : Below w.heap.size w (w.alloc (.cells #[.bool p, .slice N nn cn, .bool q, .slice D (dl m).length cd] 109)) := (Below.refl _ _).alloc (Nat.le_refl _) _
  clear hnn
  by_cases h1 : m = 1
  ·subst h1
   rw [dl_one] at BA hbA ⊢
   simp only [List.length_nil] at BA hbA ⊢
   rw [if_pos rfl] at HT
   cases p with
   | false =>
     go_enter Tryz.func96, Tryz.ntmps96
     go_wp2_with (go_at_call 128; refine (H1.out _ hbA).mono ?_; rintro e w2 ⟨rfl, hb2⟩
                  have B2 := BA.keep hb2 BA.lt
                  obtain ⟨a0, a1, a2, a3, _, _, _, _⟩ := B2.four)
     go_ret
     refine ⟨?_, below_all hbA hb2⟩
     rw [HT.out, if_neg (by simp)]
     simp
   | true =>
     go_enter Tryz.func96, Tryz.ntmps96
     go_wp2_with (go_at_call 128; refine (H1.out _ hbA).mono ?_; rintro e w2 ⟨rfl, hb2⟩
                  have B2 := BA.keep hb2 BA.lt
                  obtain ⟨a0, a1, a2, a3, _, _, _, _⟩ := B2.four)
     go_ret
     refine ⟨?_, below_all hbA hb2⟩
     rw [HT.out, if_pos trivial]
     simp
  ·have H2 : Hid (∀ W, Below w.heap.size w W → Calls Tryz.prog 128 #[.agg #[.bool q, .slice D 1 cd]] W fun e w' => e = .returned (.string SM) ∧ Below W.heap.size W w') := Lib.hid (fun W h => by
    rw [dl_pos h1] at hD
    have := dig_any q D cd m W (hD.keep h) hm
    rw [mg_pos hm0, HSM.out] at this
    exact this)
   have hdl : (dl m).length = 1 := by rw [dl_pos h1, mg_pos hm0]; rfl
   rw [hdl] at BA hbA ⊢
   rw [if_neg h1] at HT
   clear hdl hD
   cases p with
   | false =>
     go_enter Tryz.func96, Tryz.ntmps96
     go_wp2_with (fail)
     refine (H1.out _ hbA).mono ?_
     rintro e w2 ⟨rfl, hb2⟩
     have B2 := BA.keep hb2 BA.lt
     obtain ⟨a0, a1, a2, a3, _, _, _, _⟩ := B2.four
     have hbz := below_all hbA hb2
     go_wp2_with (fail)
     refine (H2.out _ hbz).mono ?_
     rintro e w3 ⟨rfl, hb3⟩
     go_wp2_with (fail)
     go_ret
     refine ⟨?_, below_all hbz hb3⟩
     rw [HT.out, if_neg (by simp)]
     rfl
   | true =>
     go_enter Tryz.func96, Tryz.ntmps96
     go_wp2_with (fail)
     refine (H1.out _ hbA).mono ?_
     rintro e w2 ⟨rfl, hb2⟩
     have B2 := BA.keep hb2 BA.lt
     obtain ⟨a0, a1, a2, a3, _, _, _, _⟩ := B2.four
     have hbz := below_all hbA hb2
     go_wp2_with (fail)
     refine (H2.out _ hbz).mono ?_
     rintro e w3 ⟨rfl, hb3⟩
     go_wp2_with (fail)
     go_ret
     refine ⟨?_, below_all hbz hb3⟩
     rw [HT.out, if_pos trivial]
     rfl
end Go.Proofs.Tg
end
section
/- Plain: rational numbers, their texts, and bounds on their parts. -/
namespace Go.Rq
open Go.Qn Go.Proofs.Tg
/-- The canonical text. -/
def qtx (q : Rat) : ByteArray := bs (text (decide (q.num < 0)) q.num.natAbs q.den)
/-- Both parts have at most nine digits. -/
def Sh (q : Rat) : Prop := q.num.natAbs < 1000000000 ∧ q.den < 1000000000
/-- The parts of a fraction brought into lowest terms. -/
theorem mk_num (z : Int) (m : Nat) (h : m ≠ 0) : (mkRat z m).num.natAbs = z.natAbs / Nat.gcd z.natAbs m ∧ (mkRat z m).den = m / Nat.gcd z.natAbs m ∧ ((mkRat z m).num < 0 ↔ z < 0) := by
 have hg : 0 < Nat.gcd z.natAbs m := Nat.gcd_pos_of_pos_right _ (by omega)
 rw [Rat.num_mkRat, Rat.den_mkRat, if_neg h, if_neg h, Nat.gcd_comm m]
 have hd : ((Nat.gcd z.natAbs m : Nat) : Int) ∣ z := Int.ofNat_dvd_left.2 (Nat.gcd_dvd_left _ _)
 refine ⟨by rw [Int.natAbs_ediv_of_dvd hd, Int.natAbs_natCast], rfl, ?_⟩
 obtain ⟨c, hc⟩ := hd
 have hgI : (0 : Int) < ((Nat.gcd z.natAbs m : Nat) : Int) := by omega
 generalize hG : ((Nat.gcd z.natAbs m : Nat) : Int) = G at *
 rw [hc, Int.mul_ediv_cancel_left _ (by omega)]
 constructor
 ·intro h1; exact Int.mul_neg_of_pos_of_neg hgI h1
 ·intro h1
  rcases Int.lt_or_le c 0 with h2 | h2
  ·exact h2
  ·have := Int.mul_nonneg (Int.le_of_lt hgI) h2; omega
end Go.Rq
end
section
/- The library's contract of FormatInt, laid at this program (the laying was printed by the kit's own tool). -/
namespace Go.Proofs.Tg.Fi
open Go.Shelf
def fmtLay_ren : Go.Shelf.Ren := ⟨fun | 173 => 85 | 246 => 112 | 283 => 134 | 284 => 135 | 285 => 136 | 286 => 137 | 129 => 110 | 317 => 147 | 318 => 148 | 319 => 149 | 320 => 150 | 337 => 164 | 338 => 165 | n => n, fun | 2 => 2 | 3 => 3 | 9 => 9 | 4 => 4 | 171 => 173 | 0 => 0 | 53 => 125 | 37 => 175 | 5 => 5 | 173 => 176 | 212 => 194 | 51 => 123 | 20 => 20 | 213 => 195 | 46 => 99 | 232 => 215 | 233 => 216 | n => n, fun | 17 => 0 | 18 => 1 | 19 => 2 | n => n⟩
theorem fmtLay : Go.Proofs.LaysM.n173 Tryz.prog fmtLay_ren := {
  mixed := by kernel_rfl
  f129 := Tryz.func110.trans (congrArg some (by kernel_rfl))
  f173 := Tryz.func85.trans (congrArg some (by kernel_rfl))
  f246 := Tryz.func112.trans (congrArg some (by kernel_rfl))
  f283 := Tryz.func134.trans (congrArg some (by kernel_rfl))
  f284 := Tryz.func135.trans (congrArg some (by kernel_rfl))
  f285 := Tryz.func136.trans (congrArg some (by kernel_rfl))
  f286 := Tryz.func137.trans (congrArg some (by kernel_rfl))
  f317 := Tryz.func147.trans (congrArg some (by kernel_rfl))
  f318 := Tryz.func148.trans (congrArg some (by kernel_rfl))
  f319 := Tryz.func149.trans (congrArg some (by kernel_rfl))
  f320 := Tryz.func150.trans (congrArg some (by kernel_rfl))
  f337 := Tryz.func164.trans (congrArg some (by kernel_rfl))
  f338 := Tryz.func165.trans (congrArg some (by kernel_rfl))
  t0 := Tryz.underlying0
  a0 := Tryz.isAgg0
  z0 := Tryz.sizeOf0
  v0 := Tryz.zeroValue0
  t2 := Tryz.underlying2
  a2 := Tryz.isAgg2
  z2 := Tryz.sizeOf2
  v2 := Tryz.zeroValue2
  t3 := Tryz.underlying3
  a3 := Tryz.isAgg3
  z3 := Tryz.sizeOf3
  v3 := Tryz.zeroValue3
  t4 := Tryz.underlying4
  a4 := Tryz.isAgg4
  z4 := Tryz.sizeOf4
  v4 := Tryz.zeroValue4
  t5 := Tryz.underlying5
  a5 := Tryz.isAgg5
  z5 := Tryz.sizeOf5
  v5 := Tryz.zeroValue5
  t9 := Tryz.underlying9
  a9 := Tryz.isAgg9
  z9 := Tryz.sizeOf9
  v9 := Tryz.zeroValue9
  t20 := Tryz.underlying20
  a20 := Tryz.isAgg20
  z20 := Tryz.sizeOf20
  v20 := Tryz.zeroValue20
  t37 := Tryz.underlying175
  a37 := Tryz.isAgg175
  z37 := Tryz.sizeOf175
  v37 := Tryz.zeroValue175
  t46 := Tryz.underlying99
  a46 := Tryz.isAgg99
  z46 := Tryz.sizeOf99
  v46 := Tryz.zeroValue99
  t51 := Tryz.underlying123
  a51 := Tryz.isAgg123
  z51 := Tryz.sizeOf123
  v51 := Tryz.zeroValue123
  t53 := Tryz.underlying125
  a53 := Tryz.isAgg125
  z53 := Tryz.sizeOf125
  v53 := Tryz.zeroValue125
  t171 := Tryz.underlying173
  a171 := Tryz.isAgg173
  z171 := Tryz.sizeOf173
  v171 := Tryz.zeroValue173
  t173 := Tryz.underlying176
  a173 := Tryz.isAgg176
  z173 := Tryz.sizeOf176
  v173 := Tryz.zeroValue176
  t212 := Tryz.underlying194
  a212 := Tryz.isAgg194
  z212 := Tryz.sizeOf194
  v212 := Tryz.zeroValue194
  t213 := Tryz.underlying195
  a213 := Tryz.isAgg195
  z213 := Tryz.sizeOf195
  t232 := Tryz.underlying215
  a232 := Tryz.isAgg215
  z232 := Tryz.sizeOf215
  v232 := Tryz.zeroValue215
  t233 := Tryz.underlying216
  a233 := Tryz.isAgg216
  z233 := Tryz.sizeOf216
  v233 := Tryz.zeroValue216
  g17 := by kernel_rfl
  g18 := by kernel_rfl
  g19 := by kernel_rfl
  i0 := by kernel_rfl
  i2 := by kernel_rfl
  i3 := by kernel_rfl
  i4 := by kernel_rfl
  i5 := by kernel_rfl
  i9 := by kernel_rfl
  i20 := by kernel_rfl
  i37 := by kernel_rfl
  i46 := by kernel_rfl
  i51 := by kernel_rfl
  i53 := by kernel_rfl
  i171 := by kernel_rfl
  i173 := by kernel_rfl
  i212 := by kernel_rfl
  i232 := by kernel_rfl
  i233 := by kernel_rfl
  m17 := by kernel_rfl
  m18 := by kernel_rfl
  m19 := by kernel_rfl }
open Go.RowKit Go.Rq Go.Qn
/-- The library's table of powers of ten stands. -/
def PT (w : World) : Prop := Lib.TabIs Tryz.prog w "internal/strconv.uint64pow10" .u64 Lib.pow10Tab
theorem PT.keep {w w' : World} (h : PT w) (hb : Below w.heap.size w w') : PT w' := Lib.tabBelow_of_tabIs h w' hb
theorem fmti_any (n : Int) (h0 : -9223372036854775808 ≤ n) (h1 : n ≤ 9223372036854775807) (w : World) (ht : PT w) :
    Calls Tryz.prog 85 #[.int .i64 n, .int .i64 10] w fun e w' => e = .returned (.string (bs (Lib.itoa n))) ∧ Below w.heap.size w w' := by
  refine Calls.mono (Any.strconv_FormatInt_10 fmtLay n h0 h1 w ht) ?_
  rintro e w' ⟨rfl, k, os, rfl⟩
  exact ⟨rfl, Lib.below_grow _ w (Nat.le_refl _) k os⟩
end Go.Proofs.Tg.Fi
end
section
/- rational.FromInt of -1, 0 and 1. -/
namespace Go.Proofs.Tg.Bk
open Go.RowKit Go.Gr Go.Qn
set_option maxHeartbeats 4000000
set_option maxRecDepth 100000
/-- The text of a sign. -/
def tx (x : Int) : ByteArray := if x = 0 then ⟨#[48]⟩ else if x = 1 then ⟨#[49]⟩ else ⟨#[45, 49]⟩
/-- The library's table of powers of ten stands. -/
def PT (w : World) : Prop := Fi.PT w
theorem PT.keep {w w' : World} (h : PT w) (hb : Below w.heap.size w w') : PT w' := Fi.PT.keep h hb
theorem itoa_tx {x : Int} (hx : x = 0 ∨ x = 1 ∨ x = -1) : bs (Lib.itoa x) = tx x := by
 rcases hx with rfl | rfl | rfl <;> decide +kernel
theorem fmt_any (x : Int) (hx : x = 0 ∨ x = 1 ∨ x = -1) (w : World) (hT : PT w) : Calls Tryz.prog 85 #[.int .i64 x, .int .i64 10] w fun e w' => e = .returned (.string (tx x)) ∧ Below w.heap.size w w' := by
 rw [← itoa_tx hx]
 exact Fi.fmti_any x (by omega) (by omega) w hT
theorem fromint_any (x : Int) (hx : x = 0 ∨ x = 1 ∨ x = -1) (w : World) (hT : PT w) : Calls Tryz.prog 64 #[.int .i64 x] w fun e w' => e = .returned (.string (tx x)) ∧ Below w.heap.size w w' := by
 have H := Lib.hid (fmt_any x hx w hT)
 clear hx hT
 generalize tx x = s at *
 go_enter Tryz.func64, Tryz.ntmps64
 go_wp2_with (go_at_call 85; refine H.out.mono ?_; rintro e w1 ⟨rfl, hb1⟩)
 go_ret
 exact ⟨rfl, hb1⟩
end Go.Proofs.Tg.Bk
end
section
/- The frame of this seat's statements: what the reading of an argument says of memory, the listed table, the row's last step, the world of the witness. -/
namespace Go.Proofs.YtodjofbneeejpaaGreatDoor.Fr
open Go.ChangeShapes Go.WideShapes Go.ChangeAt Go.RowKit Go.Deep Go.Proofs.Tg Go.Gr
set_option maxRecDepth 100000
section
variable {H : Type} {enc : TypeId × Value → H} {W W' : World}
theorem trodAll_below (hl : laidOutB Tryz.prog = true) (hb : Below W.heap.size W W') : ∀ (ts : List TypeId) (vs : List Value) (ds : List (DataW H)) (ps : List MemPlace),
    (∀ t ∈ ts, Tryz.prog.readableRec t = true ∧ t < Tryz.prog.types.size) → DataW.TrodAll enc Tryz.prog W 0 (fun _ => true) true ts vs ds ps → (∀ x ∈ ps, x.block < W.heap.size) →
    DataW.TrodAll enc Tryz.prog W' 0 (fun b => decide (b < W.heap.size)) true ts vs ds ps
  | [], [], [], ps, _, h, _ => h
  | t :: ts, v :: vs, d :: ds, ps, ht, ⟨p, q, h1, h2, e⟩, hp => by
    subst e
    exact ⟨p, q, Below.trod hl (ht t (by simp)).1 (ht t (by simp)).2 h1 hb (fun x hx => hp x (by simp [hx])), trodAll_below hl hb ts vs ds q (fun t h => ht t (by simp [h])) h2 (fun x hx => hp x (by simp [hx])), rfl⟩
theorem band {a b : Bool} (h : a = true) (k : b = true) : (a && b) = true := by rw [h, k]; rfl
theorem laidOut : laidOutB Tryz.prog = true := by kernel_rfl
/-- A law that returned true and made new memory alone meets its row. -/
theorem post_law {f : Func} {s : ChangeSpec} {args : Array Value} {ds gs : List (DataW H)} {before : List MemPlace}
    (hW : DataW.Whole enc Tryz.prog f.params.toList s.vars false W args.toList ds gs before) (hv : s.vars = []) (hf : f.resultTypes = #[4])
    (hr : (s.fn H (ds ++ gs)).results = [.lit (.bool true)]) (ha : (s.fn H (ds ++ gs)).args = ds) (hg : (s.fn H (ds ++ gs)).vars = [])
    (hp : ∀ t ∈ f.params.toList, Tryz.prog.readableRec t = true ∧ t < Tryz.prog.types.size) (hb : Below W.heap.size W W') :
    s.post enc Tryz.prog f false true false false W args (.bool true) W' := by
  have hlt := hW.lt
  have hW2 := hW
  obtain ⟨p, q, hA, hV, hps, hz, hn⟩ := hW2
  rw [hv] at hV
  obtain ⟨rfl, rfl⟩ := trodVars_none hV
  rw [List.append_nil] at hps
  subst hps
  refine ⟨ds, [], before, [], before, [], hW, ?_, ?_, ?_, World.keptBut_mono (fun x hx => ⟨hx, .inr (.inl hx)⟩) (hb.frame (· ∈ before)), fun h => by cases h⟩
  ·rw [hr, hf]
   exact trodAll_cons_mk (shut_bool Tryz.underlying4 _) trodAll_mk0
  ·rw [ha]
   exact trodAll_below laidOut hb _ _ _ _ hp hA hlt
  ·rw [hv, hg]; rfl
theorem gPow : Tryz.prog.globalNamed "internal/strconv.uint64pow10" = some 0 := by kernel_rfl
theorem gPowType : (Tryz.prog.globals[0]?).map (·.type) = some 194 := by kernel_rfl
theorem cellsPow : Tryz.prog.cellsOf 194 = 20 := by kernel_rfl
theorem cellsU64 : Tryz.prog.cellsOf 125 = 1 := by kernel_rfl
theorem cellsRow : Tryz.prog.cellsOf 22 = 1 := by kernel_rfl
theorem cellsInt : Tryz.prog.cellsOf 3 = 1 := by kernel_rfl
theorem pow_data : (Rows.laid_internal_strconv_uint64pow10 : DataW Unit) = Lib.tabData .u64 Lib.pow10Tab := by kernel_rfl
def bruZ : List Int := Lib.deBruijn64tab.map fun x : Nat => (x : Int)
def bru32Z : List Int := Lib.deBruijn32tab.map fun x : Nat => (x : Int)
/-- What the row's list gives: the first of the powers of ten. -/
theorem pow_of (h : laidMetH Tryz.prog [("math/bits.deBruijn32tab", Rows.laid_math_bits_deBruijn32tab), ("math/bits.deBruijn64tab", Rows.laid_math_bits_deBruijn64tab), ("internal/strconv.uint64pow10", Rows.laid_internal_strconv_uint64pow10)] W) : Bk.PT W := by
 have h2 := h.filter (fun x => x.1 == "internal/strconv.uint64pow10")
 have e : ([("math/bits.deBruijn32tab", Rows.laid_math_bits_deBruijn32tab), ("math/bits.deBruijn64tab", Rows.laid_math_bits_deBruijn64tab), ("internal/strconv.uint64pow10", Rows.laid_internal_strconv_uint64pow10)] : List (String × DataW Unit)).filter (fun x => x.1 == "internal/strconv.uint64pow10") = [("internal/strconv.uint64pow10", Rows.laid_internal_strconv_uint64pow10)] := by rfl
 rw [e, pow_data] at h2
 exact Lib.tabIs_of_head (rest := []) gPow gPowType Tryz.underlying194 Tryz.underlying125 cellsU64 cellsPow h2
/-- A slice of numbers, opened. -/
theorem open_nums {v : Value} {d : DataW H} {ps : List MemPlace} {b0 : Nat} (hval : Value.okWide Tryz.prog W .any b0 22 v) (h : DataW.Trod enc Tryz.prog W 0 (fun _ => true) true 22 v d ps) :
    ∃ A xs c, v = .slice A xs.length c ∧ Ints W A xs := by
  obtain ⟨V, len, cap, rfl⟩ := okWide_slice Tryz.underlying22 hval
  obtain ⟨fuel, h⟩ := h
  have hcs : (Value.slice V len cap).cells.toList = [.slice V len cap] := by simp [Value.cells]
  rw [hcs] at h
  rcases open_ints Tryz.underlying22 Tryz.underlying3 cellsInt h with ⟨h1, _⟩ | ⟨a, l, c, zs, h1, _, hl, hm, hz, _, hx, _⟩
  ·injection h1 with h1
   injection h1 with e1 e2 e3
   subst e1 e2 e3
   exact ⟨none, [], 0, rfl, Sl.nil _ _ _⟩
  ·injection h1 with h1
   injection h1 with e1 e2 e3
   subst e1 e2 e3
   simp only [if_true] at hz
   have hlen : (zs.take len).length = len := by rw [List.length_take]; omega
   refine ⟨some a, zs.take len, cap, by rw [hlen], by simp, fun hn => ⟨a, rfl, ?_, ?_⟩⟩
   ·rw [hlen] at hn
    exact World.block_lt_of_cell? W _ (hx 0 (by omega))
   ·intro j u hu
    have hj : j < len := by
     have := (List.getElem?_eq_some_iff.1 hu).1
     rw [List.length_map, hlen] at this
     exact this
    have e : u = .int .i64 (zs.getD j 0) := by
     rw [List.getElem?_map, List.getElem?_take, if_pos hj] at hu
     simp only [List.getElem?_eq_getElem (show j < zs.length by omega), Option.map_some] at hu
     injection hu with hu
     rw [← hu]
     simp [vi, show j < zs.length by omega]
    rw [e]
    exact hx j (by omega)
/-- A slice of slices of numbers, opened. -/
theorem open_lists {v : Value} {d : DataW H} {ps : List MemPlace} {b0 : Nat} (hval : Value.okWide Tryz.prog W .any b0 23 v) (h : DataW.Trod enc Tryz.prog W 0 (fun _ => true) true 23 v d ps) :
    ∃ V ls c, v = .slice V ls.length c ∧ Lists W V ls ∧ ls.length ≤ maxLen ∧ ∀ l ∈ ls, l.length ≤ maxLen := by
  obtain ⟨V, len, cap, rfl⟩ := okWide_slice Tryz.underlying23 hval
  obtain ⟨fuel, h⟩ := h
  have hcs : (Value.slice V len cap).cells.toList = [.slice V len cap] := by simp [Value.cells]
  rw [hcs] at h
  rcases open_int_rows Tryz.underlying23 Tryz.underlying22 Tryz.underlying3 cellsRow cellsInt h with ⟨h1, _⟩ | ⟨a, l, c, A, L, C, Z, h1, _, hl, hml, _, hx⟩
  ·injection h1 with h1
   injection h1 with e1 e2 e3
   subst e1 e2 e3
   exact ⟨none, [], 0, rfl, ⟨fun _ => (none, 0), Sl.nil _ _ _, fun i hi => by simp at hi⟩, by simp, by simp⟩
  ·injection h1 with h1
   injection h1 with e1 e2 e3
   subst e1 e2 e3
   have hz : ∀ i, i < len → ((Z i).take (L i)).length = L i := by
    intro i hi
    obtain ⟨_, h2, _, h4, _⟩ := hx i (by omega)
    rw [List.length_take]; omega
   have hg : ∀ i, i < len → ((List.range len).map fun i => (Z i).take (L i)).getD i [] = (Z i).take (L i) := by
    intro i hi; simp [hi]
   refine ⟨some a, (List.range len).map fun i => (Z i).take (L i), cap, by simp, ⟨fun i => (A i, C i), ?_, ?_⟩, by simp; omega, ?_⟩
   ·refine ⟨by simp, fun hn => ⟨a, rfl, ?_, ?_⟩⟩
    ·have hn' : 0 < len := by simpa using hn
     have := (hx 0 (by omega)).1
     exact World.block_lt_of_cell? W _ this
    ·intro j u hu
     have hj : j < len := by
      have := (List.getElem?_eq_some_iff.1 hu).1
      simpa using this
     have e : u = .slice (A j) (L j) (C j) := by
      rw [List.getElem?_map, List.getElem?_range (by simpa using hj)] at hu
      simp only [Option.map_some] at hu
      injection hu with hu
      rw [← hu, hg j hj, hz j hj]
     rw [e]
     exact (hx j (by omega)).1
   ·intro i hi
    have hi' : i < len := by simpa using hi
    rw [hg i hi']
    obtain ⟨h1, h2, h3, h4, h5, h6, h7⟩ := hx i (by omega)
    refine ⟨by simp, fun hn => ?_⟩
    rw [hz i hi'] at hn
    have hA : ∃ a', A i = some a' := by
     cases hA : A i with
     | none => have := h6 hA; omega
     | some a' => exact ⟨a', rfl⟩
    obtain ⟨a', hA⟩ := hA
    obtain ⟨_, hc⟩ := h7 a' hA
    refine ⟨a', hA, World.block_lt_of_cell? W _ (hc 0 (by omega)), ?_⟩
    intro j u hu
    have hj : j < L i := by
     have := (List.getElem?_eq_some_iff.1 hu).1
     rw [List.length_map, hz i hi'] at this
     exact this
    have e : u = .int .i64 ((Z i).getD j 0) := by
     rw [List.getElem?_map, List.getElem?_take, if_pos hj] at hu
     simp only [List.getElem?_eq_getElem (show j < (Z i).length by omega), Option.map_some] at hu
     injection hu with hu
     rw [← hu]
     simp [vi, show j < (Z i).length by omega]
    rw [e]
    exact hc j (by omega)
   ·intro l hl2
    obtain ⟨i, hi, rfl⟩ := List.mem_map.1 hl2
    have hi' : i < len := by simpa using hi
    obtain ⟨h1, h2, h3, _⟩ := hx i (by omega)
    rw [hz i hi']; omega
end
/-- The world of the witness: the settled one, the tables holding what their initialisers lay. -/
def layT (k : IntKind) (zs : List Int) : Obj → Obj
  | .cells _ t frozen => .cells (zs.map fun z => Value.int k z).toArray t frozen
  | o => o
noncomputable def laidWorld (os : Os) : World :=
  { World.holding Tryz.prog os ⟨#[], #[], []⟩ with heap := (((World.holding Tryz.prog os ⟨#[], #[], []⟩).heap.modify 0 (layT .u64 Lib.pow10Tab)).modify 1 (layT .u8 bru32Z)).modify 2 (layT .u8 bruZ) }
theorem own : ownKnob Tryz.prog.godebug = none := by kernel_rfl
end Go.Proofs.YtodjofbneeejpaaGreatDoor.Fr
end
section
/- The built-in copy of at most six numbers into an array at a block's head. -/
namespace Go.Proofs.Tg
open Go.RowKit
theorem int_sz : (Tryz.prog.info? 3).map (·.size) = some 1 := by kernel_rfl
/-- Another world that differs in block g alone. -/
structure But (g : Nat) (W W' : World) : Prop where
  below : ∀ (B : Nat) (w0 : World), Below B w0 W → B ≤ g → Below B w0 W'
  blk : ∀ (g' : Nat) (t : TypeId) (cs : Array Value), g' ≠ g → Blk W g' t cs → Blk W' g' t cs
theorem wpList_copy6 {ops : Array Oper} {rest : List Oper} {o : Oper} {a : Act} {Q : Exit → Act → World → Prop} {W : World} (hgd : o.guard = none) (d s : Operand)
    (ho : o.op = .call { callee := .builtin .copy, args := #[d, s], argTypes := #[22, 22] }) (g : Nat) (t : TypeId) (A : Option Addr) (c : Nat) (el : List Int) (z : List Value)
    (hd : a.eval d = .slice (some ⟨g, 0, none⟩) 6 6) (hs : a.eval s = .slice A el.length c) (hA : Ints W A el) (hl : el.length ≤ 6)
    (hB : Blk W g t ([Value.int .i64 0, Value.int .i64 0, Value.int .i64 0, Value.int .i64 0, Value.int .i64 0, Value.int .i64 0] ++ z).toArray)
    (h : ∀ W', Blk W' g t ([Value.int .i64 (el.getD 0 0), Value.int .i64 (el.getD 1 0), Value.int .i64 (el.getD 2 0), Value.int .i64 (el.getD 3 0), Value.int .i64 (el.getD 4 0), Value.int .i64 (el.getD 5 0)] ++ z).toArray → But g W W' → wpList Tryz.prog ops Q rest (a.put o.dst (goInt el.length)) W') :
    wpList Tryz.prog ops Q (o :: rest) a W := by
  by_cases h0 : el = []
  ·subst h0
   refine wpList_plain hgd fun K hK => ?_
   have hrun := run_copy_none (P := Tryz.prog) W 22 22 o.type 3 (some ⟨g, 0, none⟩) A 6 6 0 c Tryz.underlying22 int_sz rfl
   have hs' : a.eval s = .slice A 0 c := hs
   unfold Oper.wp
   simp [execOp, ho, resolve, invoke, builtin, hd, hs', hrun, Result.andThen]
   exact hK _ _ (h W hB ⟨fun _ _ h _ => h, fun _ _ _ _ h => h⟩)
  ·have hp : 0 < el.length := List.length_pos_iff.2 h0
   obtain ⟨ad, rfl, _, hc⟩ := hA.lies hp
   refine wpList_copy_own hgd d s 22 22 ho 3 Tryz.underlying22 int_sz g 0 6 6 ad el.length c hd hs _ t hB (el.map vi) (by rw [List.length_map]; exact (Nat.min_eq_left hl).symm) hc (by simp; omega) (by simp [vi, Value.oneCell']) ?_
   have key : (([Value.int .i64 0, Value.int .i64 0, Value.int .i64 0, Value.int .i64 0, Value.int .i64 0, Value.int .i64 0] ++ z).toArray.toList.take 0 ++ (el.map vi ++ ([Value.int .i64 0, Value.int .i64 0, Value.int .i64 0, Value.int .i64 0, Value.int .i64 0, Value.int .i64 0] ++ z).toArray.toList.drop (0 + (el.map vi).length))).toArray
       = ([Value.int .i64 (el.getD 0 0), Value.int .i64 (el.getD 1 0), Value.int .i64 (el.getD 2 0), Value.int .i64 (el.getD 3 0), Value.int .i64 (el.getD 4 0), Value.int .i64 (el.getD 5 0)] ++ z).toArray := by
     match el, hl with
     | [], _ => exact absurd rfl h0
     | [_], _ => simp [vi]
     | [_, _], _ => simp [vi]
     | [_, _, _], _ => simp [vi]
     | [_, _, _, _], _ => simp [vi]
     | [_, _, _, _, _], _ => simp [vi]
     | [_, _, _, _, _, _], _ => simp [vi]
     | _ :: _ :: _ :: _ :: _ :: _ :: _ :: l, hl => simp at hl
   rw [key]
   have hlen : (goInt ((el.map vi).length)) = goInt el.length := by simp
   rw [hlen]
   refine h _ ?_ ⟨fun B w0 hb hg => below_setRow hb hg _, fun g' t' cs hne hb => ?_⟩
   ·exact setRow_heap W g _ _ t _ hB
   ·exact (setRow_other W g g' _ hne).trans hb
end Go.Proofs.Tg
end
section
/- A map to bools that the call itself has made, as a set of keys: the look-up, the store. -/
namespace Go.Proofs.Tg
open Go.RowKit Go.Maps Go.WideShapes
theorem plainElem_bool_inv {H : Type} {P : Program} {e : TypeId} (he : P.underlying e = some .bool) {v : Value} {z : DataW H × List MemPlace} (h : plainElem P e v = some z) : ∃ a, v = .bool a ∧ z = (.lit (.bool a), []) := by
 unfold plainElem at h
 rw [he] at h
 cases v <;> simp at h
 exact ⟨_, rfl, h.symm⟩
end Go.Proofs.Tg
end
section
/- What an array of six numbers reads as where it is the key of a map. -/
namespace Go.Proofs.Tg
open Go.RowKit Go.Maps Go.WideShapes
/-- The literal of a key. -/
def kl6 (l : List Int) : Lit := .string (keyBytes (l.map fun x => Lit.int .i64 x))
theorem wf_small {x : Int} (h : -1000000 ≤ x ∧ x ≤ 1000000) : (Lit.int .i64 x).wf = true := by
 have e1 : IntKind.i64.min = -9223372036854775808 := rfl
 have e2 : IntKind.i64.max = 9223372036854775807 := rfl
 simp only [Lit.wf, Bool.and_eq_true, decide_eq_true_eq]
 omega
theorem keyOf_six {P : Program} {T I : TypeId} (hT : P.underlying T = some (.array 6 I)) (hI : P.underlying I = some (.int .i64)) (hk : P.keyType T = true) (c1 : P.cellsOf I = 1) (c6 : P.cellsOf T = 6) {s : Nat} (hs : P.types.size = s + 1)
    (l : List Int) (hl : l.length = 6) (hw : ∀ x ∈ l, -1000000 ≤ x ∧ x ≤ 1000000) : keyOf P T (.agg (l.map fun x => Value.int .i64 x).toArray) = some (kl6 l) := by
  match l, hl with
  | [a, b, c, d, e, f], _ =>
    have ha := wf_small (hw a (by simp))
    have hb := wf_small (hw b (by simp))
    have hc := wf_small (hw c (by simp))
    have hd := wf_small (hw d (by simp))
    have he := wf_small (hw e (by simp))
    have hf := wf_small (hw f (by simp))
    have hr : List.range 6 = [0, 1, 2, 3, 4, 5] := rfl
    unfold keyOf
    simp [hT, hk, Value.formed, c6, Value.cells, hs, Program.keyLits, hI, c1, hr, ha, hb, hc, hd, he, hf, kl6]
end Go.Proofs.Tg
end
section
/- Partitions made vertex by vertex from an equivalence, and a coarser one: plain. -/
namespace Go.Sp
open Classical
structure Eqv (C : Nat → Nat → Prop) : Prop where
  refl : ∀ a, C a a
  symm : ∀ a b, C a b → C b a
  trans : ∀ a b c, C a b → C b c → C a c
inductive MadeR (C : Nat → Nat → Prop) : Nat → List (List Int) → Prop
  | zero : MadeR C 0 []
  | skip {k : Nat} {ls : List (List Int)} : MadeR C k ls → (∃ l ∈ ls, (k : Int) ∈ l) → MadeR C (k + 1) ls
  | add {k : Nat} {ls : List (List Int)} {l : List Int} : MadeR C k ls → (∀ m ∈ ls, (k : Int) ∉ m) → l.Pairwise (· < ·) → (∀ x : Int, x ∈ l ↔ ∃ v : Nat, x = v ∧ C k v) → MadeR C (k + 1) (ls ++ [l])
section
variable {C C' : Nat → Nat → Prop} {n : Nat} {ls ms : List (List Int)}
end
end Go.Sp
end
section
/- Rounds of coarser and coarser partitions; the first round behind which nothing changes: plain. -/
namespace Go.Sp
structure Rounds (N : Nat) where
  C : Nat → Nat → Nat → Prop
  B : Nat → List (List Int)
  eqv : ∀ t, Eqv (C t)
  mono : ∀ t a b, C t a b → C (t + 1) a b
  lt : ∀ t a b, a < N → C t a b → b < N
  made : ∀ t, MadeR (C t) N (B t)
section
variable {N : Nat} (R : Rounds N)
end
end Go.Sp
end
section
/- Keys of monomials, edges that a set of monomials makes: plain. -/
namespace Go.Sp
open Go
/-- A monomial as a key: six numbers. -/
def kv (m : List Int) : List Int := (List.range 6).map fun i => m.getD i 0
theorem kv_len (m : List Int) : (kv m).length = 6 := by simp [kv]
theorem kv_at (m : List Int) {i : Nat} (h : i < 6) : (kv m)[i]? = some (m.getD i 0) := by simp [kv, h]
theorem kv_inj {a b : List Int} (hl : a.length = b.length) (h6 : a.length ≤ 6) (h : kv a = kv b) : a = b := by
 refine List.ext_getElem hl fun i h1 h2 => ?_
 have e : (kv a)[i]? = (kv b)[i]? := by rw [h]
 rw [kv_at a (by omega), kv_at b (by omega)] at e
 simpa [h1, h2] using e
theorem kv_bound {m : List Int} {c : Int} (hc : 0 ≤ c) (h : ∀ x ∈ m, 0 ≤ x ∧ x ≤ c) : ∀ x ∈ kv m, 0 ≤ x ∧ x ≤ c := by
 intro x hx
 obtain ⟨i, _, rfl⟩ := List.mem_map.1 hx
 by_cases hi : i < m.length
 ·rw [List.getD_eq_getElem?_getD, List.getElem?_eq_getElem hi, Option.getD_some]; exact h _ (List.getElem_mem _)
 ·rw [List.getD_eq_getElem?_getD, List.getElem?_eq_none (by omega)]; exact ⟨Int.le_refl _, hc⟩
end Go.Sp
end
