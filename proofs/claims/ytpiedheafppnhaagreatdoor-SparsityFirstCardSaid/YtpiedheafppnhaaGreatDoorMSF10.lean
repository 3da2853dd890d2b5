/- Parts of the proof: QV1, WS1, WS2, WI1, G1, WI2, WI3. -/
import Derived.Test.YtpiedheafppnhaaGreatDoorProg
import Derived.WalkKit
import Derived.WalkSpells
import Derived.WalkLawsBesides
import Derived.Deep.QuietTactic
import Derived.BigQuiet
import Derived.Lib.Hide
import Derived.Lib.Strings
import Derived.Lib.IndexBytes
import Derived.Outline
import Derived.RegionTactic
import Derived.ChangeAlike
import Derived.OwnWalk
import Derived.Lib.TrailingZeros
import Derived.StillTailTactics
import Derived.Deep.RegionHeld3
import Derived.Test.YtpiedheafppnhaaGreatDoorMSF0
import Derived.Test.YtpiedheafppnhaaGreatDoorMSF1
import Derived.Test.YtpiedheafppnhaaGreatDoorMSF4
import Derived.Test.YtpiedheafppnhaaGreatDoorMSF9
section
/- The pairs of variables that occur together: join. -/
namespace Go.Proofs.Tg.Sx
open Go.RowKit Go.Gr Go.Sp Go.Ev Go.Mo
set_option maxHeartbeats 4000000
set_option maxRecDepth 100000
/-- The cells of a table of six rows of six. -/
def jarr (J : Nat → Nat → Bool) : Array Value := Gx.farr 36 fun q => .bool (J (q / 6) (q % 6))
theorem jarr_at (J : Nat → Nat → Bool) {i j : Nat} (hi : i < 6) (hj : j < 6) : (jarr J)[i * 6 + j]? = some (.bool (J i j)) := by
  unfold jarr
  rw [Gx.farr_at _ _ (by omega), show (i * 6 + j) / 6 = i by omega, show (i * 6 + j) % 6 = j by omega]
theorem jarr_set (J : Nat → Nat → Bool) {i j : Nat} (_hi : i < 6) (hj : j < 6) : (jarr J).setIfInBounds (i * 6 + j) (.bool true) = jarr (setT J i j) := by
  unfold jarr
  rw [Gx.farr_set]
  refine Gx.farr_congr (fun q hq => ?_)
  unfold setT
  by_cases h : q = i * 6 + j
  · subst h
    rw [if_pos rfl, if_pos ⟨by omega, by omega⟩]
  · rw [if_neg h, if_neg (fun hc => h (by omega))]
theorem jarr_zero : jarr (fun _ _ => false) = (List.replicate 36 (Value.bool false)).toArray := rfl
/-- Row i and those ahead, row i up to column j: the pairs that the exponents mark. -/
def jTo (J : Nat → Nat → Bool) (xs : List Int) (i j x y : Nat) : Bool := J x y || decide (x < y ∧ y < 6 ∧ (x < i ∨ (x = i ∧ y < j)) ∧ 0 < xs.getD x 0 ∧ 0 < xs.getD y 0)
theorem jTo_zero (J : Nat → Nat → Bool) (xs : List Int) : jTo J xs 0 0 = J := by
  funext x y
  unfold jTo
  rw [decide_eq_false (fun h => by omega), Bool.or_false]
theorem jTo_low (J : Nat → Nat → Bool) (xs : List Int) (i : Nat) : jTo J xs i (i + 1) = jTo J xs i 0 := by
  funext x y
  unfold jTo
  congr 1
  rw [decide_eq_decide]
  constructor
  · rintro ⟨h1, h2, h3, h4⟩; exact ⟨h1, h2, by omega, h4⟩
  · rintro ⟨h1, h2, h3, h4⟩; exact ⟨h1, h2, by omega, h4⟩
theorem jTo_row (J : Nat → Nat → Bool) (xs : List Int) (i : Nat) : jTo J xs i 6 = jTo J xs (i + 1) 0 := by
  funext x y
  unfold jTo
  congr 1
  rw [decide_eq_decide]
  constructor
  · rintro ⟨h1, h2, h3, h4⟩; exact ⟨h1, h2, by omega, h4⟩
  · rintro ⟨h1, h2, h3, h4⟩; exact ⟨h1, h2, by omega, h4⟩
theorem jTo_no (J : Nat → Nat → Bool) (xs : List Int) {i j : Nat} (h : ¬ (0 < xs.getD i 0 ∧ 0 < xs.getD j 0)) : jTo J xs i (j + 1) = jTo J xs i j := by
  funext x y
  unfold jTo
  congr 1
  rw [decide_eq_decide]
  constructor
  · rintro ⟨h1, h2, h3, h4⟩
    refine ⟨h1, h2, ?_, h4⟩
    by_cases he : x = i ∧ y = j
    · obtain ⟨rfl, rfl⟩ := he; exact absurd h4 h
    · omega
  · rintro ⟨h1, h2, h3, h4⟩; exact ⟨h1, h2, by omega, h4⟩
theorem jTo_yes (J : Nat → Nat → Bool) (xs : List Int) {i j : Nat} (hij : i < j) (hj : j < 6) (h : 0 < xs.getD i 0 ∧ 0 < xs.getD j 0) : jTo J xs i (j + 1) = setT (jTo J xs i j) i j := by
  funext x y
  unfold setT jTo
  by_cases he : x = i ∧ y = j
  · obtain ⟨rfl, rfl⟩ := he
    rw [if_pos ⟨rfl, rfl⟩, decide_eq_true (⟨hij, hj, by omega, h⟩ : x < y ∧ y < 6 ∧ (x < x ∨ (x = x ∧ y < y + 1)) ∧ 0 < xs.getD x 0 ∧ 0 < xs.getD y 0), Bool.or_true]
  · rw [if_neg he]
    congr 1
    rw [decide_eq_decide]
    constructor
    · rintro ⟨h1, h2, h3, h4⟩; exact ⟨h1, h2, by omega, h4⟩
    · rintro ⟨h1, h2, h3, h4⟩; exact ⟨h1, h2, by omega, h4⟩
theorem key_index (xs : List Int) (hl : xs.length = 6) (i : Nat) (hi : i < 6) (w : World) : (Instr.index 89 (.agg (iarr xs)) (.int .i64 (i : Int))).run Tryz.prog w = .ok (.int .i64 (xs.getD i 0)) w := by
  have h1 : (iarr xs)[i]? = some (.int .i64 (xs.getD i 0)) := by rw [iarr_at xs (by omega)]; simp [show i < xs.length by omega]
  simp [Instr.index, run_underlying Tryz.underlying89, asIntOf]
  rw [if_pos hi]
  exact run_part_plain w (by kernel_rfl) h1
end Go.Proofs.Tg.Sx
end
section
/- Walks: cutting a sign and digits off a text. -/
namespace Go.Proofs.Tg
open Go.RowKit Go.Qn
set_option maxHeartbeats 400000
def bs (l : List UInt8) : ByteArray := ⟨l.toArray⟩
theorem bs_self (s : ByteArray) : bs s.data.toList = s := by cases s; rfl
theorem bs_data (l : List UInt8) : (bs l).data.toList = l := rfl
theorem bs_size (l : List UInt8) : (bs l).size = l.length := by show l.toArray.size = _; simp
theorem ext_bs (s : ByteArray) (a b : Nat) : s.extract a b = bs ((s.data.toList.drop a).take (b - a)) := by rw [← bs_self (s.extract a b), Lib.extract_data]
theorem ext_end (s : ByteArray) (a : Nat) : s.extract a s.size = bs (s.data.toList.drop a) := by rw [← bs_self (s.extract a s.size), Lib.extract_to_end]
theorem len_size (s : ByteArray) : s.data.toList.length = s.size := by rw [Array.length_toList]; rfl
theorem hasp_any (s : ByteArray) (w : World) (hs : s.size ≤ 64) :
    Calls Tryz.prog 112 #[.string s, .string ⟨#[45]⟩] w fun e w' => e = .returned (.bool (decide (s.data.toList.head? = some 45))) ∧ w = w' := by
  go_enter Tryz.func112, Tryz.ntmps112
  go_wp2
  · have h1 : 1 ≤ (s.size : Int) := by assumption
    go_ret
    refine ⟨?_, rfl⟩
    show Ending.returned (.bool ((s.extract 0 1).toList == [45])) = _
    rw [Lib.toList_data, Lib.extract_data]
    have hl := len_size s
    congr 2
    cases hd : s.data.toList with
    | nil => rw [hd] at hl; simp at hl; omega
    | cons c t => by_cases hc : c = 45 <;> simp [hc]
  · have h1 : (s.size : Int) < 1 := by assumption
    go_ret
    refine ⟨?_, rfl⟩
    have hl := len_size s
    have : s.data.toList = [] := List.eq_nil_of_length_eq_zero (by omega)
    rw [this]; rfl
theorem hasp_t (s : ByteArray) (w : World) (hs : s.size ≤ 64) (h : s.data.toList.head? = some 45) :
    Calls Tryz.prog 112 #[.string s, .string ⟨#[45]⟩] w fun e w' => e = .returned (.bool true) ∧ w = w' :=
  (hasp_any s w hs).mono fun e w' ⟨h1, h2⟩ => ⟨by rw [h1, decide_eq_true h], h2⟩
theorem hasp_f (s : ByteArray) (w : World) (hs : s.size ≤ 64) (h : s.data.toList.head? ≠ some 45) :
    Calls Tryz.prog 112 #[.string s, .string ⟨#[45]⟩] w fun e w' => e = .returned (.bool false) ∧ w = w' :=
  (hasp_any s w hs).mono fun e w' ⟨h1, h2⟩ => ⟨by rw [h1, decide_eq_false h], h2⟩
theorem cutl_any (s : ByteArray) (w : World) (hs : s.size ≤ 64) :
    Calls Tryz.prog 100 #[.string s, .string ⟨#[45]⟩] w fun e w' => e = .returned (.tuple #[.string (bs (cut s.data.toList).2), .bool (cut s.data.toList).1]) ∧ w = w' := by
  by_cases h : s.data.toList.head? = some 45
  · have h1 : 1 ≤ (s.size : Int) := by
      have hl := len_size s
      cases hd : s.data.toList with
      | nil => rw [hd] at h; cases h
      | cons c t => rw [hd] at hl; simp at hl; omega
    have H := Lib.hid h
    clear h
    go_enter Tryz.func100, Tryz.ntmps100
    go_wp2_with (go_at_call 112; refine (hasp_t _ _ hs H.out).mono ?_; rintro e w' ⟨rfl, rfl⟩)
    go_ret2
    refine ⟨?_, rfl⟩
    have H := H.out
    show Ending.returned (.tuple #[.string (s.extract 1 s.size), .bool true]) = _
    rw [ext_end]
    unfold cut
    rw [if_pos H]; simp
  · have H := Lib.hid h
    clear h
    go_enter Tryz.func100, Tryz.ntmps100
    go_wp2_with (go_at_call 112; refine (hasp_f _ _ hs H.out).mono ?_; rintro e w' ⟨rfl, rfl⟩)
    go_ret2
    refine ⟨?_, rfl⟩
    have H := H.out
    show Ending.returned (.tuple #[.string s, .bool false]) = _
    unfold cut
    rw [if_neg H, bs_self]
theorem cutp_any (s : ByteArray) (w : World) (hs : s.size ≤ 64) :
    Calls Tryz.prog 95 #[.string s, .string ⟨#[45]⟩] w fun e w' => e = .returned (.tuple #[.string (bs (cut s.data.toList).2), .bool (cut s.data.toList).1]) ∧ w = w' := by
  go_enter Tryz.func95, Tryz.ntmps95
  go_wp2_with (go_at_call 100; refine (cutl_any _ _ hs).mono ?_; rintro e w' ⟨rfl, rfl⟩)
  go_ret2
  exact ⟨rfl, rfl⟩
theorem tw_at {p : UInt8 → Bool} (l : List UInt8) (k : Nat) (h : ∀ c ∈ l.take k, p c = true) (hx : l.length ≤ k ∨ ∃ h : k < l.length, p l[k] = false) : l.takeWhile p = l.take k ∧ l.dropWhile p = l.drop k := by
  have := tw_app (p := p) (l.take k) (l.drop k) h (by
    rcases hx with hx | ⟨hk, hx⟩
    · left; rw [List.drop_eq_nil_iff]; exact hx
    · right; exact ⟨l[k], l.drop (k + 1), by rw [List.drop_eq_getElem_cons hk], hx⟩)
  rwa [List.take_append_drop] at this
theorem isD_int {c : UInt8} (h : isD c = true) : (48 : Int) ≤ (c.toNat : Int) ∧ (c.toNat : Int) ≤ 57 := by rw [isD_iff] at h; omega
set_option maxHeartbeats 1000000 in
theorem digits_any (s : ByteArray) (w : World) (hs : s.size ≤ 64) :
    Calls Tryz.prog 96 #[.string s] w fun e w' => e = .returned (.tuple #[.string (bs (s.data.toList.takeWhile isD)), .string (bs (s.data.toList.dropWhile isD))]) ∧ Below w.heap.size w w' := by
  go_enter Tryz.func96, Tryz.ntmps96
  go_wp2
  go_loop [4] (fun i => ∃ k : Nat, k ≤ s.size ∧ i = .int .i64 k ∧ Hid (∀ c ∈ s.data.toList.take k, isD c = true)) (fun i => s.size - (intOf i).toNat)
  case atStart => exact ⟨0, Nat.zero_le _, rfl, Lib.hid (by simp)⟩
  case round =>
    obtain ⟨k, hk, rfl, HD⟩ := hrel
    have hl := Lib.hid (len_size s)
    by_cases hlt : k < s.size
    · by_cases hc : isD s[k] = true
      · obtain ⟨c1, c2⟩ := isD_int hc
        have d1 : decide ((48 : Int) ≤ (s[k].toNat : Int)) = true := by simpa using c1
        have d2 : decide ((s[k].toNat : Int) ≤ 57) = true := by simpa using c2
        have HD' : Hid (∀ c ∈ s.data.toList.take (k + 1), isD c = true) := Lib.hid (by
          intro c hc'
          rw [List.take_succ_eq_append_getElem (by rw [hl.out]; exact hlt)] at hc'
          rcases List.mem_append.1 hc' with h | h
          · exact HD.out c h
          · simp only [List.mem_cons, List.not_mem_nil, or_false] at h
            rw [h]; exact hc)
        clear hc
        go_wp2
        go_round
        case rel => exact ⟨k + 1, by omega, by go_num, HD'⟩
        case measure => simp [intOf]; omega
      · have hx : (s[k].toNat : Int) < 48 ∨ 57 < (s[k].toNat : Int) := by
          rw [isD_iff] at hc; omega
        have HX : Hid (s.data.toList.takeWhile isD = s.data.toList.take k ∧ s.data.toList.dropWhile isD = s.data.toList.drop k) := Lib.hid (tw_at _ k HD.out (.inr ⟨by rw [hl.out]; exact hlt, eq_false_of_ne_true hc⟩))
        clear hc
        have q1 : (k : Int) ≤ (s.size : Int) := by omega
        have q2 : (0 : Int) ≤ (k : Int) := by omega
        have q3 : ((k : Int)).toNat = k := by omega
        rcases hx with hx | hx
        · have d1 : decide ((48 : Int) ≤ (s[k].toNat : Int)) = false := by simp; omega
          go_wp2
          go_quiet (fail)
          go_wp2
          go_ret2
          refine ⟨?_, below_drewN (Below.refl _ _) _⟩
          show Ending.returned (.tuple #[.string (s.extract 0 k), .string (s.extract k s.size)]) = _
          rw [ext_bs, ext_end, HX.out.1, HX.out.2]; simp
        · have d1 : decide ((48 : Int) ≤ (s[k].toNat : Int)) = true := by simp; omega
          have d2 : decide ((s[k].toNat : Int) ≤ 57) = false := by simp; omega
          go_wp2
          go_quiet (fail)
          go_wp2
          go_ret2
          refine ⟨?_, below_drewN (Below.refl _ _) _⟩
          show Ending.returned (.tuple #[.string (s.extract 0 k), .string (s.extract k s.size)]) = _
          rw [ext_bs, ext_end, HX.out.1, HX.out.2]; simp
    · obtain rfl : k = s.size := by omega
      have HX : Hid (s.data.toList.takeWhile isD = s.data.toList.take s.size ∧ s.data.toList.dropWhile isD = s.data.toList.drop s.size) := Lib.hid (tw_at _ s.size HD.out (.inl (by rw [hl.out]; omega)))
      have q2 : (0 : Int) ≤ (s.size : Int) := by omega
      have q3 : ((s.size : Int)).toNat = s.size := by omega
      have d0 : decide (s.size < s.size) = false := by simp
      go_wp2
      go_quiet (fail)
      go_wp2
      go_ret2
      refine ⟨?_, below_drewN (Below.refl _ _) _⟩
      show Ending.returned (.tuple #[.string s, .string ByteArray.empty]) = _
      have h1 : s.data.toList.take s.size = s.data.toList := List.take_of_length_le (by rw [hl.out]; omega)
      have h2 : s.data.toList.drop s.size = [] := List.drop_eq_nil_iff.2 (by rw [hl.out]; omega)
      rw [HX.out.1, HX.out.2, h1, h2, bs_self]; rfl
end Go.Proofs.Tg
end
section
/- Walks: the parts of a number's text. -/
namespace Go.Proofs.Tg
open Go.RowKit Go.Qn
set_option maxHeartbeats 1000000
set_option maxRecDepth 100000
/-- The parts that a call returns. -/
def RetSplit (l : List UInt8) (w : World) (e : Ending) (w' : World) : Prop :=
  ∃ b num den ok, e = .returned (.tuple #[.agg #[.bool b, .string (bs num), .string (bs den)], .bool ok]) ∧ SplitIs l b num den ok ∧ Below w.heap.size w w'
theorem bs_head {l : List UInt8} (h : 0 < (bs l).size) : (bs l)[0] = l.head (by rintro rfl; exact absurd h (by decide)) := by
  cases l with
  | nil => exact absurd h (by decide)
  | cons c t => rfl
theorem bs_toList (l : List UInt8) : (bs l).toList = l := by rw [Lib.toList_data, bs_data]
theorem bs_pos {l : List UInt8} (h : l ≠ []) : 0 < (bs l).size := by rw [bs_size]; exact List.length_pos_iff.2 h
theorem split_fin {l num den : List UInt8} {b ok : Bool} {N D : ByteArray} {w w' : World} (hN : bs num = N) (hD : bs den = D) (h : SplitIs l b num den ok) (hb : Below w.heap.size w w') :
    RetSplit l w (.returned (.tuple #[.agg #[.bool b, .string N, .string D], .bool ok])) w' := by
  subst hN hD
  exact ⟨b, num, den, ok, rfl, h, hb⟩
theorem bs_nil : bs [] = ByteArray.empty := rfl
theorem of_head {l : List UInt8} {N : ByteArray} (hN : bs l = N) {h : 0 < N.size} {c : UInt8} (k : (((N[0]).toNat : Int) == (c.toNat : Int)) = true) : l.head? = some c := by
  subst hN
  cases l with
  | nil => exact absurd h (by decide)
  | cons x t =>
    have e : (x.toNat : Int) = (c.toNat : Int) := eq_of_beq k
    have : x = c := UInt8.toNat_inj.1 (by omega)
    rw [this]; rfl
theorem of_not_head {l : List UInt8} {N : ByteArray} (hN : bs l = N) {h : 0 < N.size} {c : UInt8} (k : (((N[0]).toNat : Int) == (c.toNat : Int)) = false) : l.head? ≠ some c := by
  subst hN
  cases l with
  | nil => simp
  | cons x t =>
    have e : ¬ (x.toNat : Int) = (c.toNat : Int) := ne_of_beq_false k
    simp only [List.head?_cons, ne_eq, Option.some.injEq]
    rintro rfl
    exact e rfl
set_option maxHeartbeats 4000000 in
theorem split_any (s : ByteArray) (w : World) (hs : s.size ≤ 64) :
    Calls Tryz.prog 89 #[.string s] w (RetSplit s.data.toList w) := by
  obtain ⟨b, r, hc⟩ : ∃ b r, cut s.data.toList = (b, r) := ⟨_, _, rfl⟩
  have HC : Hid (∀ W, Calls Tryz.prog 95 #[.string s, .string ⟨#[45]⟩] W fun e w' => e = .returned (.tuple #[.string (bs r), .bool b]) ∧ W = w') := Lib.hid (fun W => by
    have := cutp_any s W hs
    rwa [hc] at this)
  have hrl : r.length ≤ 64 := by
    have := (spl_len hc).2
    rw [len_size] at this; omega
  obtain ⟨N, hN⟩ : ∃ N, bs (r.takeWhile isD) = N := ⟨_, rfl⟩
  obtain ⟨R, hR⟩ : ∃ R, bs (r.dropWhile isD) = R := ⟨_, rfl⟩
  have HD : Hid (∀ W, Calls Tryz.prog 96 #[.string (bs r)] W fun e w' => e = .returned (.tuple #[.string N, .string R]) ∧ Below W.heap.size W w') := Lib.hid (fun W => by
    have := digits_any (bs r) W (by rw [bs_size]; exact hrl)
    rwa [bs_data, hN, hR] at this)
  have HN := Lib.hid hN
  have HR := Lib.hid hR
  have Hc := Lib.hid hc
  clear hN hR hc
  go_enter Tryz.func89, Tryz.ntmps89
  go_wp2_with (go_at_call 95; refine (HC.out _).mono ?_; rintro e w' ⟨rfl, rfl⟩)
  with_reducible refine (HD.out _).mono ?_
  rintro e w1 ⟨rfl, hb1⟩
  have B4 : Blk w1 (w.heap.size + 1) 155 #[.bool b, .string ByteArray.empty, .string ByteArray.empty] := by
    have := (Blk.new (w.alloc (.cells #[.bool false, .string ByteArray.empty, .string ByteArray.empty] 155)) 155 #[.bool b, .string ByteArray.empty, .string ByteArray.empty]).keep hb1 (by simp)
    simpa using this
  have B2 : Blk w1 w.heap.size 155 #[.bool false, .string ByteArray.empty, .string ByteArray.empty] :=
    ((Blk.new w 155 #[.bool false, .string ByteArray.empty, .string ByteArray.empty]).alloc _).keep hb1 (by simp; omega)
  have hbw : Below w.heap.size w w1 := (((Below.refl _ _).alloc (Nat.le_refl _) _).alloc (by simp) _).trans (hb1.mono (by simp; omega))
  have hz : w.heap.size + 1 < w1.heap.size := B4.lt
  have HB4 := Lib.hid B4
  have HB2 := Lib.hid B2
  have c0 := B4.cell 0
  have c1 := B4.cell 1
  have c2 := B4.cell 2
  have f0 := B4.frozen 0
  have f1 := B4.frozen 1
  have f2 := B4.frozen 2
  have d0 := B2.cell 0
  have d1 := B2.cell 1
  have d2 := B2.cell 2
  have e0 := B2.frozen 0
  have e1 := B2.frozen 1
  have e2 := B2.frozen 2
  clear hb1 B4 B2
  simp at c0 c1 c2 d0 d1 d2
  go_wp2_with (fail)
  · have t1 : (N.toList == [48]) = true := by assumption
    have t2 : b = true := by assumption
    subst t2
    refine bodyPost_ret (v := .tuple #[.agg #[.bool true, .string N, .string ByteArray.empty], .bool false]) (by simp [results, Tryz.results89, go_sem, d0, d1, d2]) rfl (split_fin HN.out bs_nil (spl_zero Hc.out ?_) ?_)
    · rw [← bs_toList (r.takeWhile isD), HN.out]; simpa using t1
    · exact (((hbw.setCell (by simp) _).setCell (by simp) _).setCell (by simp) _).setCell (by simp) _
  · have t1 : (N.toList == [48]) = true := by assumption
    have t2 : ¬ b = true := by assumption
    obtain rfl : b = false := eq_false_of_ne_true t2
    refine bodyPost_ret (v := .tuple #[.agg #[.bool false, .string N, .string ByteArray.empty], .bool R.toList.isEmpty]) (by simp [results, Tryz.results89, go_sem, d0, d1, d2]) rfl (split_fin HN.out bs_nil ?_ ?_)
    · have := spl_zero Hc.out (by rw [← bs_toList (r.takeWhile isD), HN.out]; simpa using t1)
      rw [← HR.out, bs_toList]
      simpa using this
    · exact (((hbw.setCell (by simp) _).setCell (by simp) _).setCell (by simp) _).setCell (by simp) _
  · have t1 : (N.toList == [48]) = false := by assumption
    have t2 : N.toList = [] := by assumption
    refine bodyPost_ret (v := .tuple #[.agg #[.bool b, .string N, .string ByteArray.empty], .bool false]) (by simp [results, Tryz.results89, go_sem, d0, d1, d2]) rfl (split_fin HN.out bs_nil (spl_bad Hc.out ?_ (.inl ?_)) ?_)
    · rw [← bs_toList (r.takeWhile isD), HN.out]; simpa using t1
    · rw [← bs_toList (r.takeWhile isD), HN.out]; exact t2
    · exact (((hbw.setCell (by simp) _).setCell (by simp) _).setCell (by simp) _).setCell (by simp) _
  · have t1 : (N.toList == [48]) = false := by assumption
    have t3 : ¬ N.toList = [] := by assumption
    have t4 : 0 < N.size := by assumption
    have t2 : N.toList.isEmpty = true ∨ ((N[0].toNat : Int) == 48) = true := by assumption
    refine bodyPost_ret (v := .tuple #[.agg #[.bool b, .string N, .string ByteArray.empty], .bool false]) (by simp [results, Tryz.results89, go_sem, d0, d1, d2]) rfl (split_fin HN.out bs_nil (spl_bad Hc.out ?_ (.inr ?_)) ?_)
    · rw [← bs_toList (r.takeWhile isD), HN.out]; simpa using t1
    · rcases t2 with t2 | t2
      · exact absurd (List.isEmpty_iff.1 t2) t3
      · exact of_head HN.out (c := 48) t2
    · exact (((hbw.setCell (by simp) _).setCell (by simp) _).setCell (by simp) _).setCell (by simp) _
  · have t1 : (N.toList == [48]) = false := by assumption
    have t3 : ¬ N.toList = [] := by assumption
    have t4 : 0 < N.size := by assumption
    have t2 : N.toList.isEmpty = false ∧ ((N[0].toNat : Int) == 48) = false := by assumption
    have t5 : R.toList.isEmpty = true := by assumption
    refine bodyPost_ret (v := .tuple #[.agg #[.bool b, .string N, .string ByteArray.empty], .bool true]) (by simp [results, Tryz.results89, go_sem, d0, d1, d2]) rfl (split_fin HN.out bs_nil (spl_whole Hc.out ?_ ?_ ?_) ?_)
    · rw [← bs_toList (r.takeWhile isD), HN.out]; simpa using t1
    · rintro (h | h)
      · exact t3 (by rw [← HN.out, bs_toList]; exact h)
      · exact of_not_head HN.out (c := 48) t2.2 h
    · rw [← bs_toList (r.dropWhile isD), HR.out]; exact List.isEmpty_iff.1 t5
    · exact (((hbw.setCell (by simp) _).setCell (by simp) _).setCell (by simp) _).setCell (by simp) _
  · have t1 : (N.toList == [48]) = false := by assumption
    have t3 : ¬ N.toList = [] := by assumption
    have t4 : 0 < N.size := by assumption
    have t2 : N.toList.isEmpty = false ∧ ((N[0].toNat : Int) == 48) = false := by assumption
    have t5 : R.toList.isEmpty = false := by assumption
    have t6 : 0 < R.size := by assumption
    have t7 : ((R[0].toNat : Int) != 47) = true := by assumption
    have hR : r.dropWhile isD = R.toList := by rw [← HR.out, bs_toList]
    obtain ⟨c, t, hct⟩ : ∃ c t, r.dropWhile isD = c :: t := by
      cases hh : r.dropWhile isD with
      | nil => rw [hh] at hR; rw [← hR] at t5; cases t5
      | cons c t => exact ⟨c, t, rfl⟩
    refine bodyPost_ret (v := .tuple #[.agg #[.bool b, .string N, .string ByteArray.empty], .bool false]) (by simp [results, Tryz.results89, go_sem, d0, d1, d2]) rfl (split_fin HN.out bs_nil (spl_slash Hc.out ?_ ?_ hct ?_) ?_)
    · rw [← bs_toList (r.takeWhile isD), HN.out]; simpa using t1
    · rintro (h | h)
      · exact t3 (by rw [← HN.out, bs_toList]; exact h)
      · exact of_not_head HN.out (c := 48) t2.2 h
    · have := of_not_head HR.out (c := 47) (h := t6) (by simpa using t7)
      rw [hct] at this
      simpa using this
    · exact (((hbw.setCell (by simp) _).setCell (by simp) _).setCell (by simp) _).setCell (by simp) _
  · have t1 : (N.toList == [48]) = false := by assumption
    have t3 : ¬ N.toList = [] := by assumption
    have t4 : 0 < N.size := by assumption
    have t2 : N.toList.isEmpty = false ∧ ((N[0].toNat : Int) == 48) = false := by assumption
    have t5 : R.toList.isEmpty = false := by assumption
    have t6 : 0 < R.size := by assumption
    have t7 : ((R[0].toNat : Int) != 47) = false := by assumption
    have hR : r.dropWhile isD = R.toList := by rw [← HR.out, bs_toList]
    obtain ⟨t, hct⟩ : ∃ t, r.dropWhile isD = 47 :: t := by
      have := of_head HR.out (c := 47) (h := t6) (by simpa using t7)
      cases hh : r.dropWhile isD with
      | nil => rw [hh] at this; cases this
      | cons c t => rw [hh] at this; injection this with this; subst this; exact ⟨t, rfl⟩
    have hext : R.extract 1 R.size = bs t := by rw [ext_end, ← HR.out, bs_data, hct]; rfl
    have htl : t.length ≤ 64 := by
      have a2 := dw_len isD r
      rw [hct, List.length_cons] at a2
      omega
    obtain ⟨D, hD⟩ : ∃ D, bs (t.takeWhile isD) = D := ⟨_, rfl⟩
    obtain ⟨R2, hR2⟩ : ∃ R, bs (t.dropWhile isD) = R := ⟨_, rfl⟩
    have HD2 : Hid (∀ W, Calls Tryz.prog 96 #[.string (R.extract 1 R.size)] W fun e w' => e = .returned (.tuple #[.string D, .string R2]) ∧ Below W.heap.size W w') := Lib.hid (fun W => by
      have := digits_any (bs t) W (by rw [bs_size]; exact htl)
      rwa [bs_data, hD, hR2, ← hext] at this)
    have HDD := Lib.hid hD
    have HR2 := Lib.hid hR2
    have Hct := Lib.hid hct
    have T1 := Lib.hid t1
    have T2 := Lib.hid t2
    clear hD hR2 hct hR hext t1 t2 t7
    with_reducible refine (HD2.out _).mono ?_
    rintro e w2 ⟨rfl, hb2⟩
    have B4 : Blk w2 (w.heap.size + 1) 155 #[.bool b, .string N, .string ByteArray.empty] := (HB4.out.set 1 (.string N)).keep hb2 (by simp; omega)
    have B2 : Blk w2 w.heap.size 155 #[.bool false, .string ByteArray.empty, .string ByteArray.empty] := (HB2.out.far (p := ⟨w.heap.size + 1, 1, none⟩) (by simp) (.string N)).keep hb2 (by simp; omega)
    have hbw2 : Below w.heap.size w w2 := (hbw.setCell (p := ⟨w.heap.size + 1, 1, none⟩) (by simp) (.string N)).trans (hb2.mono (by simp; omega))
    have hz2 : w.heap.size + 1 < w2.heap.size := B4.lt
    clear c0 c1 c2 d0 d1 d2 e0 e1 e2 f0 f1 f2 hb2 hz HB4 HB2 hbw
    have c0 := B4.cell 0
    have c1 := B4.cell 1
    have c2 := B4.cell 2
    have f0 := B4.frozen 0
    have f1 := B4.frozen 1
    have f2 := B4.frozen 2
    have d0 := B2.cell 0
    have d1 := B2.cell 1
    have d2 := B2.cell 2
    have e0 := B2.frozen 0
    have e1 := B2.frozen 1
    have e2 := B2.frozen 2
    clear B4 B2
    simp at c0 c1 c2 d0 d1 d2
    have fin : ∀ (ok : Bool) (w' : World), (ok = true ↔ t.dropWhile isD = [] ∧ t.takeWhile isD ≠ [] ∧ (t.takeWhile isD).head? ≠ some 48 ∧ t.takeWhile isD ≠ [49]) → Below w.heap.size w w' →
        RetSplit s.data.toList w (.returned (.tuple #[.agg #[.bool b, .string N, .string D], .bool ok])) w' := by
      intro ok w' hok hb
      refine split_fin HN.out HDD.out (spl_den Hc.out ?_ ?_ Hct.out hok) hb
      · rw [← bs_toList (r.takeWhile isD), HN.out]; simpa using T1.out
      · rintro (h | h)
        · exact t3 (by rw [← HN.out, bs_toList]; exact h)
        · exact of_not_head HN.out (c := 48) T2.out.2 h
    have FIN := Lib.hid fin
    clear fin
    have hRl : R2.toList = t.dropWhile isD := by rw [← HR2.out, bs_toList]
    have hDl : D.toList = t.takeWhile isD := by rw [← HDD.out, bs_toList]
    have HRl := Lib.hid hRl
    have HDl := Lib.hid hDl
    clear hRl hDl
    go_wp2
    by_cases r2 : R2.toList.isEmpty = true
    · have r2' : R2.toList = [] := List.isEmpty_iff.1 r2
      by_cases r3 : D.toList.isEmpty = true
      · have r3' : D.toList = [] := List.isEmpty_iff.1 r3
        go_region
        all_goals
          try go_wp2
          refine bodyPost_ret (v := .tuple #[.agg #[.bool b, .string N, .string D], .bool false]) (by simp [results, Tryz.results89, go_sem, d0, d1, d2]) rfl (FIN.out _ _ ?_ ?_)
          · rw [← HRl.out, ← HDl.out, r3']; simp
          · exact below_drewN ((((hbw2.setCell (by simp) _).setCell (by simp) _).setCell (by simp) _).setCell (by simp) _) 1
      · have r3 : D.toList.isEmpty = false := eq_false_of_ne_true r3
        have r3' : ¬ D.toList = [] := fun e => by rw [e] at r3; cases r3
        have r4 : 0 < D.size := by
          rw [← HDD.out]; exact bs_pos (fun e => r3' (by rw [HDl.out]; exact e))
        by_cases r5 : ((D[0].toNat : Int) != 48) = true
        · have r5' : (t.takeWhile isD).head? ≠ some 48 := of_not_head HDD.out (c := 48) (h := r4) (by simpa using r5)
          have R5 := Lib.hid r5'
          clear r5'
          by_cases r6 : (D.toList != [49]) = true
          · skip
            go_region
            all_goals
              try go_wp2
              refine bodyPost_ret (v := .tuple #[.agg #[.bool b, .string N, .string D], .bool true]) (by simp [results, Tryz.results89, go_sem, d0, d1, d2]; simpa using r6) rfl (FIN.out _ _ ?_ ?_)
              · rw [← HRl.out, ← HDl.out]; exact iff_of_true rfl ⟨r2', r3', by rw [HDl.out]; exact R5.out, by simpa using r6⟩
              · exact below_drewN ((((hbw2.setCell (by simp) _).setCell (by simp) _).setCell (by simp) _).setCell (by simp) _) 1
          · have r6 : (D.toList != [49]) = false := eq_false_of_ne_true r6
            go_region
            all_goals
              try go_wp2
              refine bodyPost_ret (v := .tuple #[.agg #[.bool b, .string N, .string D], .bool false]) (by simp [results, Tryz.results89, go_sem, d0, d1, d2]; simpa using r6) rfl (FIN.out _ _ ?_ ?_)
              · rw [← HRl.out, ← HDl.out]; exact iff_of_false (by decide) (fun h => h.2.2.2 (by simpa using r6))
              · exact below_drewN ((((hbw2.setCell (by simp) _).setCell (by simp) _).setCell (by simp) _).setCell (by simp) _) 1
        · have r5 : ((D[0].toNat : Int) != 48) = false := eq_false_of_ne_true r5
          have r5' : (t.takeWhile isD).head? = some 48 := of_head HDD.out (c := 48) (h := r4) (by simpa using r5)
          have R5 := Lib.hid r5'
          clear r5'
          go_region
          all_goals
            try go_wp2
            refine bodyPost_ret (v := .tuple #[.agg #[.bool b, .string N, .string D], .bool false]) (by simp [results, Tryz.results89, go_sem, d0, d1, d2]) rfl (FIN.out _ _ ?_ ?_)
            · rw [← HRl.out, ← HDl.out]; exact iff_of_false (by decide) (fun h => h.2.2.1 (by rw [HDl.out]; exact R5.out))
            · exact below_drewN ((((hbw2.setCell (by simp) _).setCell (by simp) _).setCell (by simp) _).setCell (by simp) _) 1
    · have r2 : R2.toList.isEmpty = false := eq_false_of_ne_true r2
      have r2' : ¬ R2.toList = [] := fun e => by rw [e] at r2; cases r2
      go_region
      all_goals
        try go_wp2
        refine bodyPost_ret (v := .tuple #[.agg #[.bool b, .string N, .string D], .bool false]) (by simp [results, Tryz.results89, go_sem, d0, d1, d2]) rfl (FIN.out _ _ ?_ ?_)
        · rw [← HRl.out]; simp [r2']
        · exact below_drewN ((((hbw2.setCell (by simp) _).setCell (by simp) _).setCell (by simp) _).setCell (by simp) _) 1
  · have t5 : R.toList.isEmpty = false := by assumption
    have t6 : ¬ 0 < R.size := by assumption
    have hR : r.dropWhile isD = R.toList := by rw [← HR.out, bs_toList]
    have : R.size = (r.dropWhile isD).length := by rw [← HR.out, bs_size]
    have h0 : r.dropWhile isD = [] := List.eq_nil_of_length_eq_zero (by omega)
    rw [← hR, h0] at t5; cases t5
  · have t5 : ¬ N.toList = [] := by assumption
    have t6 : ¬ 0 < N.size := by assumption
    have hR : r.takeWhile isD = N.toList := by rw [← HN.out, bs_toList]
    have : N.size = (r.takeWhile isD).length := by rw [← HN.out, bs_size]
    have h0 : r.takeWhile isD = [] := List.eq_nil_of_length_eq_zero (by omega)
    exact absurd (hR.symm.trans h0) t5
end Go.Proofs.Tg
end
section
/- Walks: digits as one word. -/
namespace Go.Proofs.Tg
open Go.RowKit Go.Qn
set_option maxHeartbeats 1000000
set_option maxRecDepth 100000
/-- The words of a number below 2^64. -/
def wds (m : Nat) : List Nat := if m = 0 then [] else [m]
theorem psimple_nil (w : World) : Calls Tryz.prog 118 #[.string ByteArray.empty] w fun e w' => e = .returned (.slice none 0 0) ∧ w = w' := by
  go_enter Tryz.func118, Tryz.ntmps118
  go_wp2
  refine wp_loop_rounds 1 ?_
  rw [rounds_succ]
  go_wp2
  go_ret
  exact ⟨rfl, rfl⟩
theorem conv_bytes (w : World) (s : ByteArray) : ∃ c w1, (convert 9 150 (.string s)).run Tryz.prog w = .ok (.slice (some ⟨w.heap.size, 0, none⟩) s.size c) w1 ∧
    (∀ k (hk : k < s.size), w1.cell? ⟨w.heap.size, k, none⟩ = some (.int .u8 (s[k].toNat : Int))) ∧ Below w.heap.size w w1 := by
  refine ⟨_, _, run_bytes_of_string w _ _ 5 s Tryz.underlying9 Tryz.underlying150 Tryz.underlying5, fun k hk => ?_, ?_⟩
  · have := World.cell?_alloc_mark w.drew (bytesRow s (grownCap w s.size 0 5)) 5 ((bytesRow s (grownCap w s.size 0 5)).size, (bytesRow s (grownCap w s.size 0 5)).size + 1) k
    refine Eq.trans this ?_
    exact bytesRow_at s _ k hk
  · exact (Below.drew (Below.refl _ _)).alloc (Nat.le_refl _) _
theorem info73 : (Tryz.prog.info? 73).map (fun i => (i.zero, i.size, i.bytes)) = some (some (.int .u64 0), 1, 8) := by kernel_rfl
theorem val_take (l : List UInt8) (k : Nat) (hk : k < l.length) : val (l.take (k + 1)) = 10 * val (l.take k) + (l[k].toNat - 48) := by
  rw [List.take_succ_eq_append_getElem hk, val_snoc]
theorem pow_19 {k : Nat} (h : k ≤ 19) : 10 ^ k ≤ 10000000000000000000 := by
  have : 10 ^ k ≤ 10 ^ 19 := Nat.pow_le_pow_right (by omega) h
  exact Nat.le_trans this (by decide)
set_option maxHeartbeats 2000000 in
theorem psimple_any (s : ByteArray) (w : World) (h0 : 0 < s.size) (hs : s.size ≤ 19) (hd : ∀ c ∈ s.data.toList, isD c = true) :
    Calls Tryz.prog 118 #[.string s] w (RetSl (wds (val s.data.toList)).length 1 ((wds (val s.data.toList)).map vs) w) := by
  have HD := Lib.hid hd
  clear hd
  obtain ⟨c, w1, hrun, hcell, hb1⟩ := conv_bytes w s
  have HC := Lib.hid hcell
  have HL := Lib.hid (len_size s)
  clear hcell
  have hz := hb1.size
  have m1 : ((s.size : Int) - 1) % 19 = (s.size : Int) - 1 := by omega
  obtain ⟨i0, hi, hz0, hz1, hz2⟩ := info_parts info73
  go_enter Tryz.func118, Tryz.ntmps118
  go_wp2
  refine wp_loop_rounds 2 ?_
  rw [rounds_succ]
  go_wp2
  go_loop [5, 6, 25] (fun ch ba i => ∃ k : Nat, k ≤ s.size ∧ i = .int .i64 k ∧ ∃ v p : Nat, ch = .int .u64 v ∧ ba = .int .u64 p ∧ Hid (v = val (s.data.toList.take k) ∧ p = 10 ^ k ∧ v < 10 ^ k)) (fun _ _ i => s.size - (intOf i).toNat)
  case atStart => exact ⟨0, Nat.zero_le _, rfl, 0, 1, rfl, rfl, Lib.hid ⟨rfl, rfl, by decide⟩⟩
  case round =>
    obtain ⟨k, hk, rfl, v, p, rfl, rfl, HV⟩ := hrel
    by_cases hlt : k < s.size
    · have hc := HC.out k hlt
      have hlt' : k < s.data.toList.length := by rw [HL.out]; exact hlt
      have hD := HD.out s.data.toList[k] (List.getElem_mem _)
      obtain ⟨d1, d2⟩ := isD_int hD
      have HX : Hid (val (s.data.toList.take (k + 1)) = 10 * v + (s[k].toNat - 48)) := Lib.hid (by rw [val_take _ _ hlt', HV.out.1]; rfl)
      have hv : v < 1000000000000000000 := Nat.lt_of_lt_of_le HV.out.2.2 (by
        have : 10 ^ k ≤ 10 ^ 18 := Nat.pow_le_pow_right (by omega) (by omega)
        exact Nat.le_trans this (by decide))
      have hp : p ≤ 1000000000000000000 := by
        rw [HV.out.2.1]
        have : 10 ^ k ≤ 10 ^ 18 := Nat.pow_le_pow_right (by omega) (by omega)
        exact Nat.le_trans this (by decide)
      have e1 : (48 : Int) ≤ (s[k].toNat : Int) := d1
      have e2 : (s[k].toNat : Int) ≤ 57 := d2
      clear d1 d2 hD
      go_wp2
      go_round
      case rel =>
        have h1 := HX.out
        have h2 := HV.out
        refine ⟨k + 1, by omega, by go_num, 10 * v + (s[k].toNat - 48), p * 10, by go_num, by go_num, Lib.hid ⟨h1.symm, by rw [h2.2.1, Nat.pow_succ], ?_⟩⟩
        rw [Nat.pow_succ]; omega
      case measure => simp [intOf]; omega
    · obtain rfl : k = s.size := by omega
      have hvv : v = val s.data.toList := by rw [HV.out.1, List.take_of_length_le (by rw [HL.out]; omega)]
      have hlt : v < 18446744073709551616 := Nat.lt_of_lt_of_le HV.out.2.2 (Nat.le_trans (pow_19 hs) (by decide))
      have HVV := Lib.hid hvv
      clear hvv
      have dd : decide (s.size < s.size) = false := by simp
      have q2 : (0 : Int) ≤ (s.size : Int) := by omega
      have q3 : ((s.size : Int)).toNat = s.size := by omega
      go_wp2
      refine wp_loop_rounds 1 ?_
      rw [rounds_succ]
      by_cases hv0 : v = 0
      · subst hv0
        have hb0 : (((0 : Nat) : Int) != 0) = false := by decide
        go_wp2
        rw [rounds_succ]
        go_wp2
        go_ret
        rw [← HVV.out]
        exact ⟨none, 0, rfl, Nat.le_refl _, Sl.nil _ _ _, hb1⟩
      · have hvp : 0 < v := by omega
        have hb0 : ((v : Int) != 0) = true := by simp; omega
        clear hv0
        go_wp2_with (at_builtin; refine wpList_append_own _ rfl _ _ 139 rfl w.heap.size 73 i0 (.int .u64 0) 1 8 Tryz.underlying139 hi hz0 hz1 hz2 rfl (by decide) (.slice none 0 0) 0 [] rfl (World.ownsRow_nil _ _ _ _) ⟨w1.heap.size, 0, none⟩ 1 1 [.int .u64 v] rfl rfl ?c1 ?c2 ?c3 ?c4 ?c5 ?_
                     case c1 => exact cell_one_new _ _ _
                     case c2 => simp [Value.oneCell']
                     case c3 => simp only [maxLen]; omega
                     case c4 => omega
                     case c5 => simp; omega
                     intro v' w2 hown' hgrow _)
        rw [rounds_succ]
        go_wp2
        go_ret
        obtain ⟨A, c2, hv, hc2, hS⟩ := Sl.of_own hown'
        have hb2 : Below w.heap.size w w2 := (hb1.alloc hb1.size _).grown hgrow (by simp; omega) (fun k hk => by simp [Value.ownBlock] at hk)
        have hw : wds (val s.data.toList) = [v] := by rw [← HVV.out]; unfold wds; rw [if_neg (by omega)]
        rw [hw]
        exact ⟨A, c2, by show Ending.returned v' = _; rw [hv]; rfl, hc2, by simpa [vs] using hS, hb2⟩
theorem psimple (s : ByteArray) (w : World) (hs : s.size ≤ 19) (hd : ∀ c ∈ s.data.toList, isD c = true) :
    Calls Tryz.prog 118 #[.string s] w (RetSl (wds (val s.data.toList)).length 1 ((wds (val s.data.toList)).map vs) w) := by
  by_cases h0 : s.size = 0
  · have e : s = ByteArray.empty := by
      rw [← bs_self s, List.eq_nil_of_length_eq_zero (l := s.data.toList) (by rw [len_size]; exact h0)]; rfl
    subst e
    exact (psimple_nil w).mono fun e w' ⟨h1, h2⟩ => by subst h2; exact ⟨none, 0, h1, Nat.le_refl _, Sl.nil _ _ _, Below.refl _ _⟩
  · exact psimple_any s w (by omega) hs hd
theorem psplit (s : ByteArray) (w : World) (hs : s.size ≤ 19) (hd : ∀ c ∈ s.data.toList, isD c = true) :
    Calls Tryz.prog 102 #[.string s, .slice none 0 0] w (RetSl (wds (val s.data.toList)).length 1 ((wds (val s.data.toList)).map vs) w) := by
  have HD := Lib.hid hd
  clear hd
  go_enter Tryz.func102, Tryz.ntmps102
  go_wp2
  refine wp_loop_rounds 1 ?_
  rw [rounds_succ]
  go_wp2_with (go_at_call 118; refine (psimple _ _ hs HD.out).mono ?_; rintro e w' ⟨A, c, rfl, h1, h2, h3⟩)
  go_ret
  exact ⟨A, c, rfl, h1, h2, h3⟩
theorem pwords (s : ByteArray) (w : World) (hs : s.size ≤ 19) (hd : ∀ c ∈ s.data.toList, isD c = true) :
    Calls Tryz.prog 97 #[.string s] w (RetSl (wds (val s.data.toList)).length 1 ((wds (val s.data.toList)).map vs) w) := by
  have HD := Lib.hid hd
  clear hd
  go_enter Tryz.func97, Tryz.ntmps97
  go_wp2_with (go_at_call 102; refine (psplit _ _ hs HD.out).mono ?_; rintro e w' ⟨A, c, rfl, h1, h2, h3⟩)
  go_ret
  exact ⟨A, c, rfl, h1, h2, h3⟩
/-- An integer of one word that a call returns. -/
def RetInt (neg : Bool) (m : Nat) (w : World) (e : Ending) (w' : World) : Prop :=
  ∃ A c, e = .returned (.agg #[.bool neg, .slice A (wds m).length c]) ∧ Sets w' A (wds m) ∧ Below w.heap.size w w'
theorem parse_any (s : ByteArray) (w : World) (hs : s.size ≤ 19) (hd : ∀ c ∈ s.data.toList, isD c = true) :
    Calls Tryz.prog 90 #[.string s] w (RetInt false (val s.data.toList) w) := by
  have HD := Lib.hid hd
  clear hd
  have hbA : Below w.heap.size w (w.alloc (.cells #[.bool false, .slice none 0 0] 141)) := (Below.refl _ _).alloc (Nat.le_refl _) _
  go_enter Tryz.func90, Tryz.ntmps90
  go_wp2_with (go_at_call 97; refine (pwords _ _ hs HD.out).mono ?_; rintro e w1 ⟨A, c, rfl, h1, h2, h3⟩
               have c0 := keep_cell h3 (Blk.cell (Blk.new w 141 #[.bool false, .slice none 0 0]) 0)
               have c1 := keep_cell h3 (Blk.cell (Blk.new w 141 #[.bool false, .slice none 0 0]) 1)
               have f0 := ((Blk.new w 141 #[.bool false, .slice none 0 0]).keep h3 (by simp)).frozen 0
               have f1 := ((Blk.new w 141 #[.bool false, .slice none 0 0]).keep h3 (by simp)).frozen 1)
  refine bodyPost_ret (v := .agg #[.bool false, .slice A (wds (val s.data.toList)).length c]) (by simp [results, Tryz.results90, go_sem, c0, c1]) rfl ⟨A, c, rfl, ?_, ?_⟩
  · have h4 := Sl.put h2 c0 (by simp [vs]) (.bool false)
    exact Sl.put h4 (v := .slice none 0 0) (by rw [World.cell?_setCell_other _ _ _ _ (by simp)]; exact c1) (by simp [vs]) _
  · exact (((hbA.trans (h3.mono (by simp))).setCell (by simp) _).setCell (by simp) _)
end Go.Proofs.Tg
end
section
/- The binary method for the greatest common divisor. Plain numbers. -/
namespace Go.Ev
open Go.Lib
theorem lead_form {x c m : Nat} (h : x = 2 ^ c * (2 * m + 1)) : Lead x c := by
  subst h
  constructor
  · rw [Nat.testBit_eq_decide_div_mod_eq, Nat.mul_div_cancel_left _ (Nat.two_pow_pos c)]
    simp
  · intro b hb
    rw [Nat.testBit_eq_decide_div_mod_eq, decide_eq_false_iff_not]
    obtain ⟨d, rfl⟩ : ∃ d, c = b + 1 + d := ⟨c - b - 1, by omega⟩
    rw [show (2 : Nat) ^ (b + 1 + d) * (2 * m + 1) = 2 ^ b * (2 * (2 ^ d * (2 * m + 1))) by rw [Nat.pow_add, Nat.pow_succ]; simp only [Nat.mul_assoc], Nat.mul_div_cancel_left _ (Nat.two_pow_pos b)]
    omega
theorem lead_or {x y i j : Nat} (hx : Lead x i) (hy : Lead y j) : Lead (x ||| y) (min i j) := by
  constructor
  · rw [Nat.testBit_or]
    rcases Nat.le_total i j with h | h
    · rw [Nat.min_eq_left h, hx.1]; rfl
    · rw [Nat.min_eq_right h, hy.1]; simp
  · intro b hb
    rw [Nat.testBit_or, hx.2 b (by omega), hy.2 b (by omega)]; rfl
theorem ctz_spec {x : Nat} (h0 : x ≠ 0) (hx : x < 18446744073709551616) : ∃ m, x = 2 ^ ctz 64 x * (2 * m + 1) ∧ ctz 64 x < 64 := by
  obtain ⟨m, hm, hk⟩ := ctzFrom_spec 64 x (by omega) (by omega)
  have : ctz 64 x = ctzFrom 64 x := by unfold ctz; rw [if_neg h0]
  rw [this]
  exact ⟨m, hm, hk⟩
theorem odd_coprime_pow {a : Nat} (h : a % 2 = 1) (k : Nat) : Nat.gcd a (2 ^ k) = 1 := by
  have h2 : Nat.gcd a 2 = 1 := by
    rw [Nat.gcd_comm, Nat.gcd_rec, h]; rfl
  exact Nat.Coprime.pow_right k h2
theorem gcd_shift {a b k : Nat} (h : a % 2 = 1) : Nat.gcd a (2 ^ k * b) = Nat.gcd a b :=
  Nat.Coprime.gcd_mul_left_cancel_right b (Nat.Coprime.symm (odd_coprime_pow h k))
/-- A number without its factors 2. -/
def odd (x : Nat) : Nat := x / 2 ^ ctz 64 x
theorem odd_spec {x : Nat} (h0 : x ≠ 0) (hx : x < 18446744073709551616) : odd x % 2 = 1 ∧ x = 2 ^ ctz 64 x * odd x ∧ 0 < odd x ∧ odd x ≤ x ∧ ctz 64 x < 64 := by
  obtain ⟨m, hm, hk⟩ := ctz_spec h0 hx
  have e : odd x = 2 * m + 1 := by
    unfold odd
    generalize ctz 64 x = c at *
    rw [hm, Nat.mul_div_cancel_left _ (Nat.two_pow_pos c)]
  refine ⟨by rw [e]; omega, by rw [e]; exact hm, by rw [e]; omega, Nat.div_le_self _ _, hk⟩
theorem gcd_two {x y : Nat} (hx0 : x ≠ 0) (hy0 : y ≠ 0) (hx : x < 18446744073709551616) (hy : y < 18446744073709551616) :
    Nat.gcd x y = Nat.gcd (odd x) y * 2 ^ ctz 64 (x ||| y) ∧ ctz 64 (x ||| y) < 64 := by
  obtain ⟨a1, a2, a3, _, _⟩ := odd_spec hx0 hx
  obtain ⟨b1, b2, b3, _, _⟩ := odd_spec hy0 hy
  have hxy : x ||| y < 18446744073709551616 := Nat.or_lt_two_pow (n := 64) hx hy
  have hxy0 : x ||| y ≠ 0 := fun e => hx0 (Nat.le_zero.1 (e ▸ Nat.left_le_or))
  obtain ⟨m, hm, hk⟩ := ctz_spec hxy0 hxy
  refine ⟨?_, hk⟩
  have l1 : Lead x (ctz 64 x) := by obtain ⟨m, hm, _⟩ := ctz_spec hx0 hx; exact lead_form hm
  have l2 : Lead y (ctz 64 y) := by obtain ⟨m, hm, _⟩ := ctz_spec hy0 hy; exact lead_form hm
  have e := (lead_form hm).inj (lead_or l1 l2)
  rw [e]
  generalize odd x = p at *
  generalize odd y = q at *
  generalize ctz 64 x = i at *
  generalize ctz 64 y = j at *
  subst a2 b2
  rw [gcd_shift a1]
  rcases Nat.le_total i j with h | h
  · obtain ⟨d, rfl⟩ : ∃ d, j = i + d := ⟨j - i, by omega⟩
    rw [Nat.min_eq_left h, Nat.pow_add, Nat.mul_assoc, Nat.gcd_mul_left, gcd_shift a1, Nat.mul_comm]
  · obtain ⟨d, rfl⟩ : ∃ d, i = j + d := ⟨i - j, by omega⟩
    rw [Nat.min_eq_right h, Nat.pow_add, Nat.mul_assoc, Nat.gcd_mul_left, Nat.gcd_comm _ q, gcd_shift b1, Nat.mul_comm, Nat.gcd_comm]
theorem gcd_odd {a y : Nat} (ha : a % 2 = 1) (hy0 : y ≠ 0) (hy : y < 18446744073709551616) : Nat.gcd a y = Nat.gcd a (odd y) := by
  obtain ⟨_, b2, _⟩ := odd_spec hy0 hy
  have : Nat.gcd a y = Nat.gcd a (2 ^ ctz 64 y * odd y) := by rw [← b2]
  rw [this, gcd_shift ha]
theorem gcd_sub {a b : Nat} (h : a ≤ b) : Nat.gcd a (b - a) = Nat.gcd a b := by
  have := Nat.gcd_add_self_right (m := a) (n := b - a)
  rw [Nat.sub_add_cancel h] at this
  exact this.symm
end Go.Ev
end
section
/- Walks: the greatest common divisor of two words. -/
namespace Go.Proofs.Tg
open Go.RowKit Go.Qn Go.Gr
set_option maxHeartbeats 1000000
set_option maxRecDepth 100000
theorem shr_nat (x k : Nat) : (x : Int) / 2 ^ k = ((x / 2 ^ k : Nat) : Int) := by simp
theorem gword_any (x y : Nat) (w : World) (hx : x < 18446744073709551616) (hy : y < 18446744073709551616) (hx0 : x ≠ 0) (hT : Tab w) :
    Calls Tryz.prog 110 #[.int .u64 x, .int .u64 y] w fun e w' => e = .returned (.int .u64 (Nat.gcd x y : Nat)) ∧ w = w' := by
  have hxb : ((x : Int) == 0) = false := by simp; omega
  by_cases hy0 : y = 0
  · subst hy0
    have hyb : (((0 : Nat) : Int) == 0) = true := by decide
    go_enter Tryz.func110, Tryz.ntmps110
    go_wp2
    go_ret
    refine ⟨?_, rfl⟩
    have e := u64_or_nat x 0 hx (by omega)
    rw [Nat.or_zero] at e
    rw [Nat.gcd_zero_right]
    exact congrArg (fun z => Ending.returned (.int .u64 z)) e
  · have hyb : ((y : Int) == 0) = false := by simp; omega
    have hor : x ||| y < 18446744073709551616 := Nat.or_lt_two_pow (n := 64) hx hy
    have hor0 : x ||| y ≠ 0 := fun e => hx0 (Nat.le_zero.1 (e ▸ Nat.left_le_or))
    obtain ⟨G, hk⟩ := Ev.gcd_two hx0 hy0 hx hy
    obtain ⟨o1, o2, o3, o4, o5⟩ := Ev.odd_spec hx0 hx
    have T1 : Hid (Calls Tryz.prog 48 #[.int .u64 (bits BinOp.or IntKind.u64 (x : Int) (y : Int))] w fun e w' => e = .returned (.int .i64 (Lib.ctz 64 (x ||| y) : Nat)) ∧ w = w') := Lib.hid (by
      rw [u64_or_nat x y hx hy]; exact tz_any _ w hor hor0 hT)
    have T2 := Lib.hid (tz_any x w hx hx0 hT)
    have hX : Hid ((x : Int) / 2 ^ Lib.ctz 64 x = (Ev.odd x : Nat)) := Lib.hid (by rw [shr_nat]; rfl)
    have hG : Hid (Nat.gcd x y = Nat.gcd (Ev.odd x) y * 2 ^ Lib.ctz 64 (x ||| y)) := Lib.hid G
    have HO1 := Lib.hid o1
    generalize Ev.odd x = x1 at *
    generalize Lib.ctz 64 x = c1 at *
    generalize Lib.ctz 64 (x ||| y) = c2 at *
    clear G o1 o2 hor0
    go_enter Tryz.func110, Tryz.ntmps110
    go_wp2_with (first
      | (go_at_call 48; (with_reducible refine T1.out.mono ?_); rintro e w' ⟨rfl, rfl⟩)
      | (go_at_call 48; (with_reducible refine T2.out.mono ?_); rintro e w' ⟨rfl, rfl⟩))
    have hgl : Nat.gcd x y ≤ x := Nat.gcd_le_left y (by omega)
    go_loop [0, 1] (fun a b => ∃ X Y : Nat, a = .int .u64 X ∧ b = .int .u64 Y ∧ X < 18446744073709551616 ∧ Y < 18446744073709551616 ∧ 0 < X ∧ Hid (X % 2 = 1 ∧ Nat.gcd X Y = Nat.gcd x1 y)) (fun a b => (intOf a).toNat + (intOf b).toNat)
    case atStart => exact ⟨x1, y, by rw [hX.out], rfl, by omega, hy, o3, Lib.hid ⟨HO1.out, rfl⟩⟩
    case round =>
      obtain ⟨X, Y, rfl, rfl, hX1, hY1, hX0, HG⟩ := hrel
      by_cases hY0 : Y = 0
      · subst hY0
        have hb : (((0 : Nat) : Int) != 0) = false := by decide
        have e : X = Nat.gcd x1 y := by rw [← HG.out.2, Nat.gcd_zero_right]
        have hm : X * 2 ^ c2 = Nat.gcd x y := by rw [hG.out, e]
        have HM := Lib.hid hm
        clear e hm
        go_wp2
        go_ret
        refine ⟨?_, rfl⟩
        show Ending.returned (.int .u64 (IntKind.u64.wrap ((X : Int) * 2 ^ c2))) = _
        have e2 : (X : Int) * 2 ^ c2 = ((X * 2 ^ c2 : Nat) : Int) := by simp
        rw [e2, HM.out, wrap_nat _ (by omega)]
      · have hb : ((Y : Int) != 0) = true := by simp; omega
        obtain ⟨q1, q2, q3, q4, q5⟩ := Ev.odd_spec hY0 hY1
        have T3 := Lib.hid (tz_any Y w hY1 hY0 hT)
        have hG2 := Ev.gcd_odd HG.out.1 hY0 hY1
        have hE : (Y : Int) / 2 ^ Lib.ctz 64 Y = (Ev.odd Y : Nat) := by rw [shr_nat]; rfl
        have HQ1 := Lib.hid q1
        have HG2 := Lib.hid hG2
        generalize Ev.odd Y = Y1 at *
        generalize Lib.ctz 64 Y = c3 at *
        clear q1 q2 hG2
        by_cases hlt : Y1 < X
        · go_wp2_with (go_at_call 48; (with_reducible refine T3.out.mono ?_); rintro e w' ⟨rfl, rfl⟩)
          go_round
          case rel =>
            have h1 := HG.out
            refine ⟨Y1, X - Y1, rfl, by go_num, by omega, by omega, q3, Lib.hid ⟨HQ1.out, ?_⟩⟩
            rw [Ev.gcd_sub (by omega), Nat.gcd_comm, ← HG2.out, h1.2]
          case measure => simp [intOf]; omega
        · go_wp2_with (go_at_call 48; (with_reducible refine T3.out.mono ?_); rintro e w' ⟨rfl, rfl⟩)
          go_round
          case rel =>
            have h1 := HG.out
            refine ⟨X, Y1 - X, rfl, by go_num, by omega, by omega, hX0, Lib.hid ⟨h1.1, ?_⟩⟩
            rw [Ev.gcd_sub (by omega), ← HG2.out, h1.2]
          case measure => simp [intOf]; omega
theorem fword_any (m : Nat) (w : World) (hm : m < 18446744073709551616) :
    Calls Tryz.prog 109 #[.int .u64 m] w (RetSl (wds m).length 1 ((wds m).map vs) w) := by
  by_cases h0 : m = 0
  · subst h0
    have hb : (((0 : Nat) : Int) == 0) = true := by decide
    go_enter Tryz.func109, Tryz.ntmps109
    go_wp2
    go_ret
    exact ⟨none, 0, rfl, Nat.le_refl _, Sl.nil _ _ _, Below.refl _ _⟩
  · have hb : ((m : Int) == 0) = false := by simp; omega
    have hw : Hid (wds m = [m]) := Lib.hid (by unfold wds; rw [if_neg h0])
    clear h0
    go_enter Tryz.func109, Tryz.ntmps109
    go_wp2
    go_ret
    rw [hw.out]
    refine ⟨some ⟨w.heap.size, 0, none⟩, 1, rfl, Nat.le_refl _, ⟨rfl, fun _ => ⟨_, rfl, by simp, ?_⟩⟩, (Below.refl _ _).alloc (Nat.le_refl _) _⟩
    intro j u hu
    rw [add_lit, Nat.zero_add, (Blk.new w 73 #[.int .u64 m]).cell j]
    simpa [vs] using hu
theorem div64_any (a b : Nat) (w : World) (ha : a < 18446744073709551616) (_hb : b < 18446744073709551616) (hb0 : b ≠ 0) :
    Calls Tryz.prog 125 #[.int .u64 0, .int .u64 a, .int .u64 b] w fun e w' => e = .returned (.tuple #[.int .u64 (a / b : Nat), .int .u64 (a % b : Nat)]) ∧ Below w.heap.size w w' := by
  have h1 : ((b : Int) == 0) = false := by simp; omega
  have h2 : decide ((b : Int) ≤ 0) = false := by simp; omega
  go_enter Tryz.func125, Tryz.ntmps125
  go_wp2
  go_quiet (fail)
  go_wp2
  go_ret2
  have e1 : IntKind.u64.wrap ((a : Int) / (b : Int)) = (a : Int) / (b : Int) := by
    have : (a : Int) / (b : Int) = ((a / b : Nat) : Int) := by simp
    rw [this]; exact wrap_nat _ (Nat.lt_of_le_of_lt (Nat.div_le_self _ _) ha)
  exact ⟨by simp [e1], below_drewN (Below.refl _ _) _⟩
theorem remw_any (A : Option Addr) (c a b : Nat) (w : World) (hA : Sets w A [a]) (ha : a < 18446744073709551616) (hb : b < 18446744073709551616) (hb0 : b ≠ 0) :
    Calls Tryz.prog 111 #[.slice A 1 c, .int .u64 b] w fun e w' => e = .returned (.int .u64 (a % b : Nat)) ∧ Below w.heap.size w w' := by
  obtain ⟨ad, rfl, hc⟩ := Sets.at hA (k := 0) (by simp)
  have hc0 : w.cell? ad = some (.int .u64 (a : Nat)) := by simpa [Addr.add] using hc
  clear hc
  go_enter Tryz.func111, Tryz.ntmps111
  go_wp2
  refine wp_loop_rounds 2 ?_
  rw [rounds_succ]
  go_wp2_with (go_at_call 125; refine (div64_any a b _ ha hb hb0).mono ?_; rintro e w1 ⟨rfl, hb1⟩)
  rw [rounds_succ]
  go_wp2
  go_ret
  exact ⟨rfl, hb1⟩
theorem nan64 (x : Nat) (w : World) : Calls Tryz.prog 129 #[.int .u64 x] w fun e w' => e = .returned (.bool false) ∧ w = w' := by
  go_enter Tryz.func129, Tryz.ntmps129
  go_wp2
  go_ret
  exact ⟨by simp, rfl⟩
/-- How two numbers compare. -/
def cmpN (a b : Nat) : Int := if a < b then -1 else if b < a then 1 else 0
theorem cmp64 (x y : Nat) (w : World) : Calls Tryz.prog 119 #[.int .u64 x, .int .u64 y] w fun e w' => e = .returned (.int .i64 (cmpN x y)) ∧ w = w' := by
  have go : ∀ z : Int, cmpN x y = z → Calls Tryz.prog 119 #[.int .u64 x, .int .u64 y] w fun e w' => e = .returned (.int .i64 z) ∧ w = w' := by
    intro z hz
    unfold cmpN at hz
    by_cases h1 : x < y
    · rw [if_pos h1] at hz
      subst hz
      go_enter Tryz.func119, Tryz.ntmps119
      go_wp2_with (go_at_call 129; refine (nan64 _ _).mono ?_; rintro e w' ⟨rfl, rfl⟩)
      go_ret
      exact ⟨rfl, rfl⟩
    · rw [if_neg h1] at hz
      by_cases h2 : y < x
      · rw [if_pos h2] at hz
        subst hz
        go_enter Tryz.func119, Tryz.ntmps119
        go_wp2_with (go_at_call 129; refine (nan64 _ _).mono ?_; rintro e w' ⟨rfl, rfl⟩)
        go_ret
        exact ⟨rfl, rfl⟩
      · rw [if_neg h2] at hz
        subst hz
        go_enter Tryz.func119, Tryz.ntmps119
        go_wp2_with (go_at_call 129; refine (nan64 _ _).mono ?_; rintro e w' ⟨rfl, rfl⟩)
        go_ret
        exact ⟨rfl, rfl⟩
  exact go _ rfl
end Go.Proofs.Tg
end
section
/- Walks: the greatest common divisor of two integers of one word; signs. -/
namespace Go.Proofs.Tg
open Go.RowKit Go.Qn Go.Gr
set_option maxHeartbeats 1000000
set_option maxRecDepth 100000
theorem Sets.one {w : World} {A : Option Addr} {a : Nat} (h : Sets w A [a]) : ∃ ad, A = some ad ∧ w.cell? ad = some (.int .u64 (a : Nat)) ∧ ad.block < w.heap.size := by
  obtain ⟨ad, rfl, hc⟩ := Sets.at h (k := 0) (by simp)
  have hc0 : w.cell? ad = some (.int .u64 (a : Nat)) := by simpa [Addr.add] using hc
  exact ⟨ad, rfl, hc0, World.block_lt_of_cell? w ad hc0⟩
theorem Sets.mk1 {w : World} {ad : Addr} {a : Nat} (h : w.cell? ad = some (.int .u64 (a : Nat))) : Sets w (some ad) [a] :=
  ⟨rfl, fun _ => ⟨ad, rfl, World.block_lt_of_cell? w ad h, fun j u hu => by
    match j with
    | 0 =>
      have e : u = .int .u64 (a : Nat) := by simpa [vs] using hu.symm
      subst e
      exact h
    | j + 1 => simp at hu⟩⟩
theorem cmpw_any (A B : Option Addr) (c d a b : Nat) (w : World) (hA : Sets w A [a]) (hB : Sets w B [b]) :
    Calls Tryz.prog 103 #[.slice A 1 c, .slice B 1 d] w fun e w' => e = .returned (.int .i64 (cmpN a b)) ∧ Below w.heap.size w w' := by
  obtain ⟨ad, rfl, h1, _⟩ := hA.one
  obtain ⟨bd, rfl, h2, _⟩ := hB.one
  clear hA hB
  by_cases hab : a = b
  · subst hab
    have hc : cmpN a a = 0 := by unfold cmpN; simp
    have HC := Lib.hid hc
    clear hc
    have hb : (((a : Nat) : Int) != (a : Int)) = false := by simp
    go_enter Tryz.func103, Tryz.ntmps103
    go_wp2
    refine wp_loop_rounds 2 ?_
    rw [rounds_succ]
    go_wp2
    go_quiet (fail)
    go_wp2
    rw [rounds_succ]
    go_wp2
    go_ret
    exact ⟨by rw [HC.out]; rfl, below_drewN (Below.refl _ _) _⟩
  · have hb : (((a : Nat) : Int) != (b : Int)) = true := by simp; omega
    have HC := Lib.hid (fun W => cmp64 a b W)
    clear hab
    generalize cmpN a b = z at *
    go_enter Tryz.func103, Tryz.ntmps103
    go_wp2
    refine wp_loop_rounds 1 ?_
    rw [rounds_succ]
    go_wp2
    go_quiet (fail)
    go_wp2
    have k1 : (w.drewN nq).cell? ad = some (.int .u64 (a : Nat)) := h1
    have k2 : (w.drewN nq).cell? bd = some (.int .u64 (b : Nat)) := h2
    have hbW : Below w.heap.size w (w.drewN nq) := below_drewN (Below.refl _ _) _
    generalize w.drewN nq = W at *
    go_quiet ((go_at_call 119; exact quiet_sm (HC.out _)))
    go_wp2
    go_ret
    exact ⟨rfl, below_drewN hbW _⟩
theorem clone_any (ad : Addr) (c a : Nat) (w : World) (hA : w.cell? ad = some (.int .u64 (a : Nat))) :
    Calls Tryz.prog 104 #[.slice (some ad) 1 c] w (RetSl 1 1 [.int .u64 a] w) := by
  obtain ⟨i0, hi, hz0, hz1, hz2⟩ := info_parts info73
  have hn : ∀ W : World, (binOp BinOp.eql 139 (.slice (some ad) 1 c) (.slice none 0 0)).run Tryz.prog W = .ok (.bool false) W := fun W => Lib.run_eql_slice_nil W _ _ _ _ _ _ _ Tryz.underlying139
  go_enter Tryz.func104, Tryz.ntmps104
  have hnew : ∀ j u, [Value.int .u64 (a : Nat)][j]? = some u → (w.alloc (.cells #[] 73)).cell? (ad.add j) = some u := by
    intro j u hu
    match j with
    | 0 =>
      have e : u = .int .u64 (a : Nat) := by simpa using hu.symm
      subst e
      exact cell_alloc hA _
    | j + 1 => simp at hu
  have HN := Lib.hid hnew
  clear hnew
  go_wp2_with (at_builtin; refine wpList_append_own _ rfl _ _ 139 rfl w.heap.size 73 i0 (.int .u64 0) 1 8 Tryz.underlying139 hi hz0 hz1 hz2 rfl (by decide) (.slice (some ⟨w.heap.size, 0, none⟩) 0 0) 0 [] rfl (World.ownsRow_made w #[] 0 (Nat.le_refl _) (by simp [maxLen]) rfl) ad 1 c [.int .u64 a] rfl rfl HN.out ?c2 ?c3 ?c4 ?c5 ?_
               case c2 => simp [Value.oneCell']
               case c3 => simp only [maxLen]; omega
               case c4 => omega
               case c5 => simp
               intro v' w2 hown' hgrow _)
  go_ret
  obtain ⟨A, c2, hv, hc2, hS⟩ := Sl.of_own hown'
  refine ⟨A, c2, by show Ending.returned v' = _; rw [hv], hc2, by simpa using hS, ?_⟩
  exact ((Below.refl _ _).alloc (Nat.le_refl _) _).grown hgrow (by simp) (fun k hk => by simp [Value.ownBlock] at hk; omega)
theorem sl_one {w : World} {A : Option Addr} {a : Nat} (h : Sl w A 1 1 [.int .u64 (a : Nat)]) : Sets w A [a] := h
/-- Both numbers have one word. -/
theorem gcds_any (A B : Option Addr) (c d a b : Nat) (w : World) (hA : Sets w A [a]) (hB : Sets w B [b]) (ha : a < 18446744073709551616) (hb : b < 18446744073709551616) (hb0 : b ≠ 0) (hT : Tab w) (z : Int) (hz : cmpN a b = z) (hz0 : 0 ≤ z) :
    Calls Tryz.prog 99 #[.slice A 1 c, .slice B 1 d] w (RetSl (wds (Nat.gcd a b)).length 1 ((wds (Nat.gcd a b)).map vs) w) := by
  have HC : Hid (∀ W, Below w.heap.size w W → Calls Tryz.prog 103 #[.slice A 1 c, .slice B 1 d] W fun e w' => e = .returned (.int .i64 z) ∧ Below W.heap.size W w') := Lib.hid (fun W h => by
    rw [← hz]; exact cmpw_any A B c d a b W (hA.keep h) (hB.keep h))
  clear hz
  have hzb : decide (z < 0) = false := by simp; omega
  go_enter Tryz.func99, Tryz.ntmps99
  go_wp2_with (go_at_call 103; refine (HC.out _ (Below.refl _ _)).mono ?_; rintro e w1 ⟨rfl, hb1⟩)
  obtain ⟨ad, rfl, k1, _⟩ := Sets.one (Sl.keep hA hb1)
  obtain ⟨bd, rfl, k2, _⟩ := Sets.one (Sl.keep hB hb1)
  refine (clone_any ad c a w1 k1).mono ?_
  rintro e w2 ⟨A1, c1, rfl, _, hS1, hb2⟩
  have k2' := keep_cell hb2 k2
  go_wp2_with (go_at_call 104; refine (clone_any bd d b w2 k2').mono ?_; rintro e w3 ⟨B1, d1, rfl, _, hS2, hb3⟩)
  refine wp_loop_rounds 1 ?_
  rw [rounds_succ]
  have hA3 : Sets w3 A1 [a] := Sl.keep hS1 hb3
  have hB3 : Sets w3 B1 [b] := hS2
  have hbw : Below w.heap.size w w3 := below_all (below_all hb1 hb2) hb3
  obtain ⟨be, rfl, k4, _⟩ := hB3.one
  have hT3 : Tab w3 := hT.below hbw hT.1
  have hz3 := hbw.size
  clear hS1 hS2 hb2 hb3 k2 k2' k1 hb1 hA hB hT HC
  obtain ⟨r, hr⟩ : ∃ r, a % b = r := ⟨_, rfl⟩
  have hg : Nat.gcd a b = Nat.gcd b r := by rw [← hr, Nat.gcd_comm, Nat.gcd_rec, Nat.gcd_comm]
  have hrl : r < 18446744073709551616 := by rw [← hr]; exact Nat.lt_of_le_of_lt (Nat.mod_le _ _) ha
  have hgl : Nat.gcd b r < 18446744073709551616 := by rw [← hg]; exact Nat.lt_of_le_of_lt (Nat.gcd_le_right _ (by omega)) hb
  have K1 : Hid (∀ W, Below w3.heap.size w3 W → Calls Tryz.prog 111 #[.slice A1 1 c1, .int .u64 b] W fun e w' => e = .returned (.int .u64 (r : Nat)) ∧ Below w3.heap.size w3 w') := Lib.hid (fun W h => by
    rw [← hr]; exact (remw_any A1 c1 a b W (hA3.keep h) ha hb hb0).mono fun e w' ⟨h1, h2⟩ => ⟨h1, below_all h h2⟩)
  have K2 : Hid (∀ W, Below w3.heap.size w3 W → Calls Tryz.prog 110 #[.int .u64 b, .int .u64 (r : Nat)] W fun e w' => e = .returned (.int .u64 (Nat.gcd b r : Nat)) ∧ Below w3.heap.size w3 w') := Lib.hid (fun W h => 
    (gword_any b r W hb hrl hb0 (hT3.below h hT3.1)).mono fun e w' ⟨h1, h2⟩ => ⟨h1, h2 ▸ h⟩)
  have HG := Lib.hid hg
  clear hg hr
  generalize Nat.gcd b r = g at *
  have K3 : Hid (∀ W, Below w3.heap.size w3 W → Calls Tryz.prog 109 #[.int .u64 (g : Nat)] W fun e w' => ∃ A c, e = .returned (.slice A (wds g).length c) ∧ (wds g).length ≤ c ∧ Sl w' A (wds g).length 1 ((wds g).map vs) ∧ Below w3.heap.size w3 w') := Lib.hid (fun W h => 
    (fword_any g W hgl).mono fun e w' ⟨A, c, h1, h2, h3, h4⟩ => ⟨A, c, h1, h2, h3, below_all h h4⟩)
  go_wp2
  have he : Below w3.heap.size w3 w3.drew := (Below.refl _ _).drew
  go_region_held3 (fun w' => w'.cell? be = some (.int .u64 (b : Nat))) (first | go_keep | exact keep_cell hbe k4)
    (first
      | (go_at_call 111; refine (K1.out _ (by assumption)).mono ?_; rintro e w' ⟨rfl, hbe⟩)
      | (go_at_call 110; refine (K2.out _ (by assumption)).mono ?_; rintro e w' ⟨rfl, hbe⟩)
      | (go_at_call 109; refine (K3.out _ (by assumption)).mono ?_; rintro e w' ⟨A2, c2, rfl, hl2, hs2, hbe⟩))
  all_goals
    go_wp2
    go_ret
    rw [HG.out]
    exact ⟨A2, c2, rfl, hl2, hs2, below_all hbw hbe⟩
/-- Both numbers have one word. -/
theorem gcds_lt (A B : Option Addr) (c d a b : Nat) (w : World) (hA : Sets w A [a]) (hB : Sets w B [b]) (ha : a < 18446744073709551616) (hb : b < 18446744073709551616) (ha0 : a ≠ 0) (hT : Tab w) (z : Int) (hz : cmpN a b = z) (hz0 : z < 0) :
    Calls Tryz.prog 99 #[.slice A 1 c, .slice B 1 d] w (RetSl (wds (Nat.gcd a b)).length 1 ((wds (Nat.gcd a b)).map vs) w) := by
  have HC : Hid (∀ W, Below w.heap.size w W → Calls Tryz.prog 103 #[.slice A 1 c, .slice B 1 d] W fun e w' => e = .returned (.int .i64 z) ∧ Below W.heap.size W w') := Lib.hid (fun W h => by
    rw [← hz]; exact cmpw_any A B c d a b W (hA.keep h) (hB.keep h))
  clear hz
  have hzb : decide (z < 0) = true := by simp; omega
  go_enter Tryz.func99, Tryz.ntmps99
  go_wp2_with (go_at_call 103; refine (HC.out _ (Below.refl _ _)).mono ?_; rintro e w1 ⟨rfl, hb1⟩)
  obtain ⟨ad, rfl, k1, _⟩ := Sets.one (Sl.keep hA hb1)
  obtain ⟨bd, rfl, k2, _⟩ := Sets.one (Sl.keep hB hb1)
  refine (clone_any bd d b w1 k2).mono ?_
  rintro e w2 ⟨A1, c1, rfl, _, hS1, hb2⟩
  have k1' := keep_cell hb2 k1
  go_wp2_with (go_at_call 104; refine (clone_any ad c a w2 k1').mono ?_; rintro e w3 ⟨B1, d1, rfl, _, hS2, hb3⟩)
  refine wp_loop_rounds 1 ?_
  rw [rounds_succ]
  have hA3 : Sets w3 A1 [b] := Sl.keep hS1 hb3
  have hB3 : Sets w3 B1 [a] := hS2
  have hbw : Below w.heap.size w w3 := below_all (below_all hb1 hb2) hb3
  obtain ⟨be, rfl, k4, _⟩ := hB3.one
  have hT3 : Tab w3 := hT.below hbw hT.1
  have hz3 := hbw.size
  clear hS1 hS2 hb2 hb3 k1 k1' k2 hb1 hA hB hT HC
  obtain ⟨r, hr⟩ : ∃ r, b % a = r := ⟨_, rfl⟩
  have hg : Nat.gcd a b = Nat.gcd a r := by rw [← hr, Nat.gcd_rec, Nat.gcd_comm]
  have hrl : r < 18446744073709551616 := by rw [← hr]; exact Nat.lt_of_le_of_lt (Nat.mod_le _ _) hb
  have hgl : Nat.gcd a r < 18446744073709551616 := by rw [← hg]; exact Nat.lt_of_le_of_lt (Nat.gcd_le_left _ (by omega)) ha
  have K1 : Hid (∀ W, Below w3.heap.size w3 W → Calls Tryz.prog 111 #[.slice A1 1 c1, .int .u64 a] W fun e w' => e = .returned (.int .u64 (r : Nat)) ∧ Below w3.heap.size w3 w') := Lib.hid (fun W h => by
    rw [← hr]; exact (remw_any A1 c1 b a W (hA3.keep h) hb ha ha0).mono fun e w' ⟨h1, h2⟩ => ⟨h1, below_all h h2⟩)
  have K2 : Hid (∀ W, Below w3.heap.size w3 W → Calls Tryz.prog 110 #[.int .u64 a, .int .u64 (r : Nat)] W fun e w' => e = .returned (.int .u64 (Nat.gcd a r : Nat)) ∧ Below w3.heap.size w3 w') := Lib.hid (fun W h => 
    (gword_any a r W ha hrl ha0 (hT3.below h hT3.1)).mono fun e w' ⟨h1, h2⟩ => ⟨h1, h2 ▸ h⟩)
  have HG := Lib.hid hg
  clear hg hr
  generalize Nat.gcd a r = g at *
  have K3 : Hid (∀ W, Below w3.heap.size w3 W → Calls Tryz.prog 109 #[.int .u64 (g : Nat)] W fun e w' => ∃ A d, e = .returned (.slice A (wds g).length d) ∧ (wds g).length ≤ d ∧ Sl w' A (wds g).length 1 ((wds g).map vs) ∧ Below w3.heap.size w3 w') := Lib.hid (fun W h => 
    (fword_any g W hgl).mono fun e w' ⟨A, d, h1, h2, h3, h4⟩ => ⟨A, d, h1, h2, h3, below_all h h4⟩)
  go_wp2
  have he : Below w3.heap.size w3 w3.drew := (Below.refl _ _).drew
  go_region_held3 (fun w' => w'.cell? be = some (.int .u64 (a : Nat))) (first | go_keep | exact keep_cell hbe k4)
    (first
      | (go_at_call 111; refine (K1.out _ (by assumption)).mono ?_; rintro e w' ⟨rfl, hbe⟩)
      | (go_at_call 110; refine (K2.out _ (by assumption)).mono ?_; rintro e w' ⟨rfl, hbe⟩)
      | (go_at_call 109; refine (K3.out _ (by assumption)).mono ?_; rintro e w' ⟨A2, c2, rfl, hl2, hs2, hbe⟩))
  all_goals
    go_wp2
    go_ret
    rw [HG.out]
    exact ⟨A2, c2, rfl, hl2, hs2, below_all hbw hbe⟩
theorem gcdw_any (A B : Option Addr) (c d a b : Nat) (w : World) (hA : Sets w A [a]) (hB : Sets w B [b]) (ha : a < 18446744073709551616) (hb : b < 18446744073709551616) (ha0 : a ≠ 0) (hb0 : b ≠ 0) (hT : Tab w) :
    Calls Tryz.prog 99 #[.slice A 1 c, .slice B 1 d] w (RetSl (wds (Nat.gcd a b)).length 1 ((wds (Nat.gcd a b)).map vs) w) := by
  by_cases h : a < b
  · exact gcds_lt A B c d a b w hA hB ha hb ha0 hT _ rfl (by unfold cmpN; rw [if_pos h]; decide)
  · refine gcds_any A B c d a b w hA hB ha hb hb0 hT _ rfl ?_
    unfold cmpN; rw [if_neg h]; split <;> decide
end Go.Proofs.Tg
end
