/- Parts of the proof: WS1, WD4, NU6, NU7, NU11, NU13, RQ0, FI1, Fr35, Fr36. -/
import Derived.Test.YtbgaiceakmmfdaaGreatDoorProg
import Derived.WalkKit
import Derived.WalkSpells
import Derived.WalkLawsBesides
import Derived.Deep.QuietTactic
import Derived.BigQuiet
import Derived.Lib.Hide
import Derived.Lib.Strings
import Derived.Lib.IndexBytes
import Derived.Outline
import Derived.Laws.ShiftsVarLaws
import Derived.Laws.OwnMore
import Derived.Maps.AppendAt
import Derived.Maps.OwnOps
import Derived.Maps.OwnSet
import Derived.Maps.Views
import Derived.Laws.IdiomStrings
import Derived.Laws.BytesArg
import Derived.Carry
import Derived.Deep.Cut
import Derived.Deep.RegionHeld3
import Derived.Shelf.Strconv.Itoa4
import Derived.Lib.AppendIntMem
import Derived.Test.YtbgaiceakmmfdaaGreatDoorCards
import Derived.Test.YtbgaiceakmmfdaaGreatDoorTie
import Derived.LaidSub
import Derived.Lib.TrailingZeros
import Derived.ProofKit
import Derived.OpenShut
import Derived.Deep.Slices
import Derived.Deep.Matrix
import Derived.Deep.DeepHandedRow
import Derived.Lib.LaidTab
import Derived.Test.YtbgaiceakmmfdaaGreatDoorMMR0
set_option maxHeartbeats 64000000
set_option maxRecDepth 100000
namespace Go.Proofs.Tg
section
open Go.RowKit Go.Qn
def bs (l : List UInt8) : ByteArray := ⟨l.toArray⟩
theorem bs_self (s : ByteArray) : bs s.data.toList = s := by cases s; rfl
theorem bs_data (l : List UInt8) : (bs l).data.toList = l := rfl
theorem bs_size (l : List UInt8) : (bs l).size = l.length := by show l.toArray.size = _; simp
theorem ext_bs (s : ByteArray) (a b : Nat) : s.extract a b = bs ((s.data.toList.drop a).take (b - a)) := by rw [← bs_self (s.extract a b), Lib.extract_data]
theorem ext_end (s : ByteArray) (a : Nat) : s.extract a s.size = bs (s.data.toList.drop a) := by rw [← bs_self (s.extract a s.size), Lib.extract_to_end]
theorem len_size (s : ByteArray) : s.data.toList.length = s.size := by rw [Array.length_toList]; rfl
theorem hasp_anyL (s : ByteArray) (w : World) (hs : s.size ≤ 4000) :
    Calls Tryz.prog 107 #[.string s, .string ⟨#[45]⟩] w fun e w' => e = .returned (.bool (decide (s.data.toList.head? = some 45))) ∧ w = w' := by
  go_enter Tryz.func107, Tryz.ntmps107; go_wp2
  ·have h1 : 1 ≤ (s.size : Int) := by assumption
   go_ret; refine ⟨?_, rfl⟩
   show Ending.returned (.bool ((s.extract 0 1).toList == [45])) = _
   rw [Lib.toList_data, Lib.extract_data]; have hl := len_size s
   congr 2
   cases hd : s.data.toList with
   | nil => rw [hd] at hl; simp at hl; omega
   | cons c t => by_cases hc : c = 45 <;> simp [hc]
  ·have h1 : (s.size : Int) < 1 := by assumption
   go_ret; refine ⟨?_, rfl⟩; have hl := len_size s; have : s.data.toList = [] := List.eq_nil_of_length_eq_zero (by omega); rw [this]; rfl
theorem hasp_any (s : ByteArray) (w : World) (hs : s.size ≤ 64) :
    Calls Tryz.prog 107 #[.string s, .string ⟨#[45]⟩] w fun e w' => e = .returned (.bool (decide (s.data.toList.head? = some 45))) ∧ w = w' := hasp_anyL s w (by omega)
theorem hasp_tL (s : ByteArray) (w : World) (hs : s.size ≤ 4000) (h : s.data.toList.head? = some 45) :
    Calls Tryz.prog 107 #[.string s, .string ⟨#[45]⟩] w fun e w' => e = .returned (.bool true) ∧ w = w' :=
  (hasp_anyL s w hs).mono fun e w' ⟨h1, h2⟩ => ⟨by rw [h1, dT h], h2⟩
theorem hasp_t (s : ByteArray) (w : World) (hs : s.size ≤ 64) (h : s.data.toList.head? = some 45) :
    Calls Tryz.prog 107 #[.string s, .string ⟨#[45]⟩] w fun e w' => e = .returned (.bool true) ∧ w = w' := hasp_tL s w (by omega) h
theorem hasp_fL (s : ByteArray) (w : World) (hs : s.size ≤ 4000) (h : s.data.toList.head? ≠ some 45) :
    Calls Tryz.prog 107 #[.string s, .string ⟨#[45]⟩] w fun e w' => e = .returned (.bool false) ∧ w = w' :=
  (hasp_anyL s w hs).mono fun e w' ⟨h1, h2⟩ => ⟨by rw [h1, dF h], h2⟩
theorem hasp_f (s : ByteArray) (w : World) (hs : s.size ≤ 64) (h : s.data.toList.head? ≠ some 45) :
    Calls Tryz.prog 107 #[.string s, .string ⟨#[45]⟩] w fun e w' => e = .returned (.bool false) ∧ w = w' := hasp_fL s w (by omega) h
theorem cutl_anyL (s : ByteArray) (w : World) (hs : s.size ≤ 4000) :
    Calls Tryz.prog 82 #[.string s, .string ⟨#[45]⟩] w fun e w' => e = .returned (.tuple #[.string (bs (cut s.data.toList).2), .bool (cut s.data.toList).1]) ∧ w = w' := by
  by_cases h : s.data.toList.head? = some 45
  ·have h1 : 1 ≤ (s.size : Int) := by
    have hl := len_size s
    cases hd : s.data.toList with
    | nil => rw [hd] at h; cases h
    | cons c t => rw [hd] at hl; simp at hl; omega
   have H := zh h; clear h; go_enter Tryz.func82, Tryz.ntmps82
   go_wp2_with (go_at_call 107; refine (hasp_tL _ _ hs H.out).mono ?_; rintro e w' ⟨rfl, rfl⟩)
   go_ret2
   refine ⟨?_, rfl⟩; have H := H.out
   show Ending.returned (.tuple #[.string (s.extract 1 s.size), .bool true]) = _
   rw [ext_end]; unfold cut; rw [if_pos H]; simp
  ·have H := zh h; clear h; go_enter Tryz.func82, Tryz.ntmps82
   go_wp2_with (go_at_call 107; refine (hasp_fL _ _ hs H.out).mono ?_; rintro e w' ⟨rfl, rfl⟩)
   go_ret2
   refine ⟨?_, rfl⟩; have H := H.out
   show Ending.returned (.tuple #[.string s, .bool false]) = _
   unfold cut; rw [if_neg H, bs_self]
theorem cutl_any (s : ByteArray) (w : World) (hs : s.size ≤ 64) :
    Calls Tryz.prog 82 #[.string s, .string ⟨#[45]⟩] w fun e w' => e = .returned (.tuple #[.string (bs (cut s.data.toList).2), .bool (cut s.data.toList).1]) ∧ w = w' := cutl_anyL s w (by omega)
theorem cutp_anyL (s : ByteArray) (w : World) (hs : s.size ≤ 4000) :
    Calls Tryz.prog 65 #[.string s, .string ⟨#[45]⟩] w fun e w' => e = .returned (.tuple #[.string (bs (cut s.data.toList).2), .bool (cut s.data.toList).1]) ∧ w = w' := by
  go_enter Tryz.func65, Tryz.ntmps65
  go_wp2_with (go_at_call 82; refine (cutl_anyL _ _ hs).mono ?_; rintro e w' ⟨rfl, rfl⟩)
  go_ret2
  exact ⟨rfl, rfl⟩
theorem cutp_any (s : ByteArray) (w : World) (hs : s.size ≤ 64) :
    Calls Tryz.prog 65 #[.string s, .string ⟨#[45]⟩] w fun e w' => e = .returned (.tuple #[.string (bs (cut s.data.toList).2), .bool (cut s.data.toList).1]) ∧ w = w' := cutp_anyL s w (by omega)
theorem tw_at {p : UInt8 → Bool} (l : List UInt8) (k : Nat) (h : ∀ c ∈ l.take k, p c = true) (hx : l.length ≤ k ∨ ∃ h : k < l.length, p l[k] = false) : l.takeWhile p = l.take k ∧ l.dropWhile p = l.drop k := by
 have := tw_app (p := p) (l.take k) (l.drop k) h (by
  rcases hx with hx | ⟨hk, hx⟩
  ·left; rw [List.drop_eq_nil_iff]; exact hx
  ·right; exact ⟨l[k], l.drop (k + 1), by rw [List.drop_eq_getElem_cons hk], hx⟩)
 rwa [List.take_append_drop] at this
theorem isD_int {c : UInt8} (h : isD c = true) : (48 : Int) ≤ (c.toNat : Int) ∧ (c.toNat : Int) ≤ 57 := by rw [isD_iff] at h; omega
set_option maxHeartbeats 1000000 in
theorem digits_anyL (s : ByteArray) (w : World) (hs : s.size ≤ 4000) :
    Calls Tryz.prog 66 #[.string s] w fun e w' => e = .returned (.tuple #[.string (bs (s.data.toList.takeWhile isD)), .string (bs (s.data.toList.dropWhile isD))]) ∧ Below w.heap.size w w' := by
  go_enter Tryz.func66, Tryz.ntmps66; go_wp2
  go_loop [4] (fun i => ∃ k : Nat, k ≤ s.size ∧ i = .int .i64 k ∧ Hid (∀ c ∈ s.data.toList.take k, isD c = true)) (fun i => s.size - (intOf i).toNat)
  case atStart => exact ⟨0, Nat.zero_le _, rfl, zh (by simp)⟩
  case round =>
   obtain ⟨k, hk, rfl, HD⟩ := hrel; have hl := zh (len_size s)
   by_cases hlt : k < s.size
   ·by_cases hc : isD s[k] = true
    ·obtain ⟨c1, c2⟩ := isD_int hc
     have d1 : decide ((48 : Int) ≤ (s[k].toNat : Int)) = true := by simpa using c1
     have d2 : decide ((s[k].toNat : Int) ≤ 57) = true := by simpa using c2
     have HD' : Hid (∀ c ∈ s.data.toList.take (k + 1), isD c = true) := zh (by
      intro c hc'; rw [List.take_succ_eq_append_getElem (by rw [hl.out]; exact hlt)] at hc'
      rcases List.mem_append.1 hc' with h | h
      ·exact HD.out c h
      ·simp only [List.mem_cons, List.not_mem_nil, or_false] at h
       rw [h]; exact hc)
     clear hc; go_wp2; go_round
     case rel => exact ⟨k + 1, by omega, by go_num, HD'⟩
     case measure => simp [intOf]; omega
    ·have hx : (s[k].toNat : Int) < 48 ∨ 57 < (s[k].toNat : Int) := by
      rw [isD_iff] at hc; omega
     have HX : Hid (s.data.toList.takeWhile isD = s.data.toList.take k ∧ s.data.toList.dropWhile isD = s.data.toList.drop k) := zh (tw_at _ k HD.out (.inr ⟨by rw [hl.out]; exact hlt, eq_false_of_ne_true hc⟩)); clear hc
     have q1 : (k : Int) ≤ (s.size : Int) := by omega
     have q2 : (0 : Int) ≤ (k : Int) := by omega
     have q3 : ((k : Int)).toNat = k := by omega
     rcases hx with hx | hx
     ·have d1 : decide ((48 : Int) ≤ (s[k].toNat : Int)) = false := by simp; omega
      go_wp2
      go_quiet (fail)
      go_wp2
      go_ret2
      refine ⟨?_, below_drewN brf _⟩
      show Ending.returned (.tuple #[.string (s.extract 0 k), .string (s.extract k s.size)]) = _
      rw [ext_bs, ext_end, HX.out.1, HX.out.2]; simp
     ·have d1 : decide ((48 : Int) ≤ (s[k].toNat : Int)) = true := by simp; omega
      have d2 : decide ((s[k].toNat : Int) ≤ 57) = false := by simp; omega
      go_wp2
      go_quiet (fail)
      go_wp2
      go_ret2
      refine ⟨?_, below_drewN brf _⟩
      show Ending.returned (.tuple #[.string (s.extract 0 k), .string (s.extract k s.size)]) = _
      rw [ext_bs, ext_end, HX.out.1, HX.out.2]; simp
   ·obtain rfl : k = s.size := by omega
    have HX : Hid (s.data.toList.takeWhile isD = s.data.toList.take s.size ∧ s.data.toList.dropWhile isD = s.data.toList.drop s.size) := zh (tw_at _ s.size HD.out (.inl (by rw [hl.out]; omega)))
    have q2 : (0 : Int) ≤ (s.size : Int) := by omega
    have q3 : ((s.size : Int)).toNat = s.size := by omega
    have d0 : decide (s.size < s.size) = false := by simp
    go_wp2
    go_quiet (fail)
    go_wp2
    go_ret2
    refine ⟨?_, below_drewN brf _⟩
    show Ending.returned (.tuple #[.string s, .string ByteArray.empty]) = _
    have h1 : s.data.toList.take s.size = s.data.toList := List.take_of_length_le (by rw [hl.out]; omega); have h2 : s.data.toList.drop s.size = [] := List.drop_eq_nil_iff.2 (by rw [hl.out]; omega); rw [HX.out.1, HX.out.2, h1, h2, bs_self]; rfl
theorem digits_any (s : ByteArray) (w : World) (hs : s.size ≤ 64) :
    Calls Tryz.prog 66 #[.string s] w fun e w' => e = .returned (.tuple #[.string (bs (s.data.toList.takeWhile isD)), .string (bs (s.data.toList.dropWhile isD))]) ∧ Below w.heap.size w w' := digits_anyL s w (by omega)
end
end Go.Proofs.Tg
namespace Go.Proofs.Tg
section
open Go.RowKit Go.Gr Go.Ev Go
open Go.ChangeShapes Go.WideShapes
def vb (c : UInt8) : Value := .int .u8 (c.toNat : Int)
theorem byte_info : (Tryz.prog.info? 5).map (fun i => (i.zero, i.size, i.bytes)) = some (some (.int .u8 0), 1, 1) := by kernel_rfl
theorem conv_name (w : World) (A : Option Addr) (c : Nat) (l : List UInt8) (h : Sl w A l.length 1 (l.map vb)) : (convert 91 9 (.slice A l.length c)).run Tryz.prog w = .ok (.string (bs l)) w := by
 by_cases h0 : l = []
 ·subst h0
  cases A with
  | none => exact run_convert_bytes_nil w _ 5 Tryz.underlying91 Tryz.underlying5 0 c _ Tryz.underlying9
  | some ad => exact run_convert_bytes_back w _ _ 5 ad c [] Tryz.underlying91 Tryz.underlying5 Tryz.underlying9 (fun j hj => by simp at hj)
 ·obtain ⟨ad, rfl, _, ha⟩ := h.lies (List.length_pos_iff.2 h0)
  exact run_convert_bytes_back w _ _ 5 ad c l Tryz.underlying91 Tryz.underlying5 Tryz.underlying9 (fun j hj => ha j _ (by simp [hj, vb]))
end
end Go.Proofs.Tg
namespace Go.Proofs.Tg
section
open Go.RowKit Go.Gr
def blen (v : Nat) : Nat := if v = 0 then 0 else blen (v / 2) + 1
termination_by v
decreasing_by omega
theorem blen_zero : blen 0 = 0 := by unfold blen; simp
theorem blen_pos {v : Nat} (h : v ≠ 0) : blen v = blen (v / 2) + 1 := by rw [blen]; simp [h]
theorem blen_one {v : Nat} : blen v = 1 ↔ v = 1 := by
 by_cases h : v = 0
 ·subst h; rw [blen_zero]
 ·rw [blen_pos h]
  by_cases h2 : v / 2 = 0
  ·rw [h2, blen_zero]; omega
  ·rw [blen_pos h2]; omega
theorem blen_gt {v : Nat} : 1 < blen v ↔ 1 < v := by
 by_cases h : v = 0
 ·subst h; rw [blen_zero]
 ·rw [blen_pos h]
  by_cases h2 : v / 2 = 0
  ·rw [h2, blen_zero]; omega
  ·rw [blen_pos h2]; omega
theorem blen_le : ∀ (n v : Nat), v ≤ n → blen v ≤ v
  | 0, v, h => by
    obtain rfl : v = 0 := by omega
    rw [blen_zero]; exact Nat.le_refl _
  | n + 1, v, h => by
    by_cases h0 : v = 0
    ·subst h0; rw [blen_zero]; exact Nat.le_refl _
    ·rw [blen_pos h0]; have := blen_le n (v / 2) (by omega); omega
theorem bits_one (b : Bool) (A : Option Addr) (c v : Nat) (w : World) (hA : Digs w A [v]) (hv : v < 4294967296) :
    Calls Tryz.prog 61 #[.agg #[.bool b, .slice A 1 c]] w fun e w' => e = .returned (.int .i64 (blen v : Nat)) ∧ Below w.heap.size w w' := by
  have hbA : Below w.heap.size w (w.alloc (.cells #[.bool b, .slice A 1 c] 52)) := bal; obtain ⟨ad, rfl, ha⟩ := Digs.at hA (k := 0) (by simp)
  have ha : w.cell? ad = some (.int .u32 (v : Nat)) := by simpa [Addr.add] using ha
  have hlt : ad.block < w.heap.size := World.block_lt_of_cell? w _ ha; have hle := blen_le v v (Nat.le_refl _); obtain ⟨q, hq⟩ := eqx (blen v); rw [hq] at hle ⊢; have HQ := zh hq; clear hA hq; go_enter Tryz.func61, Tryz.ntmps61; go_wp2
  go_loop [3, 4] (fun s3 s4 => ∃ k x : Nat, s3 = .int .i64 k ∧ s4 = .int .u32 x ∧ x < 4294967296 ∧ k ≤ q ∧ Hid (k + blen x = q)) (fun _ s4 => (intOf s4).toNat)
  case atStart => exact ⟨0, v, rfl, rfl, hv, Nat.zero_le _, zh (by rw [HQ.out]; omega)⟩
  case round =>
   obtain ⟨k, x, rfl, rfl, hx, hk, HK⟩ := hrel
   by_cases h0 : x = 0
   ·subst h0
    obtain rfl : k = q := by have := HK.out; rw [blen_zero] at this; omega
    go_wp2; go_ret; exact ⟨rfl, hbA⟩
   ·have hd : decide ((0 : Int) < (x : Int)) = true := by simp; omega
    have hd' : decide (0 < x) = true := by simp; omega
    have HK2 : Hid (k + 1 + blen (x / 2) = q) := zh (by have := HK.out; rw [blen_pos h0] at this; omega)
    have hk1 : k + 1 ≤ q := by have := HK2.out; omega
    have hx2 : (x : Int).fdiv (2 ^ min (Int.toNat 1) IntKind.u32.bits) = ((x / 2 : Nat) : Int) := by
     have e : (2 : Int) ^ min (Int.toNat 1) IntKind.u32.bits = 2 := by decide
     rw [e, Int.fdiv_eq_ediv_of_nonneg _ (by omega)]; simp
    go_wp2; go_round
    case rel => exact ⟨k + 1, x / 2, by go_num, by simp, by omega, hk1, HK2⟩
    case measure => simp [intOf]; omega
def mg (v : Nat) : List Nat := if v = 0 then [] else [v]
theorem digs_blk {w : World} {g : Nat} {v : Nat} (h : Blk w g 103 #[.int .u32 (v : Nat)]) : Digs w (some ⟨g, 0, none⟩) [v] :=
  digs_of (xs := [v]) h
end
end Go.Proofs.Tg
namespace Go.Proofs.Tg
section
open Go.RowKit Go.Gr Go.Qn
def ddg (v : Nat) : List UInt8 := if v = 0 then [] else Lib.decDigits v
theorem ddg_step (x r : Nat) (hr : r < 10) (h : ¬ (x = 0 ∧ r = 0)) : ddg (10 * x + r) = ddg x ++ [UInt8.ofNat (48 + r)] := by
 unfold ddg
 rw [if_neg (by omega)]
 by_cases h0 : x = 0
 ·subst h0
  rw [if_pos rfl, Lib.decDigits, dif_pos (by omega)]; simp
 ·rw [if_neg h0, Lib.decDigits, dif_neg (by omega), show (10 * x + r) / 10 = x by omega, show (10 * x + r) % 10 = r by omega]
theorem pow_split (v j : Nat) : v / 10 ^ j = 10 * (v / 10 ^ (j + 1)) + v / 10 ^ j % 10 := by
 have : v / 10 ^ (j + 1) = v / 10 ^ j / 10 := by rw [Nat.pow_succ, Nat.div_div_eq_div_mul]
 rw [this]; omega
theorem digits_nil (b : Bool) (A : Option Addr) (c : Nat) (w : World) :
    Calls Tryz.prog 63 #[.agg #[.bool b, .slice A 0 c]] w fun e w' => e = .returned (.string ⟨#[48]⟩) ∧ Below w.heap.size w w' := by
  have hbA : Below w.heap.size w (w.alloc (.cells #[.bool b, .slice A 0 c] 52)) := bal; go_enter Tryz.func63, Tryz.ntmps63; go_wp2; go_ret; exact ⟨rfl, hbA⟩
theorem dec_len (k : Nat) : ∀ n, n < 10 ^ (k + 1) → (Lib.decDigits n).length ≤ k + 1 := by
 induction k with
 | zero =>
   intro n hn; rw [Lib.decDigits, dif_pos (by simpa using hn)]; simp
 | succ k ih =>
   intro n hn
   by_cases h : n < 10
   ·rw [Lib.decDigits, dif_pos h]; simp
   ·rw [Lib.decDigits, dif_neg h, List.length_append]; have := ih (n / 10) (by rw [Nat.pow_succ] at hn; omega); simp; omega
theorem bs_app (a b : List UInt8) : bs (a ++ b) = bs a ++ bs b := by
 rw [← bs_self (bs a ++ bs b)]
 congr 1
end
end Go.Proofs.Tg
namespace Go.Rq
section
open Go.Qn Go.Proofs.Tg
def qtx (q : Rat) : ByteArray := bs (text (decide (q.num < 0)) q.num.natAbs q.den)
theorem canon (q : Rat) : Canon (decide (q.num < 0)) q.num.natAbs q.den := by
 refine ⟨q.den_pos, q.reduced, fun h => dF ?_⟩
 omega
theorem sgq (q : Rat) : (if decide (q.num < 0) = true then -(q.num.natAbs : Int) else (q.num.natAbs : Int)) = q.num := by
 by_cases h : q.num < 0
 ·rw [dT h, if_pos rfl]; omega
 ·rw [dF h, if_neg (by decide)]; omega
def Sh (q : Rat) : Prop := q.num.natAbs < 1000000000 ∧ q.den < 1000000000
theorem text_len {b : Bool} {n d : Nat} (hn : n < 1000000000) (hd : d < 1000000000) : (text b n d).length ≤ 20 := by
 unfold text
 have h1 := dec_len 8 n hn
 have h2 := dec_len 8 d hd
 by_cases h : d = 1
 ·rw [if_pos h]
  cases b <;> simp <;> omega
 ·rw [if_neg h]
  cases b <;> simp <;> omega
theorem dec_nine {n : Nat} (hn : n < 1000000000) : (Lib.decDigits n).length ≤ 9 := dec_len 8 n hn
theorem mk_num (z : Int) (m : Nat) (h : m ≠ 0) : (mkRat z m).num.natAbs = z.natAbs / Nat.gcd z.natAbs m ∧ (mkRat z m).den = m / Nat.gcd z.natAbs m ∧ ((mkRat z m).num < 0 ↔ z < 0) := by
 have hg : 0 < Nat.gcd z.natAbs m := Nat.gcd_pos_of_pos_right _ (by omega)
 rw [Rat.num_mkRat, Rat.den_mkRat, if_neg h, if_neg h, Nat.gcd_comm m]
 have hd : ((Nat.gcd z.natAbs m : Nat) : Int) ∣ z := Int.ofNat_dvd_left.2 (Nat.gcd_dvd_left _ _)
 refine ⟨by rw [Int.natAbs_ediv_of_dvd hd, Int.natAbs_natCast], rfl, ?_⟩
 obtain ⟨c, hc⟩ := hd
 have hgI : (0 : Int) < ((Nat.gcd z.natAbs m : Nat) : Int) := by omega
 generalize hG : ((Nat.gcd z.natAbs m : Nat) : Int) = G at *
 rw [hc, Int.mul_ediv_cancel_left _ (by omega)]
 constructor
 ·intro h1; exact Int.mul_neg_of_pos_of_neg hgI h1
 ·intro h1
  rcases Int.lt_or_le c 0 with h2 | h2
  ·exact h2
  ·have := Int.mul_nonneg (Int.le_of_lt hgI) h2; omega
end
end Go.Rq
section
namespace Go.Proofs.Tg.Fi
open Go.Shelf
def fmtLay_ren : Go.Shelf.Ren := ⟨fun | 173 => 42 | 246 => 69 | 283 => 92 | 284 => 93 | 285 => 94 | 286 => 95 | 129 => 117 | 317 => 116 | 318 => 118 | 319 => 119 | 320 => 120 | 337 => 135 | 338 => 114 | n => n, fun | 2 => 2 | 3 => 3 | 9 => 9 | 4 => 4 | 171 => 142 | 0 => 0 | 53 => 118 | 37 => 91 | 5 => 5 | 173 => 145 | 212 => 158 | 51 => 103 | 20 => 20 | 213 => 159 | 46 => 124 | 232 => 176 | 233 => 171 | n => n, fun | 17 => 0 | 18 => 4 | 19 => 1 | n => n⟩
theorem fmtLay : Go.Proofs.LaysM.n173 Tryz.prog fmtLay_ren := {
  mixed := by kernel_rfl
  f129 := Tryz.func117.trans (congrArg some (by kernel_rfl))
  f173 := Tryz.func42.trans (congrArg some (by kernel_rfl))
  f246 := Tryz.func69.trans (congrArg some (by kernel_rfl))
  f283 := Tryz.func92.trans (congrArg some (by kernel_rfl))
  f284 := Tryz.func93.trans (congrArg some (by kernel_rfl))
  f285 := Tryz.func94.trans (congrArg some (by kernel_rfl))
  f286 := Tryz.func95.trans (congrArg some (by kernel_rfl))
  f317 := Tryz.func116.trans (congrArg some (by kernel_rfl))
  f318 := Tryz.func118.trans (congrArg some (by kernel_rfl))
  f319 := Tryz.func119.trans (congrArg some (by kernel_rfl))
  f320 := Tryz.func120.trans (congrArg some (by kernel_rfl))
  f337 := Tryz.func135.trans (congrArg some (by kernel_rfl))
  f338 := Tryz.func114.trans (congrArg some (by kernel_rfl))
  t0 := Tryz.underlying0
  a0 := Tryz.isAgg0
  z0 := Tryz.sizeOf0
  v0 := Tryz.zeroValue0
  t2 := Tryz.underlying2
  a2 := Tryz.isAgg2
  z2 := Tryz.sizeOf2
  v2 := Tryz.zeroValue2
  t3 := Tryz.underlying3
  a3 := Tryz.isAgg3
  z3 := Tryz.sizeOf3
  v3 := Tryz.zeroValue3
  t4 := Tryz.underlying4
  a4 := Tryz.isAgg4
  z4 := Tryz.sizeOf4
  v4 := Tryz.zeroValue4
  t5 := Tryz.underlying5
  a5 := Tryz.isAgg5
  z5 := Tryz.sizeOf5
  v5 := Tryz.zeroValue5
  t9 := Tryz.underlying9
  a9 := Tryz.isAgg9
  z9 := Tryz.sizeOf9
  v9 := Tryz.zeroValue9
  t20 := Tryz.underlying20
  a20 := Tryz.isAgg20
  z20 := Tryz.sizeOf20
  v20 := Tryz.zeroValue20
  t37 := Tryz.underlying91
  a37 := Tryz.isAgg91
  z37 := Tryz.sizeOf91
  v37 := Tryz.zeroValue91
  t46 := Tryz.underlying124
  a46 := Tryz.isAgg124
  z46 := Tryz.sizeOf124
  v46 := Tryz.zeroValue124
  t51 := Tryz.underlying103
  a51 := Tryz.isAgg103
  z51 := Tryz.sizeOf103
  v51 := Tryz.zeroValue103
  t53 := Tryz.underlying118
  a53 := Tryz.isAgg118
  z53 := Tryz.sizeOf118
  v53 := Tryz.zeroValue118
  t171 := Tryz.underlying142
  a171 := Tryz.isAgg142
  z171 := Tryz.sizeOf142
  v171 := Tryz.zeroValue142
  t173 := Tryz.underlying145
  a173 := Tryz.isAgg145
  z173 := Tryz.sizeOf145
  v173 := Tryz.zeroValue145
  t212 := Tryz.underlying158
  a212 := Tryz.isAgg158
  z212 := Tryz.sizeOf158
  v212 := Tryz.zeroValue158
  t213 := Tryz.underlying159
  a213 := Tryz.isAgg159
  z213 := Tryz.sizeOf159
  t232 := Tryz.underlying176
  a232 := Tryz.isAgg176
  z232 := Tryz.sizeOf176
  v232 := Tryz.zeroValue176
  t233 := Tryz.underlying171
  a233 := Tryz.isAgg171
  z233 := Tryz.sizeOf171
  v233 := Tryz.zeroValue171
  g17 := by kernel_rfl
  g18 := by kernel_rfl
  g19 := by kernel_rfl
  i0 := by kernel_rfl
  i2 := by kernel_rfl
  i3 := by kernel_rfl
  i4 := by kernel_rfl
  i5 := by kernel_rfl
  i9 := by kernel_rfl
  i20 := by kernel_rfl
  i37 := by kernel_rfl
  i46 := by kernel_rfl
  i51 := by kernel_rfl
  i53 := by kernel_rfl
  i171 := by kernel_rfl
  i173 := by kernel_rfl
  i212 := by kernel_rfl
  i232 := by kernel_rfl
  i233 := by kernel_rfl
  m17 := by kernel_rfl
  m18 := by kernel_rfl
  m19 := by kernel_rfl }
open Go.RowKit Go.Rq Go.Qn
def PT (w : World) : Prop := Lib.TabIs Tryz.prog w "internal/strconv.uint64pow10" .u64 Lib.pow10Tab
theorem PT.keep {w w' : World} (h : PT w) (hb : Below w.heap.size w w') : PT w' := Lib.tabBelow_of_tabIs h w' hb
theorem fmti_any (n : Int) (h0 : -9223372036854775808 ≤ n) (h1 : n ≤ 9223372036854775807) (w : World) (ht : PT w) :
    Calls Tryz.prog 42 #[.int .i64 n, .int .i64 10] w fun e w' => e = .returned (.string (bs (Lib.itoa n))) ∧ Below w.heap.size w w' := by
  refine Calls.mono (Any.strconv_FormatInt_10 fmtLay n h0 h1 w ht) ?_; rintro e w' ⟨rfl, k, os, rfl⟩; exact ⟨rfl, Lib.below_grow _ w (Nat.le_refl _) k os⟩
theorem itoa_text (n : Int) : Lib.itoa n = text (decide (n < 0)) n.natAbs 1 := by
 unfold Lib.itoa text
 by_cases h : n < 0
 ·rw [if_pos h, dT h]; simp
 ·rw [if_neg h, dF h]
  have : n.toNat = n.natAbs := by omega
  simp [this]
end Go.Proofs.Tg.Fi
end
section
namespace Go.Proofs.YtbgaiceakmmfdaaGreatDoor.Fr
open Go.ChangeShapes Go.WideShapes Go.ChangeAt Go.RowKit Go.Deep Go.Proofs.Tg Go.Gr
section
variable {H : Type} {enc : TypeId × Value → H} {W W' : World}
theorem trodAll_below (hl : laidOutB Tryz.prog = true) (hb : Below W.heap.size W W') : ∀ (ts : List TypeId) (vs : List Value) (ds : List (DataW H)) (ps : List MemPlace),
    (∀ t ∈ ts, Tryz.prog.readableRec t = true ∧ t < Tryz.prog.types.size) → DataW.TrodAll enc Tryz.prog W 0 (fun _ => true) true ts vs ds ps → (∀ x ∈ ps, x.block < W.heap.size) →
    DataW.TrodAll enc Tryz.prog W' 0 (fun b => decide (b < W.heap.size)) true ts vs ds ps
  | [], [], [], ps, _, h, _ => h
  | t :: ts, v :: vs, d :: ds, ps, ht, ⟨p, q, h1, h2, e⟩, hp => by
    subst e; exact ⟨p, q, Below.trod hl (ht t (by simp)).1 (ht t (by simp)).2 h1 hb (fun x hx => hp x (by simp [hx])), trodAll_below hl hb ts vs ds q (fun t h => ht t (by simp [h])) h2 (fun x hx => hp x (by simp [hx])), rfl⟩
theorem band {a b : Bool} (h : a = true) (k : b = true) : (a && b) = true := by rw [h, k]; rfl
theorem laidOut : laidOutB Tryz.prog = true := by kernel_rfl
theorem post_law {f : Func} {s : ChangeSpec} {args : Array Value} {ds gs : List (DataW H)} {before : List MemPlace}
    (hW : DataW.Whole enc Tryz.prog f.params.toList s.vars false W args.toList ds gs before) (hv : s.vars = []) (hf : f.resultTypes = #[4])
    (hr : (s.fn H (ds ++ gs)).results = [.lit (.bool true)]) (ha : (s.fn H (ds ++ gs)).args = ds) (hg : (s.fn H (ds ++ gs)).vars = [])
    (hp : ∀ t ∈ f.params.toList, Tryz.prog.readableRec t = true ∧ t < Tryz.prog.types.size) (hb : Below W.heap.size W W') :
    s.post enc Tryz.prog f false true false false W args (.bool true) W' := by
  have hlt := hW.lt; have hW2 := hW; obtain ⟨p, q, hA, hV, hps, hz, hn⟩ := hW2; rw [hv] at hV; obtain ⟨rfl, rfl⟩ := trodVars_none hV; rw [List.append_nil] at hps; subst hps; refine ⟨ds, [], before, [], before, [], hW, ?_, ?_, ?_, World.keptBut_mono (fun x hx => ⟨hx, .inr (.inl hx)⟩) (hb.frame (· ∈ before)), fun h => by cases h⟩
  ·rw [hr, hf]; exact trodAll_cons_mk (shut_bool Tryz.underlying4 _) trodAll_mk0
  ·rw [ha]; exact trodAll_below laidOut hb _ _ _ _ hp hA hlt
  ·rw [hv, hg]; rfl
theorem gPow : Tryz.prog.globalNamed "internal/strconv.uint64pow10" = some 0 := by kernel_rfl
theorem gPowType : (Tryz.prog.globals[0]?).map (·.type) = some 158 := by kernel_rfl
theorem cellsPow : Tryz.prog.cellsOf 158 = 20 := by kernel_rfl
theorem cellsU64 : Tryz.prog.cellsOf 118 = 1 := by kernel_rfl
theorem pow_data : (Rows.laid_internal_strconv_uint64pow10 : DataW Unit) = Lib.tabData .u64 Lib.pow10Tab := by kernel_rfl
def bruZ : List Int := Lib.deBruijn64tab.map fun x : Nat => (x : Int)
def bru32Z : List Int := Lib.deBruijn32tab.map fun x : Nat => (x : Int)
theorem pow_of (h : laidMetH Tryz.prog [("math/bits.deBruijn32tab", Rows.laid_math_bits_deBruijn32tab), ("math/bits.deBruijn64tab", Rows.laid_math_bits_deBruijn64tab), ("internal/strconv.uint64pow10", Rows.laid_internal_strconv_uint64pow10)] W) : Fi.PT W := by
 have h2 := h.filter (fun x => x.1 == "internal/strconv.uint64pow10")
 have e : ([("math/bits.deBruijn32tab", Rows.laid_math_bits_deBruijn32tab), ("math/bits.deBruijn64tab", Rows.laid_math_bits_deBruijn64tab), ("internal/strconv.uint64pow10", Rows.laid_internal_strconv_uint64pow10)] : List (String × DataW Unit)).filter (fun x => x.1 == "internal/strconv.uint64pow10") = [("internal/strconv.uint64pow10", Rows.laid_internal_strconv_uint64pow10)] := by rfl
 rw [e, pow_data] at h2
 exact Lib.tabIs_of_head (rest := []) gPow gPowType Tryz.underlying158 Tryz.underlying118 cellsU64 cellsPow h2
end
def layT (k : IntKind) (zs : List Int) : Obj → Obj
  | .cells _ t frozen => .cells (zs.map fun z => Value.int k z).toArray t frozen
  | o => o
noncomputable def laidWorld (os : Os) : World :=
  { World.holding Tryz.prog os ⟨#[], #[], []⟩ with heap := (((World.holding Tryz.prog os ⟨#[], #[], []⟩).heap.modify 0 (layT .u64 Lib.pow10Tab)).modify 4 (layT .u8 bru32Z)).modify 1 (layT .u8 bruZ) }
theorem own : ownKnob Tryz.prog.godebug = none := by kernel_rfl
end Go.Proofs.YtbgaiceakmmfdaaGreatDoor.Fr
end
section
namespace Go.Proofs.YtbgaiceakmmfdaaGreatDoor.Fr
open Go.ChangeShapes Go.WideShapes Go.ChangeAt Go.RowKit Go.Deep Go.Proofs.Tg Go.Gr
variable {W : World}
theorem gTab : Tryz.prog.globalNamed "math/bits.deBruijn64tab" = some 1 := by kernel_rfl
theorem gTabType : (Tryz.prog.globals[(1 : Nat)]?).map (·.type) = some 171 := by kernel_rfl
theorem cellsTab : Tryz.prog.cellsOf 171 = 64 := by kernel_rfl
theorem cellsU8 : Tryz.prog.cellsOf 5 = 1 := by kernel_rfl
theorem bru_data : (Rows.laid_math_bits_deBruijn64tab : DataW Unit) = Lib.tabData .u8 bruZ := by kernel_rfl
theorem bruZ_len : bruZ.length = 64 := by decide +kernel
theorem bruZ_getD (j : Nat) : bruZ.getD j 0 = ((Lib.deBruijn64tab.getD j 0 : Nat) : Int) := by
 unfold bruZ
 rw [List.getD_eq_getElem?_getD, List.getElem?_map, List.getD_eq_getElem?_getD]
 cases Lib.deBruijn64tab[j]? <;> rfl
theorem tab_of (h : laidMetH Tryz.prog [("math/bits.deBruijn32tab", Rows.laid_math_bits_deBruijn32tab), ("math/bits.deBruijn64tab", Rows.laid_math_bits_deBruijn64tab), ("internal/strconv.uint64pow10", Rows.laid_internal_strconv_uint64pow10)] W) : Tab W := by
 have h2 := h.filter (fun x => x.1 == "math/bits.deBruijn64tab")
 have e : ([("math/bits.deBruijn32tab", Rows.laid_math_bits_deBruijn32tab), ("math/bits.deBruijn64tab", Rows.laid_math_bits_deBruijn64tab), ("internal/strconv.uint64pow10", Rows.laid_internal_strconv_uint64pow10)] : List (String × DataW Unit)).filter (fun x => x.1 == "math/bits.deBruijn64tab") = [("math/bits.deBruijn64tab", Rows.laid_math_bits_deBruijn64tab)] := by rfl
 rw [e, bru_data] at h2
 have h1 : Lib.TabIs Tryz.prog W "math/bits.deBruijn64tab" .u8 bruZ := Lib.tabIs_of_head (rest := []) gTab gTabType Tryz.underlying171 Tryz.underlying5 cellsU8 cellsTab h2
 have hc : ∀ j, j < 64 → W.cell? ⟨1, j, none⟩ = some (.int .u8 (Lib.deBruijn64tab.getD j 0)) := fun j hj => by
  rw [h1.cell gTab j (by rw [bruZ_len]; exact hj), bruZ_getD]
 exact ⟨World.block_lt_of_cell? W _ (hc 0 (by decide)), hc⟩
end Go.Proofs.YtbgaiceakmmfdaaGreatDoor.Fr
end
