/- Parts of the proof: WI4, WI5, WC1, WP1. -/
import Derived.Deep.DeepCutAuto
import Derived.Laws.CopyOwn
import Derived.Laws.IdiomCopy
import Derived.StillTailTactics
import Derived.Test.YtpkompfkhoceoaaGreatDoorMMV0
import Derived.Test.YtpkompfkhoceoaaGreatDoorMMV2
import Derived.Test.YtpkompfkhoceoaaGreatDoorMMV6
section
/- Walks: a number read. -/
namespace Go.Proofs.Tg
open Go.RowKit Go.Qn Go.Gr
set_option maxHeartbeats 1000000
set_option maxRecDepth 100000
theorem wds_pos {m : Nat} (h : m ≠ 0) : wds m = [m] := by unfold wds; rw [if_neg h]
theorem gcd_any (A B : Option Addr) (c d a b : Nat) (x y : Bool) (w : World) (hA : Sets w A [a]) (hB : Sets w B [b]) (ha : a < 18446744073709551616) (hb : b < 18446744073709551616) (ha0 : a ≠ 0) (hb0 : b ≠ 0) (hT : Tab w) :
    Calls Tryz.prog 83 #[.agg #[.bool x, .slice A 1 c], .agg #[.bool y, .slice B 1 d]] w (RetInt false (Nat.gcd a b) w) := by
  have hbA : Below w.heap.size w (((w.alloc (.cells #[.bool x, .slice A 1 c] 122)).alloc (.cells #[.bool y, .slice B 1 d] 122)).alloc (.cells #[.bool false, .slice none 0 0] 122)) :=
    (((Below.refl _ _).alloc (Nat.le_refl _) _).alloc (by simp) _).alloc (by simp; omega) _
  have HK := Lib.hid (gcdw_any A B c d a b _ (hA.keep hbA) (hB.keep hbA) ha hb ha0 hb0 (hT.below hbA hT.1))
  go_enter Tryz.func83, Tryz.ntmps83
  go_wp2_with (go_at_call 120; refine HK.out.mono ?_; rintro e w1 ⟨A1, c1, rfl, h1, h2, h3⟩
               have B4 : Blk w1 (w.heap.size + 1 + 1) 122 #[.bool false, .slice none 0 0] := by
                 have := (Blk.new ((w.alloc (.cells #[.bool x, .slice A 1 c] 122)).alloc (.cells #[.bool y, .slice B 1 d] 122)) 122 #[.bool false, .slice none 0 0]).keep h3 (by simp)
                 simpa using this
               have q0 := B4.cell 0
               have q1 := B4.cell 1
               have f0 := B4.frozen 0
               have f1 := B4.frozen 1
               clear B4
               simp at q0 q1)
  refine bodyPost_ret (v := .agg #[.bool false, .slice A1 (wds (Nat.gcd a b)).length c1]) (by simp [results, Tryz.results83, go_sem, q0, q1]) rfl ⟨A1, _, rfl, ?_, ?_⟩
  · have h4 := Sl.put h2 q0 (by simp [vs]) (.bool false)
    exact Sl.put h4 (v := .slice none 0 0) (by rw [World.cell?_setCell_other _ _ _ _ (by simp)]; exact q1) (by simp [vs]) _
  · exact (((hbA.trans (h3.mono (by simp; omega))).setCell (by simp; omega) _).setCell (by simp; omega) _)
theorem isone_any (A : Option Addr) (c m : Nat) (w : World) (hA : Sets w A (wds m)) :
    Calls Tryz.prog 84 #[.agg #[.bool false, .slice A (wds m).length c]] w fun e w' => e = .returned (.bool (decide (m = 1))) ∧ Below w.heap.size w w' := by
  by_cases h0 : m = 0
  · subst h0
    have e : wds 0 = [] := rfl
    rw [e]
    go_enter Tryz.func84, Tryz.ntmps84
    go_wp2
    go_ret
    exact ⟨by simp, (Below.refl _ _).alloc (Nat.le_refl _) _⟩
  · rw [wds_pos h0] at hA ⊢
    obtain ⟨ad, rfl, k, hl⟩ := hA.one
    have k' := cell_alloc k (.cells #[.bool false, .slice (some ad) 1 c] 122)
    go_enter Tryz.func84, Tryz.ntmps84
    go_wp2
    go_ret
    refine ⟨?_, (Below.refl _ _).alloc (Nat.le_refl _) _⟩
    show Ending.returned (.bool ((m : Int) == 1)) = _
    congr 2
    by_cases h1 : m = 1
    · subst h1; rfl
    · rw [decide_eq_false h1]; simp; omega
theorem signed_any (x : Bool) (A : Option Addr) (c : Nat) (w : World) :
    Calls Tryz.prog 133 #[.bool x, .slice A 1 c] w fun e w' => e = .returned (.agg #[.bool x, .slice A 1 c]) ∧ Below w.heap.size w w' := by
  cases x
  all_goals
    go_enter Tryz.func133, Tryz.ntmps133
    go_wp2
    exact bodyPost_ret (v := .agg #[.bool _, .slice A 1 c]) (by simp [results, Tryz.results133, go_sem]) rfl ⟨rfl, (Below.refl _ _).alloc (Nat.le_refl _) _⟩
theorem neg_any (x : Bool) (A : Option Addr) (c : Nat) (w : World) :
    Calls Tryz.prog 132 #[.agg #[.bool x, .slice A 1 c]] w fun e w' => e = .returned (.agg #[.bool (!x), .slice A 1 c]) ∧ Below w.heap.size w w' := by
  have hbA : Below w.heap.size w ((w.alloc (.cells #[.bool x, .slice A 1 c] 122)).alloc (.cells #[.bool false, .slice none 0 0] 122)) :=
    ((Below.refl _ _).alloc (Nat.le_refl _) _).alloc (by simp) _
  go_enter Tryz.func132, Tryz.ntmps132
  go_wp2_with (go_at_call 133; refine (signed_any _ A c _).mono ?_; rintro e w1 ⟨rfl, h3⟩
               have B4 : Blk w1 (w.heap.size + 1) 122 #[.bool false, .slice none 0 0] := by
                 have := (Blk.new (w.alloc (.cells #[.bool x, .slice A 1 c] 122)) 122 #[.bool false, .slice none 0 0]).keep h3 (by simp)
                 simpa using this
               have q0 := B4.cell 0
               have q1 := B4.cell 1
               have f0 := B4.frozen 0
               have f1 := B4.frozen 1
               clear B4
               simp at q0 q1)
  exact bodyPost_ret (v := .agg #[.bool (!x), .slice A 1 c]) (by simp [results, Tryz.results132, go_sem, q0, q1]) rfl ⟨rfl, (((hbA.trans (h3.mono (by simp; omega))).setCell (by simp) _).setCell (by simp) _)⟩
theorem iszero_any (x : Bool) (A : Option Addr) (n c : Nat) (w : World) :
    Calls Tryz.prog 104 #[.agg #[.bool x, .slice A n c]] w fun e w' => e = .returned (.bool (decide (n = 0))) ∧ Below w.heap.size w w' := by
  go_enter Tryz.func104, Tryz.ntmps104
  go_wp2
  go_ret
  refine ⟨?_, (Below.refl _ _).alloc (Nat.le_refl _) _⟩
  show Ending.returned (.bool ((n : Int) == 0)) = _
  congr 2
  by_cases h1 : n = 0
  · subst h1; rfl
  · rw [decide_eq_false h1]; simp; omega
end Go.Proofs.Tg
end
section
/- Walks: a number read. -/
namespace Go.Proofs.Tg
open Go.RowKit Go.Qn Go.Gr
set_option maxHeartbeats 4000000
set_option maxRecDepth 100000
/-- A number that a call has read: nothing, or one in lowest terms. -/
def RetRead (l : List UInt8) (w : World) (e : Ending) (w' : World) : Prop :=
  ∃ x y A B m n c d, e = .returned (.tuple #[.agg #[.bool x, .slice A m c, .bool y, .slice B n d], .bool (rd l).isSome]) ∧ Below w.heap.size w w' ∧
    ∀ b p q, rd l = some (b, p, q) → x = b ∧ m = (wds p).length ∧ Sets w' A (wds p)
theorem splitis_cases {l num den : List UInt8} {b ok : Bool} (h : SplitIs l b num den ok) : (ok = false ∧ rd l = none) ∨ (ok = true ∧ numOk num = true ∧ num.length ≤ l.length ∧ den = [] ∧ rd l = some (b, val num, 1)) ∨
    (ok = true ∧ numOk num = true ∧ num.length ≤ l.length ∧ den.length ≤ l.length ∧ den ≠ [] ∧ numOk den = true ∧ val num ≠ 0 ∧ val den ≠ 0 ∧ rd l = if Nat.gcd (val num) (val den) = 1 then some (b, val num, val den) else none) := by
  obtain ⟨h1, h2, h3, h4⟩ := h
  cases ok with
  | false => exact .inl ⟨rfl, h3 rfl⟩
  | true =>
    obtain ⟨a, b, c⟩ := h4 rfl
    by_cases hd : den = []
    · exact .inr (.inl ⟨rfl, a, h1, hd, b hd⟩)
    · exact .inr (.inr ⟨rfl, a, h1, h2, hd, (c hd).1, (c hd).2.1, (c hd).2.2.1, (c hd).2.2.2⟩)
/-- What memory holds between the parts of the reading: the result's block, the parts' block, the number's block. -/
structure RdSt (w : World) (w1 w2 : World) (b : Bool) (num den : List UInt8) (A : Option Addr) (c : Nat) (wx : World) : Prop where
  below : Below w.heap.size w wx
  b2 : Blk wx w.heap.size 124 #[.bool false, .slice none 0 0, .bool false, .slice none 0 0]
  bf : Blk wx w1.heap.size 142 #[.bool b, .string (bs num), .string (bs den)]
  bx : Blk wx w2.heap.size 124 #[.bool b, .slice A (wds (val num)).length c, .bool false, .slice none 0 0]
  sl : Sets wx A (wds (val num))
theorem fin_read {l : List UInt8} {w w' : World} {b y : Bool} {p q : Nat} {A B : Option Addr} {n c d : Nat} (h : rd l = some (b, p, q)) (hb : Below w.heap.size w w') (hA : Sets w' A (wds p)) :
    RetRead l w (.returned (.tuple #[.agg #[.bool b, .slice A (wds p).length c, .bool y, .slice B n d], .bool true])) w' := by
  refine ⟨b, y, A, B, _, n, c, d, by rw [h]; rfl, hb, fun b' p' q' h' => ?_⟩
  rw [h] at h'
  injection h' with h'
  injection h' with e1 e2
  injection e2 with e2 e3
  subst e1 e2
  exact ⟨rfl, rfl, hA⟩
theorem read_any (s : ByteArray) (w : World) (hs : s.size ≤ 19) (hT : Tab w) :
    Calls Tryz.prog 103 #[.string s] w (RetRead s.data.toList w) := by
  have HL := Lib.hid (len_size s)
  have hbA : Below w.heap.size w (w.alloc (.cells #[.bool false, .slice none 0 0, .bool false, .slice none 0 0] 124)) := (Below.refl _ _).alloc (Nat.le_refl _) _
  go_enter Tryz.func103, Tryz.ntmps103
  go_upto_region 2 with (go_at_call 81; refine (split_any s _ (by omega)).mono ?_; rintro e w1 ⟨b, num, den, ok, rfl, HS, h3⟩
                         have hb1 : Below w.heap.size w w1 := hbA.trans (h3.mono (by simp))
                         have B2 : Blk w1 w.heap.size 124 #[.bool false, .slice none 0 0, .bool false, .slice none 0 0] := (Blk.new w 124 #[.bool false, .slice none 0 0, .bool false, .slice none 0 0]).keep h3 (by simp))
  have hc := splitis_cases HS
  have hz1 := B2.lt
  clear HS h3 hbA
  by_cases hok : ok = false
  · subst hok
    have hr : rd s.data.toList = none := by
      rcases hc with ⟨_, h⟩ | ⟨h, _⟩ | ⟨h, _⟩
      · exact h
      · cases h
      · cases h
    have HR := Lib.hid hr
    clear hr hc
    obtain ⟨a0, a1, a2, a3, f0, f1, f2, f3⟩ := B2.four
    go_wp2
    refine bodyPost_ret (v := .tuple #[.agg #[.bool false, .slice none 0 0, .bool false, .slice none 0 0], .bool false]) (by simp [results, Tryz.results103, go_sem, a0, a1, a2, a3, hz1]) rfl ⟨false, false, none, none, 0, 0, 0, 0, by rw [HR.out]; rfl, ?_, ?_⟩
    · exact ((((hb1.setCell (by simp) _).setCell (by simp) _).setCell (by simp) _).setCell (by simp) _).alloc (by simp; omega) _
    · intro b p q h; rw [HR.out] at h; cases h
  · obtain rfl : ok = true := by cases ok; exact absurd rfl hok; rfl
    have hc' : numOk num = true ∧ num.length ≤ s.data.toList.length ∧ (b = true → val num ≠ 0) ∧ ((den = [] ∧ rd s.data.toList = some (b, val num, 1)) ∨ (den.length ≤ s.data.toList.length ∧ den ≠ [] ∧ numOk den = true ∧ val num ≠ 0 ∧ val den ≠ 0 ∧ rd s.data.toList = if Nat.gcd (val num) (val den) = 1 then some (b, val num, val den) else none)) := by
      rcases hc with ⟨h, _⟩ | ⟨_, h1, h2, h3, h4⟩ | ⟨_, h1, h2, h3, h4, h5, h6, h7, h8⟩
      · cases h
      · exact ⟨h1, h2, (fun e e0 => (by have := (rd_some h4).1.2.2 e0; rw [e] at this; cases this)), .inl ⟨h3, h4⟩⟩
      · exact ⟨h1, h2, (fun _ => h6), .inr ⟨h3, h4, h5, h6, h7, h8⟩⟩
    clear hc hok
    obtain ⟨n1, n2, n3, hc⟩ := hc'
    obtain ⟨d1, d2⟩ := numOk_iff.1 n1
    have HCC := Lib.hid hc
    have hsz : (bs num).size ≤ 19 := by rw [bs_size]; rw [HL.out] at n2; omega
    have HP : Hid (∀ W, Calls Tryz.prog 82 #[.string (bs num)] W (RetInt false (val num) W)) := Lib.hid (fun W => parse_any (bs num) W hsz d1)
    have HBf := Lib.hid (Blk.new w1 142 #[.bool b, .string (bs num), .string (bs den)])
    have HB2 := Lib.hid (B2.alloc (.cells #[.bool b, .string (bs num), .string (bs den)] 142))
    have hb1' : Below w.heap.size w (w1.alloc (.cells #[.bool b, .string (bs num), .string (bs den)] 142)) := hb1.alloc hb1.size _
    have HN3 := Lib.hid n3
    clear hc n1 B2 hb1 n3
    go_upto_region 5 with (go_at_call 82; refine (HP.out _).mono ?_; rintro e w2 ⟨A, c, rfl, hA, hb2⟩)
    have Bf : Blk w2 w1.heap.size 142 #[.bool b, .string (bs num), .string (bs den)] := HBf.out.keep hb2 (by simp)
    have B2 := HB2.out.keep hb2 (by simp; omega)
    have hb2' : Below w.heap.size w w2 := hb1'.trans (hb2.mono hb1'.size)
    have hz2 : w1.heap.size < w2.heap.size := Bf.lt
    have hz3 : w.heap.size < w2.heap.size := by omega
    have St : RdSt w w1 w2 false num den A c (w2.alloc (.cells #[.bool false, .slice A (wds (val num)).length c, .bool false, .slice none 0 0] 124)) ∨ True := .inr trivial
    have HX := Lib.hid (Blk.new w2 124 #[.bool false, .slice A (wds (val num)).length c, .bool false, .slice none 0 0])
    clear St
    obtain ⟨p0, p1, p2, g0, g1, g2⟩ := Bf.three
    obtain ⟨a0, a1, a2, a3, f0, f1, f2, f3⟩ := B2.four
    have HBf2 := Lib.hid Bf
    have HB22 := Lib.hid B2
    clear Bf B2 hb2 hb1'
    go_upto_if 20 with (fail)
    go_cut [20] (fun s20 wx => s20 = .bool b ∧ RdSt w w1 w2 b num den A c wx)
    case first =>
      cases b with
      | false =>
        go_wp2
        go_meet
        exact ⟨rfl, hb2'.alloc hb2'.size _, HB22.out.alloc _, HBf2.out.alloc _, HX.out, hA.alloc _⟩
      | true =>
        have hw := wds_pos (HN3.out rfl)
        have HN : Hid (∀ W, Calls Tryz.prog 132 #[.agg #[.bool false, .slice A (wds (val num)).length c]] W fun e w' => e = .returned (.agg #[.bool true, .slice A (wds (val num)).length c]) ∧ Below W.heap.size W w') := Lib.hid (fun W => by
          rw [hw]; exact neg_any false A c W)
        clear hw
        go_wp2_with (go_at_call 132; refine (HN.out _).mono ?_; rintro e w4 ⟨rfl, hb4⟩
                     have BX := HX.out.keep hb4 (by simp)
                     obtain ⟨x0, x1, x2, x3, y0, y1, y2, y3⟩ := BX.four)
        go_meet
        have hbW := hb2'.alloc hb2'.size (.cells #[.bool false, .slice A (wds (val num)).length c, .bool false, .slice none 0 0] 124)
        have hw4 : Below w.heap.size w w4 := hbW.trans (hb4.mono hbW.size)
        have ho := Sl.off_new hA (Nat.le_refl _)
        refine ⟨rfl, below_far (below_far hw4 (by omega) _ _) (by omega) _ _, ?_, ?_, ?_, ?_⟩
        · exact (((HB22.out.alloc _).keep hb4 (by simp; omega)).far (by simp; omega) _).far (by simp; omega) _
        · exact (((HBf2.out.alloc _).keep hb4 (by simp; omega)).far (by simp; omega) _).far (by simp; omega) _
        · exact (BX.set 0 (.bool true)).set 1 (.slice A (wds (val num)).length c)
        · exact (((hA.alloc _).keep hb4).far ho _ _).far ho _ _
    case rest =>
      obtain ⟨rfl, hst⟩ := hcut
      obtain ⟨hbx, B2, Bf, Bx, hAx⟩ := hst
      clear p0 p1 p2 g0 g1 g2 a0 a1 a2 a3 f0 f1 f2 f3
      obtain ⟨p0, p1, p2, g0, g1, g2⟩ := Bf.three
      obtain ⟨a0, a1, a2, a3, f0, f1, f2, f3⟩ := B2.four
      obtain ⟨x0, x1, x2, x3, y0, y1, y2, y3⟩ := Bx.four
      have ho : Off A (wds (val num)).length w.heap.size := Sl.off hAx (by omega) B2 (by simp [vs])
      rcases HCC.out with ⟨hd, hr⟩ | ⟨m1, m2, m3, m4, m5, hr⟩
      · subst hd
        have HR := Lib.hid hr
        have hbe : (bs []).toList.isEmpty = true := by rw [bs_toList]; rfl
        have hbe' : (bs []).toList = [] := by rw [bs_toList]
        clear hr HCC
        go_wp2
        refine bodyPost_ret (v := .tuple #[.agg #[.bool b, .slice A (wds (val num)).length c, .bool false, .slice none 0 0], .bool true]) (by simp [results, Tryz.results103, go_sem, a0, a1, a2, a3]) rfl (fin_read HR.out ?_ ?_)
        · exact below_far (below_far (below_far (below_far hbx (Nat.le_refl _) _ _) (Nat.le_refl _) _ _) (Nat.le_refl _) _ _) (Nat.le_refl _) _ _
        · exact (((hAx.far ho _ _).far ho _ _).far ho _ _).far ho _ _
      · obtain ⟨e1, e2⟩ := numOk_iff.1 m3
        have hbe : (bs den).toList.isEmpty = false := by rw [bs_toList]; cases den; exact absurd rfl m2; rfl
        have hbe' : ¬ (bs den).toList = [] := by rw [bs_toList]; exact m2
        have hsz2 : (bs den).size ≤ 19 := by rw [bs_size]; rw [HL.out] at m1; omega
        have HP2 : Hid (∀ W, Calls Tryz.prog 82 #[.string (bs den)] W (RetInt false (val den) W)) := Lib.hid (fun W => parse_any (bs den) W hsz2 e1)
        have HR := Lib.hid hr
        have HB2 := Lib.hid B2
        have HBx := Lib.hid Bx
        have hw1 := wds_pos m4
        have hw2 := wds_pos m5
        have v1 : val num < 18446744073709551616 := Nat.lt_of_lt_of_le (val_lt num d1) (Nat.le_trans (pow_19 (by rw [HL.out] at n2; omega)) (by decide))
        have v2 : val den < 18446744073709551616 := Nat.lt_of_lt_of_le (val_lt den e1) (Nat.le_trans (pow_19 (by rw [HL.out] at m1; omega)) (by decide))
        have HW1 := Lib.hid hw1
        have HW2 := Lib.hid hw2
        clear hr HCC e1 m1 m3 B2 Bx Bf hw1 hw2
        go_upto_region 9 with (fail)
        clear f0 f1 f2 f3 g0 g1 g2
        go_wp2_with (go_at_call 82; refine (HP2.out _).mono ?_; rintro e w5 ⟨B, d, rfl, hB, hb5⟩
                     have BX := HBx.out.keep hb5 HBx.out.lt
                     have BB := HB2.out.keep hb5 HB2.out.lt
                     clear a0 a1 a2 a3 x0 x1 x2 x3 y0 y1 y2 y3 p0 p1 p2
                     obtain ⟨x0, x1, x2, x3, y0, y1, y2, y3⟩ := BX.four)
        have hb5w : Below w.heap.size w w5 := hbx.trans (hb5.mono hbx.size)
        have hoA : Off A (wds (val num)).length w2.heap.size := Sl.off_new hA (Nat.le_refl _)
        have hoB : Off B (wds (val den)).length w2.heap.size := Sl.off hB (by omega) BX (by simp [vs])
        have hoB2 : Off B (wds (val den)).length w.heap.size := Sl.off hB (by omega) BB (by simp [vs])
        have sA := ((hAx.keep hb5).far hoA 2 (.bool false)).far hoA 3 (.slice B (wds (val den)).length d)
        have sB := (hB.far hoB 2 (.bool false)).far hoB 3 (.slice B (wds (val den)).length d)
        have hbW : Below w.heap.size w ((w5.setCell ⟨w2.heap.size, 2, none⟩ (.bool false)).setCell ⟨w2.heap.size, 3, none⟩ (.slice B (wds (val den)).length d)) := below_far (below_far hb5w (by omega) _ _) (by omega) _ _
        have CX := (BX.set 2 (.bool false)).set 3 (.slice B (wds (val den)).length d)
        have CB := (BB.far (p := ⟨w2.heap.size, 2, none⟩) (by simp; omega) (.bool false)).far (p := ⟨w2.heap.size, 3, none⟩) (by simp; omega) (.slice B (wds (val den)).length d)
        generalize (w5.setCell ⟨w2.heap.size, 2, none⟩ (.bool false)).setCell ⟨w2.heap.size, 3, none⟩ (.slice B (wds (val den)).length d) = W at *
        have HGC : Hid (Calls Tryz.prog 83 #[.agg #[.bool b, .slice A (wds (val num)).length c], .agg #[.bool false, .slice B (wds (val den)).length d]] W (RetInt false (Nat.gcd (val num) (val den)) W)) := Lib.hid (by
          have h1 := sA
          have h2 := sB
          rw [HW1.out] at h1 ⊢
          rw [HW2.out] at h2 ⊢
          exact gcd_any A B c d _ _ b false W h1 h2 v1 v2 m4 m5 (hT.below hbW hT.1))
        clear x0 x1 x2 x3 y0 y1 y2 y3
        refine HGC.out.mono ?_
        rintro e w6 ⟨G, cg, rfl, hG, hb6⟩
        have hb6w : Below w.heap.size w w6 := hbW.trans (hb6.mono hbW.size)
        have sA6 := sA.keep hb6
        have CX6 := CX.keep hb6 CX.lt
        have CB6 := CB.keep hb6 CB.lt
        have HI := Lib.hid (isone_any G cg (Nat.gcd (val num) (val den)) w6 hG)
        by_cases hg : Nat.gcd (val num) (val den) = 1
        · have HI2 : Hid (Calls Tryz.prog 84 #[.agg #[.bool false, .slice G (wds (Nat.gcd (val num) (val den))).length cg]] w6 fun e w' => e = .returned (.bool true) ∧ Below w6.heap.size w6 w') := Lib.hid (HI.out.mono fun e w' ⟨h1, h2⟩ => ⟨by rw [h1, decide_eq_true hg], h2⟩)
          have hr : rd s.data.toList = some (b, val num, val den) := by rw [HR.out, if_pos hg]
          have HR2 := Lib.hid hr
          clear hr hg HI HR
          go_wp2_with (go_at_call 84; refine HI2.out.mono ?_; rintro e w7 ⟨rfl, hb7⟩
                       have CX7 := CX6.keep hb7 CX6.lt
                       have CB7 := CB6.keep hb7 CB6.lt
                       obtain ⟨a0, a1, a2, a3, f0, f1, f2, f3⟩ := CB7.four
                       obtain ⟨x0, x1, x2, x3, y0, y1, y2, y3⟩ := CX7.four)
          refine bodyPost_ret (v := .tuple #[.agg #[.bool b, .slice A (wds (val num)).length c, .bool false, .slice B (wds (val den)).length d], .bool true]) (by simp [results, Tryz.results103, go_sem, a0, a1, a2, a3]) rfl (fin_read HR2.out ?_ ?_)
          · exact below_far (below_far (below_far (below_far (hb6w.trans (hb7.mono hb6w.size)) (Nat.le_refl _) _ _) (Nat.le_refl _) _ _) (Nat.le_refl _) _ _) (Nat.le_refl _) _ _
          · exact ((((sA6.keep hb7).far ho _ _).far ho _ _).far ho _ _).far ho _ _
        · have HI2 : Hid (Calls Tryz.prog 84 #[.agg #[.bool false, .slice G (wds (Nat.gcd (val num) (val den))).length cg]] w6 fun e w' => e = .returned (.bool false) ∧ Below w6.heap.size w6 w') := Lib.hid (HI.out.mono fun e w' ⟨h1, h2⟩ => ⟨by rw [h1, decide_eq_false hg], h2⟩)
          have hr : rd s.data.toList = none := by rw [HR.out, if_neg hg]
          have HR2 := Lib.hid hr
          clear hr hg HI HR
          go_wp2_with (go_at_call 84; refine HI2.out.mono ?_; rintro e w7 ⟨rfl, hb7⟩
                       have CX7 := CX6.keep hb7 CX6.lt
                       have CB7 := CB6.keep hb7 CB6.lt
                       obtain ⟨a0, a1, a2, a3, f0, f1, f2, f3⟩ := CB7.four
                       obtain ⟨x0, x1, x2, x3, y0, y1, y2, y3⟩ := CX7.four)
          refine bodyPost_ret (v := .tuple #[.agg #[.bool false, .slice none 0 0, .bool false, .slice none 0 0], .bool false]) (by simp [results, Tryz.results103, go_sem, a0, a1, a2, a3]) rfl ⟨false, false, none, none, 0, 0, 0, 0, by rw [HR2.out]; rfl, ?_, ?_⟩
          · exact below_far (below_far (below_far (below_far (hb6w.trans (hb7.mono hb6w.size)) (Nat.le_refl _) _ _) (Nat.le_refl _) _ _) (Nat.le_refl _) _ _) (Nat.le_refl _) _ _
          · intro b p q h; rw [HR2.out] at h; cases h
end Go.Proofs.Tg
end
section
/- The built-in copy of at most six numbers into an array at a block's head. -/
namespace Go.Proofs.Tg
open Go.RowKit
theorem int_sz : (Tryz.prog.info? 3).map (·.size) = some 1 := by kernel_rfl
/-- Another world that differs in block g alone. -/
structure But (g : Nat) (W W' : World) : Prop where
  below : ∀ (B : Nat) (w0 : World), Below B w0 W → B ≤ g → Below B w0 W'
  blk : ∀ (g' : Nat) (t : TypeId) (cs : Array Value), g' ≠ g → Blk W g' t cs → Blk W' g' t cs
theorem wpList_copy6 {ops : Array Oper} {rest : List Oper} {o : Oper} {a : Act} {Q : Exit → Act → World → Prop} {W : World} (hgd : o.guard = none) (d s : Operand)
    (ho : o.op = .call { callee := .builtin .copy, args := #[d, s], argTypes := #[41, 41] }) (g : Nat) (t : TypeId) (A : Option Addr) (c : Nat) (el : List Int) (z : List Value)
    (hd : a.eval d = .slice (some ⟨g, 0, none⟩) 6 6) (hs : a.eval s = .slice A el.length c) (hA : Ints W A el) (hl : el.length ≤ 6)
    (hB : Blk W g t ([Value.int .i64 0, Value.int .i64 0, Value.int .i64 0, Value.int .i64 0, Value.int .i64 0, Value.int .i64 0] ++ z).toArray)
    (h : ∀ W', Blk W' g t ([Value.int .i64 (el.getD 0 0), Value.int .i64 (el.getD 1 0), Value.int .i64 (el.getD 2 0), Value.int .i64 (el.getD 3 0), Value.int .i64 (el.getD 4 0), Value.int .i64 (el.getD 5 0)] ++ z).toArray → But g W W' → wpList Tryz.prog ops Q rest (a.put o.dst (goInt el.length)) W') :
    wpList Tryz.prog ops Q (o :: rest) a W := by
  by_cases h0 : el = []
  · subst h0
    refine wpList_plain hgd fun K hK => ?_
    have hrun := run_copy_none (P := Tryz.prog) W 41 41 o.type 3 (some ⟨g, 0, none⟩) A 6 6 0 c Tryz.underlying41 int_sz rfl
    have hs' : a.eval s = .slice A 0 c := hs
    unfold Oper.wp
    simp [execOp, ho, resolve, invoke, builtin, hd, hs', hrun, Result.andThen]
    exact hK _ _ (h W hB ⟨fun _ _ h _ => h, fun _ _ _ _ h => h⟩)
  · have hp : 0 < el.length := List.length_pos_iff.2 h0
    obtain ⟨ad, rfl, _, hc⟩ := hA.lies hp
    refine wpList_copy_own hgd d s 41 41 ho 3 Tryz.underlying41 int_sz g 0 6 6 ad el.length c hd hs _ t hB (el.map vi) (by rw [List.length_map]; exact (Nat.min_eq_left hl).symm) hc (by simp; omega) (by simp [vi, Value.oneCell']) ?_
    have key : (([Value.int .i64 0, Value.int .i64 0, Value.int .i64 0, Value.int .i64 0, Value.int .i64 0, Value.int .i64 0] ++ z).toArray.toList.take 0 ++ (el.map vi ++ ([Value.int .i64 0, Value.int .i64 0, Value.int .i64 0, Value.int .i64 0, Value.int .i64 0, Value.int .i64 0] ++ z).toArray.toList.drop (0 + (el.map vi).length))).toArray
        = ([Value.int .i64 (el.getD 0 0), Value.int .i64 (el.getD 1 0), Value.int .i64 (el.getD 2 0), Value.int .i64 (el.getD 3 0), Value.int .i64 (el.getD 4 0), Value.int .i64 (el.getD 5 0)] ++ z).toArray := by
      match el, hl with
      | [], _ => exact absurd rfl h0
      | [_], _ => simp [vi]
      | [_, _], _ => simp [vi]
      | [_, _, _], _ => simp [vi]
      | [_, _, _, _], _ => simp [vi]
      | [_, _, _, _, _], _ => simp [vi]
      | [_, _, _, _, _, _], _ => simp [vi]
      | _ :: _ :: _ :: _ :: _ :: _ :: _ :: l, hl => simp at hl
    rw [key]
    have hlen : (goInt ((el.map vi).length)) = goInt el.length := by simp
    rw [hlen]
    refine h _ ?_ ⟨fun B w0 hb hg => below_setRow hb hg _, fun g' t' cs hne hb => ?_⟩
    · exact setRow_heap W g _ _ t _ hB
    · exact (setRow_other W g g' _ hne).trans hb
end Go.Proofs.Tg
end
section
/- Walks: a term of a polynomial read. -/
namespace Go.Proofs.Tg
open Go.RowKit Go.Qn Go.Gr Go.Mo
set_option maxHeartbeats 4000000
set_option maxRecDepth 100000
theorem riszero_any (x y : Bool) (A B : Option Addr) (m n c d : Nat) (w : World) :
    Calls Tryz.prog 177 #[.agg #[.bool x, .slice A m c, .bool y, .slice B n d]] w fun e w' => e = .returned (.bool (decide (m = 0))) ∧ Below w.heap.size w w' := by
  go_enter Tryz.func177, Tryz.ntmps177
  go_wp2_with (go_at_call 104; refine (iszero_any x A m c _).mono ?_; rintro e w1 ⟨rfl, hb1⟩)
  go_ret
  exact ⟨rfl, (((Below.refl _ _).alloc (Nat.le_refl _) _).trans (hb1.mono (by simp)))⟩
/-- A term that a call has read. -/
def RetTerm (v : Int) (t : Term) (w : World) (e : Ending) (w' : World) : Prop :=
  ∃ (x0 x1 x2 x3 x4 x5 : Int) (x y : Bool) (A B : Option Addr) (m n c d : Nat), e = .returned (.tuple #[.agg #[.int .i64 x0, .int .i64 x1, .int .i64 x2, .int .i64 x3, .int .i64 x4, .int .i64 x5, .bool x, .slice A m c, .bool y, .slice B n d], .bool (termOk v t)]) ∧ Below w.heap.size w w'
theorem Blk.ten {w : World} {g : Nat} {t : TypeId} {a0 a1 a2 a3 a4 a5 a6 a7 a8 a9 : Value} (h : Blk w g t #[a0, a1, a2, a3, a4, a5, a6, a7, a8, a9]) :
    (w.cell? ⟨g, 0, none⟩ = some a0 ∧ w.cell? ⟨g, 1, none⟩ = some a1 ∧ w.cell? ⟨g, 2, none⟩ = some a2 ∧ w.cell? ⟨g, 3, none⟩ = some a3 ∧ w.cell? ⟨g, 4, none⟩ = some a4 ∧ w.cell? ⟨g, 5, none⟩ = some a5 ∧ w.cell? ⟨g, 6, none⟩ = some a6 ∧ w.cell? ⟨g, 7, none⟩ = some a7 ∧ w.cell? ⟨g, 8, none⟩ = some a8 ∧ w.cell? ⟨g, 9, none⟩ = some a9) ∧
    (w.frozen? ⟨g, 0, none⟩ = false ∧ w.frozen? ⟨g, 1, none⟩ = false ∧ w.frozen? ⟨g, 2, none⟩ = false ∧ w.frozen? ⟨g, 3, none⟩ = false ∧ w.frozen? ⟨g, 4, none⟩ = false ∧ w.frozen? ⟨g, 5, none⟩ = false ∧ w.frozen? ⟨g, 6, none⟩ = false ∧ w.frozen? ⟨g, 7, none⟩ = false ∧ w.frozen? ⟨g, 8, none⟩ = false ∧ w.frozen? ⟨g, 9, none⟩ = false) :=
  ⟨⟨h.cell 0, h.cell 1, h.cell 2, h.cell 3, h.cell 4, h.cell 5, h.cell 6, h.cell 7, h.cell 8, h.cell 9⟩, h.frozen 0, h.frozen 1, h.frozen 2, h.frozen 3, h.frozen 4, h.frozen 5, h.frozen 6, h.frozen 7, h.frozen 8, h.frozen 9⟩
theorem fin_term {v : Int} {t : Term} {w w' : World} {ok : Bool} {x0 x1 x2 x3 x4 x5 : Int} {x y : Bool} {A B : Option Addr} {m n c d : Nat} (hok : termOk v t = ok) (hb : Below w.heap.size w w') :
    RetTerm v t w (.returned (.tuple #[.agg #[.int .i64 x0, .int .i64 x1, .int .i64 x2, .int .i64 x3, .int .i64 x4, .int .i64 x5, .bool x, .slice A m c, .bool y, .slice B n d], .bool ok])) w' :=
  ⟨x0, x1, x2, x3, x4, x5, x, y, A, B, m, n, c, d, by rw [hok], hb⟩
theorem below_ten {w w' : World} {B g : Nat} (h : Below B w w') (hg : B ≤ g) (a0 a1 a2 a3 a4 a5 a6 a7 a8 a9 : Value) :
    Below B w ((((((((((w'.setCell ⟨g, 0, none⟩ a0).setCell ⟨g, 1, none⟩ a1).setCell ⟨g, 2, none⟩ a2).setCell ⟨g, 3, none⟩ a3).setCell ⟨g, 4, none⟩ a4).setCell ⟨g, 5, none⟩ a5).setCell ⟨g, 6, none⟩ a6).setCell ⟨g, 7, none⟩ a7).setCell ⟨g, 8, none⟩ a8).setCell ⟨g, 9, none⟩ a9) :=
  below_far (below_far (below_far (below_far (below_far (below_far (below_far (below_far (below_far (below_far h hg _ _) hg _ _) hg _ _) hg _ _) hg _ _) hg _ _) hg _ _) hg _ _) hg _ _) hg _ _
/-- What the reading of the coefficient gives. -/
theorem read_cases (s : ByteArray) : (coefOk s = false ∧ (rd s.data.toList = none ∨ ∃ b q, rd s.data.toList = some (b, 0, q))) ∨ (coefOk s = true ∧ ∃ b p q, rd s.data.toList = some (b, p, q) ∧ p ≠ 0) := by
  unfold coefOk
  cases h : rd s.data.toList with
  | none => exact .inl ⟨rfl, .inl rfl⟩
  | some q =>
    obtain ⟨b, p, q⟩ := q
    by_cases hp : p = 0
    · subst hp; exact .inl ⟨by simp, .inr ⟨b, q, rfl⟩⟩
    · exact .inr ⟨by simp [hp], b, p, q, rfl, hp⟩
def RetRL (s : ByteArray) (ok : Bool) (w : World) (e : Ending) (w' : World) : Prop :=
  ∃ x y X Y m n cx cy, e = Ending.returned (.tuple #[.agg #[.bool x, .slice X m cx, .bool y, .slice Y n cy], .bool ok]) ∧ Below w.heap.size w w' ∧ (ok = true → (decide (m = 0) = !coefOk s))
theorem read_lit (s : ByteArray) (w : World) (hs : s.size ≤ 19) (hT : Tab w) (ok : Bool) (hok : (rd s.data.toList).isSome = ok) : Calls Tryz.prog 103 #[.string s] w (RetRL s ok w) := by
  refine (read_any s w hs hT).mono fun e w' ⟨x, y, X, Y, m, n, cx, cy, h1, h2, h3⟩ => ⟨x, y, X, Y, m, n, cx, cy, by rw [h1, hok], h2, fun hk => ?_⟩
  rcases read_cases s with ⟨h, g2 | ⟨b, q, g2⟩⟩ | ⟨h, b, p, q, g2, g3⟩
  · rw [g2] at hok; rw [← hok] at hk; cases hk
  · rw [h, (h3 _ _ _ g2).2.1]; rfl
  · rw [h, (h3 _ _ _ g2).2.1, wds_pos g3]; rfl
theorem rterm_any (v : Int) (s : ByteArray) (A : Option Addr) (c : Nat) (el : List Int) (w : World) (hA : Ints w A el) (hs : s.size ≤ 19) (he : el.length ≤ 64) (hv0 : 0 ≤ v) (hv6 : v ≤ 6) (hT : Tab w) :
    Calls Tryz.prog 152 #[.int .i64 v, .agg #[.string s, .slice A el.length c]] w (RetTerm v (s, el) w) := by
  have hbA : Below w.heap.size w ((w.alloc (.cells #[.string s, .slice A el.length c] 110)).alloc (.cells #[.int .i64 0, .int .i64 0, .int .i64 0, .int .i64 0, .int .i64 0, .int .i64 0, .bool false, .slice none 0 0, .bool false, .slice none 0 0] 211)) :=
    ((Below.refl _ _).alloc (Nat.le_refl _) _).alloc (by simp) _
  have hcs := read_cases s
  obtain ⟨ok, hok⟩ : ∃ ok, (rd s.data.toList).isSome = ok := ⟨_, rfl⟩
  have HK : Hid ((ok = false ∧ coefOk s = false) ∨ (ok = true)) := Lib.hid (by
    rcases hcs with ⟨h, h2 | ⟨b, q, h2⟩⟩ | ⟨h, b, p, q, h2, h3⟩
    · exact .inl ⟨by rw [← hok, h2]; rfl, h⟩
    · exact .inr (by rw [← hok, h2]; rfl)
    · exact .inr (by rw [← hok, h2]; rfl))
  have HR := Lib.hid (read_lit s _ hs (hT.below hbA hT.1) ok hok)
  clear hcs hok
  go_enter Tryz.func152, Tryz.ntmps152
  go_upto_region 2 with (go_at_call 103; refine HR.out.mono ?_; rintro e w1 ⟨x, y, X, Y, m, n, cx, cy, rfl, hb1, hm⟩)
  have B3 : Blk w1 w.heap.size 110 #[.string s, .slice A el.length c] := ((Blk.new w 110 #[.string s, .slice A el.length c]).alloc _).keep hb1 (by simp; omega)
  have B4 : Blk w1 (w.heap.size + 1) 211 #[.int .i64 0, .int .i64 0, .int .i64 0, .int .i64 0, .int .i64 0, .int .i64 0, .bool false, .slice none 0 0, .bool false, .slice none 0 0] := by
    have := (Blk.new (w.alloc (.cells #[.string s, .slice A el.length c] 110)) 211 #[.int .i64 0, .int .i64 0, .int .i64 0, .int .i64 0, .int .i64 0, .int .i64 0, .bool false, .slice none 0 0, .bool false, .slice none 0 0]).keep hb1 (by simp)
    simpa using this
  have hbw : Below w.heap.size w w1 := hbA.trans (hb1.mono (by simp; omega))
  have hz1 : w.heap.size + 1 < w1.heap.size := B4.lt
  have hz0 : w.heap.size < w1.heap.size := B3.lt
  have HM := Lib.hid hm
  clear hb1 hbA hm
  by_cases hok : ok = false
  · subst hok
    have hF : Hid (termOk v (s, el) = false) := Lib.hid (by
      rcases HK.out with ⟨_, h⟩ | h
      · unfold termOk; rw [h]; rfl
      · cases h)
    obtain ⟨⟨a0, a1, a2, a3, a4, a5, a6, a7, a8, a9⟩, f0, f1, f2, f3, f4, f5, f6, f7, f8, f9⟩ := B4.ten
    go_wp2
    refine bodyPost_ret (v := .tuple #[.agg #[.int .i64 0, .int .i64 0, .int .i64 0, .int .i64 0, .int .i64 0, .int .i64 0, .bool false, .slice none 0 0, .bool false, .slice none 0 0], .bool false]) (by simp [results, Tryz.results152, go_sem, a0, a1, a2, a3, a4, a5, a6, a7, a8, a9, hz1]) rfl (fin_term hF.out ?_)
    exact (below_ten hbw (by omega) _ _ _ _ _ _ _ _ _ _).alloc (by simp; omega) _
  · obtain rfl : ok = true := by cases ok; exact absurd rfl hok; rfl
    have hm := HM.out rfl
    clear hok HK HM
    have HZ := Lib.hid (fun W => riszero_any x y X Y m n cx cy W)
    have hB3 := B3.alloc (.cells #[.bool x, .slice X m cx, .bool y, .slice Y n cy] 124)
    have hB4 := B4.alloc (.cells #[.bool x, .slice X m cx, .bool y, .slice Y n cy] 124)
    have hB6 := Blk.new w1 124 #[.bool x, .slice X m cx, .bool y, .slice Y n cy]
    have hbw1 := hbw.alloc hbw.size (.cells #[.bool x, .slice X m cx, .bool y, .slice Y n cy] 124)
    by_cases hco : coefOk s = false
    · have hm0 : decide (m = 0) = true := by rw [hm, hco]; rfl
      have hF : Hid (termOk v (s, el) = false) := Lib.hid (by unfold termOk; rw [hco]; rfl)
      have HZ2 : Hid (∀ W, Calls Tryz.prog 177 #[.agg #[.bool x, .slice X m cx, .bool y, .slice Y n cy]] W fun e w' => e = .returned (.bool true) ∧ Below W.heap.size W w') := Lib.hid (fun W => (HZ.out W).mono fun e w' ⟨h1, h2⟩ => ⟨by rw [h1, hm0], h2⟩)
      clear hm hm0 hco HZ
      go_wp2_with (go_at_call 177; refine (HZ2.out _).mono ?_; rintro e w2 ⟨rfl, hb2⟩
                   have C4 := hB4.keep hb2 (by simp; omega)
                   obtain ⟨⟨a0, a1, a2, a3, a4, a5, a6, a7, a8, a9⟩, f0, f1, f2, f3, f4, f5, f6, f7, f8, f9⟩ := C4.ten)
      refine bodyPost_ret (v := .tuple #[.agg #[.int .i64 0, .int .i64 0, .int .i64 0, .int .i64 0, .int .i64 0, .int .i64 0, .bool false, .slice none 0 0, .bool false, .slice none 0 0], .bool false]) (by simp [results, Tryz.results152, go_sem, a0, a1, a2, a3, a4, a5, a6, a7, a8, a9]) rfl (fin_term hF.out ?_)
      exact below_ten (hbw1.trans (hb2.mono hbw1.size)) (by omega) _ _ _ _ _ _ _ _ _ _
    · have hco : coefOk s = true := by cases h : coefOk s; exact absurd h hco; rfl
      have hm0 : decide (m = 0) = false := by rw [hm, hco]; rfl
      have HZ2 : Hid (∀ W, Calls Tryz.prog 177 #[.agg #[.bool x, .slice X m cx, .bool y, .slice Y n cy]] W fun e w' => e = .returned (.bool false) ∧ Below W.heap.size W w') := Lib.hid (fun W => (HZ.out W).mono fun e w' ⟨h1, h2⟩ => ⟨by rw [h1, hm0], h2⟩)
      have HCO := Lib.hid hco
      clear hm hm0 hco HZ
      by_cases hlv : (el.length : Int) = v
      · have hbl : ((el.length : Int) != v) = false := by simp [hlv]
        have HLV := Lib.hid hlv
        clear hlv
        go_upto_region 4 with (
          go_at_call 177; refine (HZ2.out _).mono ?_; rintro e w2 ⟨rfl, hb2⟩
          have C3 := hB3.keep hb2 (by simp; omega)
          obtain ⟨c0, c1, g0, g1⟩ := C3.two)
        have C4 := hB4.keep hb2 (by simp; omega)
        have C6 := hB6.keep hb2 (by simp)
        have hbw2 : Below w.heap.size w w2 := hbw1.trans (hb2.mono hbw1.size)
        have hA2 : Ints w2 A el := hA.keep hbw2
        have hz2 : w.heap.size + 1 < w2.heap.size := C4.lt
        have hz3 : w1.heap.size < w2.heap.size := C6.lt
        clear hb2 HZ2 hB3 hB4 hB6 hbw1 B3 B4 hbw
        go_wp2
        go_loop [34] (fun i => ∃ k : Nat, k ≤ el.length ∧ i = .int .i64 k ∧ Hid (∀ e ∈ el.take k, 0 ≤ e ∧ e ≤ 1048576)) (fun i => el.length - (intOf i).toNat)
        case atStart => exact ⟨0, Nat.zero_le _, rfl, Lib.hid (by simp)⟩
        case round =>
          obtain ⟨k, hk, rfl, HG⟩ := hrel
          by_cases hlt : k < el.length
          · obtain ⟨ad, rfl, hc⟩ := Ints.at hA2 hlt
            have HT0 : Hid (el.take (k + 1) = el.take k ++ [el[k]]) := Lib.hid (List.take_succ_eq_append_getElem hlt)
            have HM : Hid (el[k] ∈ el) := Lib.hid (List.getElem_mem _)
            clear hA2
            generalize el[k] = z at *
            by_cases hz : 0 ≤ z ∧ z ≤ 1048576
            · obtain ⟨z1, z2⟩ := hz
              have b1 : decide (z < 0) = false := by simp; omega
              have b2 : decide ((1048576 : Int) < z) = false := by simp; omega
              have HG2 : Hid (∀ e ∈ el.take (k + 1), 0 ≤ e ∧ e ≤ 1048576) := Lib.hid (by
                rw [HT0.out]
                intro e he'
                rcases List.mem_append.1 he' with h | h
                · exact HG.out e h
                · simp at h; omega)
              go_wp2
              go_round
              case rel => exact ⟨k + 1, by omega, by go_num, HG2⟩
              case measure => simp [intOf]; omega
            · have hF : Hid (termOk v (s, el) = false) := Lib.hid (by
                apply eq_false_of_ne_true
                rw [termOk_iff, low20_iff]
                exact fun h => hz (h.2.2 z HM.out))
              obtain ⟨⟨a0, a1, a2, a3, a4, a5, a6, a7, a8, a9⟩, f0, f1, f2, f3, f4, f5, f6, f7, f8, f9⟩ := C4.ten
              by_cases hz' : z < 0
              · have b1 : decide (z < 0) = true := by simpa using hz'
                clear hz
                go_wp2
                refine bodyPost_ret (v := .tuple #[.agg #[.int .i64 0, .int .i64 0, .int .i64 0, .int .i64 0, .int .i64 0, .int .i64 0, .bool false, .slice none 0 0, .bool false, .slice none 0 0], .bool false]) (by simp [results, Tryz.results152, go_sem, a0, a1, a2, a3, a4, a5, a6, a7, a8, a9]) rfl (fin_term hF.out ?_)
                exact below_ten hbw2 (by omega) _ _ _ _ _ _ _ _ _ _
              · have b1 : decide (z < 0) = false := by simpa using hz'
                have b2 : decide ((1048576 : Int) < z) = true := by simp; omega
                clear hz
                go_wp2
                refine bodyPost_ret (v := .tuple #[.agg #[.int .i64 0, .int .i64 0, .int .i64 0, .int .i64 0, .int .i64 0, .int .i64 0, .bool false, .slice none 0 0, .bool false, .slice none 0 0], .bool false]) (by simp [results, Tryz.results152, go_sem, a0, a1, a2, a3, a4, a5, a6, a7, a8, a9]) rfl (fin_term hF.out ?_)
                exact below_ten hbw2 (by omega) _ _ _ _ _ _ _ _ _ _
          · obtain rfl : k = el.length := by omega
            have hF : Hid (termOk v (s, el) = true) := Lib.hid (termOk_iff.2 ⟨HCO.out, HLV.out, low20_iff.2 (by have := HG.out; rwa [List.take_length] at this)⟩)
            have hl6 : el.length ≤ 6 := by have := HLV.out; omega
            obtain ⟨x0, x1, x2, x3, y0, y1, y2, y3⟩ := C6.four
            clear HG HCO HLV
            go_upto_region 12 with (fail)
            have D10 := Blk.new w2 211 #[.int .i64 0, .int .i64 0, .int .i64 0, .int .i64 0, .int .i64 0, .int .i64 0, .bool x, .slice X m cx, .bool y, .slice Y n cy]
            have D3 := C3.alloc (.cells #[.int .i64 0, .int .i64 0, .int .i64 0, .int .i64 0, .int .i64 0, .int .i64 0, .bool x, .slice X m cx, .bool y, .slice Y n cy] 211)
            have D4 := C4.alloc (.cells #[.int .i64 0, .int .i64 0, .int .i64 0, .int .i64 0, .int .i64 0, .int .i64 0, .bool x, .slice X m cx, .bool y, .slice Y n cy] 211)
            have hAW := Sl.alloc hA2 (.cells #[.int .i64 0, .int .i64 0, .int .i64 0, .int .i64 0, .int .i64 0, .int .i64 0, .bool x, .slice X m cx, .bool y, .slice Y n cy] 211)
            have hbW := hbw2.alloc hbw2.size (.cells #[.int .i64 0, .int .i64 0, .int .i64 0, .int .i64 0, .int .i64 0, .int .i64 0, .bool x, .slice X m cx, .bool y, .slice Y n cy] 211)
            generalize w2.alloc (.cells #[.int .i64 0, .int .i64 0, .int .i64 0, .int .i64 0, .int .i64 0, .int .i64 0, .bool x, .slice X m cx, .bool y, .slice Y n cy] 211) = W at *
            clear c0 c1 g0 g1 x0 x1 x2 x3 y0 y1 y2 y3
            obtain ⟨c0, c1, g0, g1⟩ := D3.two
            go_still_tail 4, (by kernel_rfl)
            change wpList _ _ _ _ _ W.drew
            refine wpList_copy6 rfl (.tmp 49) (.tmp 51) rfl w2.heap.size 211 A c el [.bool x, .slice X m cx, .bool y, .slice Y n cy] rfl rfl (hAW.drewN 1) hl6 D10 ?_
            intro W' E10 hbut
            have E4 := hbut.blk _ _ _ (by omega) (show Blk W.drew (w.heap.size + 1) _ _ from D4)
            have hbW' := hbut.below _ _ hbW.drew (by omega)
            have hzW : w.heap.size + 1 < W'.heap.size := E4.lt
            obtain ⟨⟨a0, a1, a2, a3, a4, a5, a6, a7, a8, a9⟩, f0, f1, f2, f3, f4, f5, f6, f7, f8, f9⟩ := E4.ten
            obtain ⟨⟨j0, j1, j2, j3, j4, j5, j6, j7, j8, j9⟩, k0, k1, k2, k3, k4, k5, k6, k7, k8, k9⟩ := Blk.ten E10
            clear D10 D3 D4 hAW c0 c1 g0 g1
            generalize el.getD 0 0 = v0 at *
            generalize el.getD 1 0 = v1 at *
            generalize el.getD 2 0 = v2 at *
            generalize el.getD 3 0 = v3 at *
            generalize el.getD 4 0 = v4 at *
            generalize el.getD 5 0 = v5 at *
            go_wp2
            refine bodyPost_ret (v := .tuple #[.agg #[.int .i64 v0, .int .i64 v1, .int .i64 v2, .int .i64 v3, .int .i64 v4, .int .i64 v5, .bool x, .slice X m cx, .bool y, .slice Y n cy], .bool true]) (by simp [results, Tryz.results152, go_sem, a0, a1, a2, a3, a4, a5, a6, a7, a8, a9]) rfl (fin_term hF.out ?_)
            exact below_ten hbW' (by omega) _ _ _ _ _ _ _ _ _ _
      · have hbl : ((el.length : Int) != v) = true := by simp [hlv]
        have hF : Hid (termOk v (s, el) = false) := Lib.hid (by unfold termOk; rw [decide_eq_false hlv]; simp)
        clear hlv
        go_wp2_with (go_at_call 177; refine (HZ2.out _).mono ?_; rintro e w2 ⟨rfl, hb2⟩
                     have C4 := hB4.keep hb2 (by simp; omega)
                     have C3 := hB3.keep hb2 (by simp; omega)
                     obtain ⟨c0, c1, g0, g1⟩ := C3.two
                     obtain ⟨⟨a0, a1, a2, a3, a4, a5, a6, a7, a8, a9⟩, f0, f1, f2, f3, f4, f5, f6, f7, f8, f9⟩ := C4.ten)
        refine bodyPost_ret (v := .tuple #[.agg #[.int .i64 0, .int .i64 0, .int .i64 0, .int .i64 0, .int .i64 0, .int .i64 0, .bool false, .slice none 0 0, .bool false, .slice none 0 0], .bool false]) (by simp [results, Tryz.results152, go_sem, a0, a1, a2, a3, a4, a5, a6, a7, a8, a9]) rfl (fin_term hF.out ?_)
        exact below_ten (hbw1.trans (hb2.mono hbw1.size)) (by omega) _ _ _ _ _ _ _ _ _ _
end Go.Proofs.Tg
end
