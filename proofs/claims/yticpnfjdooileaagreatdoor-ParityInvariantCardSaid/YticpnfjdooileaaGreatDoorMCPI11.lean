/- Parts of the proof: WI4, WI5, WC1. -/
import Derived.Deep.DeepCutAuto
import Derived.Laws.CopyOwn
import Derived.Laws.IdiomCopy
import Derived.Test.YticpnfjdooileaaGreatDoorMCPI0
import Derived.Test.YticpnfjdooileaaGreatDoorMCPI10
section
/- Walks: a number read. -/
namespace Go.Proofs.Tg
open Go.RowKit Go.Qn Go.Gr
set_option maxHeartbeats 1000000
set_option maxRecDepth 100000
theorem wds_pos {m : Nat} (h : m ≠ 0) : wds m = [m] := by unfold wds; rw [if_neg h]
theorem gcd_any (A B : Option Addr) (c d a b : Nat) (x y : Bool) (w : World) (hA : Sets w A [a]) (hB : Sets w B [b]) (ha : a < 18446744073709551616) (hb : b < 18446744073709551616) (ha0 : a ≠ 0) (hb0 : b ≠ 0) (hT : Tab w) :
    Calls Tryz.prog 63 #[.agg #[.bool x, .slice A 1 c], .agg #[.bool y, .slice B 1 d]] w (RetInt false (Nat.gcd a b) w) := by
  have hbA : Below w.heap.size w (((w.alloc (.cells #[.bool x, .slice A 1 c] 112)).alloc (.cells #[.bool y, .slice B 1 d] 112)).alloc (.cells #[.bool false, .slice none 0 0] 112)) :=
    (((Below.refl _ _).alloc (Nat.le_refl _) _).alloc (by simp) _).alloc (by simp; omega) _
  have HK := Lib.hid (gcdw_any A B c d a b _ (hA.keep hbA) (hB.keep hbA) ha hb ha0 hb0 (hT.below hbA hT.1))
  go_enter Tryz.func63, Tryz.ntmps63
  go_wp2_with (go_at_call 78; refine HK.out.mono ?_; rintro e w1 ⟨A1, c1, rfl, h1, h2, h3⟩
               have B4 : Blk w1 (w.heap.size + 1 + 1) 112 #[.bool false, .slice none 0 0] := by
                 have := (Blk.new ((w.alloc (.cells #[.bool x, .slice A 1 c] 112)).alloc (.cells #[.bool y, .slice B 1 d] 112)) 112 #[.bool false, .slice none 0 0]).keep h3 (by simp)
                 simpa using this
               have q0 := B4.cell 0
               have q1 := B4.cell 1
               have f0 := B4.frozen 0
               have f1 := B4.frozen 1
               clear B4
               simp at q0 q1)
  refine bodyPost_ret (v := .agg #[.bool false, .slice A1 (wds (Nat.gcd a b)).length c1]) (by simp [results, Tryz.results63, go_sem, q0, q1]) rfl ⟨A1, _, rfl, ?_, ?_⟩
  · have h4 := Sl.put h2 q0 (by simp [vs]) (.bool false)
    exact Sl.put h4 (v := .slice none 0 0) (by rw [World.cell?_setCell_other _ _ _ _ (by simp)]; exact q1) (by simp [vs]) _
  · exact (((hbA.trans (h3.mono (by simp; omega))).setCell (by simp; omega) _).setCell (by simp; omega) _)
theorem isone_any (A : Option Addr) (c m : Nat) (w : World) (hA : Sets w A (wds m)) :
    Calls Tryz.prog 64 #[.agg #[.bool false, .slice A (wds m).length c]] w fun e w' => e = .returned (.bool (decide (m = 1))) ∧ Below w.heap.size w w' := by
  by_cases h0 : m = 0
  · subst h0
    have e : wds 0 = [] := rfl
    rw [e]
    go_enter Tryz.func64, Tryz.ntmps64
    go_wp2
    go_ret
    exact ⟨by simp, (Below.refl _ _).alloc (Nat.le_refl _) _⟩
  · rw [wds_pos h0] at hA ⊢
    obtain ⟨ad, rfl, k, hl⟩ := hA.one
    have k' := cell_alloc k (.cells #[.bool false, .slice (some ad) 1 c] 112)
    go_enter Tryz.func64, Tryz.ntmps64
    go_wp2
    go_ret
    refine ⟨?_, (Below.refl _ _).alloc (Nat.le_refl _) _⟩
    show Ending.returned (.bool ((m : Int) == 1)) = _
    congr 2
    by_cases h1 : m = 1
    · subst h1; rfl
    · rw [decide_eq_false h1]; simp; omega
theorem signed_any (x : Bool) (A : Option Addr) (c : Nat) (w : World) :
    Calls Tryz.prog 123 #[.bool x, .slice A 1 c] w fun e w' => e = .returned (.agg #[.bool x, .slice A 1 c]) ∧ Below w.heap.size w w' := by
  cases x
  all_goals
    go_enter Tryz.func123, Tryz.ntmps123
    go_wp2
    exact bodyPost_ret (v := .agg #[.bool _, .slice A 1 c]) (by simp [results, Tryz.results123, go_sem]) rfl ⟨rfl, (Below.refl _ _).alloc (Nat.le_refl _) _⟩
theorem neg_any (x : Bool) (A : Option Addr) (c : Nat) (w : World) :
    Calls Tryz.prog 104 #[.agg #[.bool x, .slice A 1 c]] w fun e w' => e = .returned (.agg #[.bool (!x), .slice A 1 c]) ∧ Below w.heap.size w w' := by
  have hbA : Below w.heap.size w ((w.alloc (.cells #[.bool x, .slice A 1 c] 112)).alloc (.cells #[.bool false, .slice none 0 0] 112)) :=
    ((Below.refl _ _).alloc (Nat.le_refl _) _).alloc (by simp) _
  go_enter Tryz.func104, Tryz.ntmps104
  go_wp2_with (go_at_call 123; refine (signed_any _ A c _).mono ?_; rintro e w1 ⟨rfl, h3⟩
               have B4 : Blk w1 (w.heap.size + 1) 112 #[.bool false, .slice none 0 0] := by
                 have := (Blk.new (w.alloc (.cells #[.bool x, .slice A 1 c] 112)) 112 #[.bool false, .slice none 0 0]).keep h3 (by simp)
                 simpa using this
               have q0 := B4.cell 0
               have q1 := B4.cell 1
               have f0 := B4.frozen 0
               have f1 := B4.frozen 1
               clear B4
               simp at q0 q1)
  exact bodyPost_ret (v := .agg #[.bool (!x), .slice A 1 c]) (by simp [results, Tryz.results104, go_sem, q0, q1]) rfl ⟨rfl, (((hbA.trans (h3.mono (by simp; omega))).setCell (by simp) _).setCell (by simp) _)⟩
theorem iszero_any (x : Bool) (A : Option Addr) (n c : Nat) (w : World) :
    Calls Tryz.prog 105 #[.agg #[.bool x, .slice A n c]] w fun e w' => e = .returned (.bool (decide (n = 0))) ∧ Below w.heap.size w w' := by
  go_enter Tryz.func105, Tryz.ntmps105
  go_wp2
  go_ret
  refine ⟨?_, (Below.refl _ _).alloc (Nat.le_refl _) _⟩
  show Ending.returned (.bool ((n : Int) == 0)) = _
  congr 2
  by_cases h1 : n = 0
  · subst h1; rfl
  · rw [decide_eq_false h1]; simp; omega
end Go.Proofs.Tg
end
section
/- Walks: a number read. -/
namespace Go.Proofs.Tg
open Go.RowKit Go.Qn Go.Gr
set_option maxHeartbeats 4000000
set_option maxRecDepth 100000
/-- A number that a call has read: nothing, or one in lowest terms. -/
def RetRead (l : List UInt8) (w : World) (e : Ending) (w' : World) : Prop :=
  ∃ x y A B m n c d, e = .returned (.tuple #[.agg #[.bool x, .slice A m c, .bool y, .slice B n d], .bool (rd l).isSome]) ∧ Below w.heap.size w w' ∧
    ∀ b p q, rd l = some (b, p, q) → x = b ∧ m = (wds p).length ∧ Sets w' A (wds p)
theorem splitis_cases {l num den : List UInt8} {b ok : Bool} (h : SplitIs l b num den ok) : (ok = false ∧ rd l = none) ∨ (ok = true ∧ numOk num = true ∧ num.length ≤ l.length ∧ den = [] ∧ rd l = some (b, val num, 1)) ∨
    (ok = true ∧ numOk num = true ∧ num.length ≤ l.length ∧ den.length ≤ l.length ∧ den ≠ [] ∧ numOk den = true ∧ val num ≠ 0 ∧ val den ≠ 0 ∧ rd l = if Nat.gcd (val num) (val den) = 1 then some (b, val num, val den) else none) := by
  obtain ⟨h1, h2, h3, h4⟩ := h
  cases ok with
  | false => exact .inl ⟨rfl, h3 rfl⟩
  | true =>
    obtain ⟨a, b, c⟩ := h4 rfl
    by_cases hd : den = []
    · exact .inr (.inl ⟨rfl, a, h1, hd, b hd⟩)
    · exact .inr (.inr ⟨rfl, a, h1, h2, hd, (c hd).1, (c hd).2.1, (c hd).2.2.1, (c hd).2.2.2⟩)
/-- What memory holds between the parts of the reading: the result's block, the parts' block, the number's block. -/
structure RdSt (w : World) (w1 w2 : World) (b : Bool) (num den : List UInt8) (A : Option Addr) (c : Nat) (wx : World) : Prop where
  below : Below w.heap.size w wx
  b2 : Blk wx w.heap.size 123 #[.bool false, .slice none 0 0, .bool false, .slice none 0 0]
  bf : Blk wx w1.heap.size 107 #[.bool b, .string (bs num), .string (bs den)]
  bx : Blk wx w2.heap.size 123 #[.bool b, .slice A (wds (val num)).length c, .bool false, .slice none 0 0]
  sl : Sets wx A (wds (val num))
theorem fin_read {l : List UInt8} {w w' : World} {b y : Bool} {p q : Nat} {A B : Option Addr} {n c d : Nat} (h : rd l = some (b, p, q)) (hb : Below w.heap.size w w') (hA : Sets w' A (wds p)) :
    RetRead l w (.returned (.tuple #[.agg #[.bool b, .slice A (wds p).length c, .bool y, .slice B n d], .bool true])) w' := by
  refine ⟨b, y, A, B, _, n, c, d, by rw [h]; rfl, hb, fun b' p' q' h' => ?_⟩
  rw [h] at h'
  injection h' with h'
  injection h' with e1 e2
  injection e2 with e2 e3
  subst e1 e2
  exact ⟨rfl, rfl, hA⟩
theorem read_any (s : ByteArray) (w : World) (hs : s.size ≤ 19) (hT : Tab w) :
    Calls Tryz.prog 83 #[.string s] w (RetRead s.data.toList w) := by
  have HL := Lib.hid (len_size s)
  have hbA : Below w.heap.size w (w.alloc (.cells #[.bool false, .slice none 0 0, .bool false, .slice none 0 0] 123)) := (Below.refl _ _).alloc (Nat.le_refl _) _
  go_enter Tryz.func83, Tryz.ntmps83
  go_upto_region 2 with (go_at_call 61; refine (split_any s _ (by omega)).mono ?_; rintro e w1 ⟨b, num, den, ok, rfl, HS, h3⟩
                         have hb1 : Below w.heap.size w w1 := hbA.trans (h3.mono (by simp))
                         have B2 : Blk w1 w.heap.size 123 #[.bool false, .slice none 0 0, .bool false, .slice none 0 0] := (Blk.new w 123 #[.bool false, .slice none 0 0, .bool false, .slice none 0 0]).keep h3 (by simp))
  have hc := splitis_cases HS
  have hz1 := B2.lt
  clear HS h3 hbA
  by_cases hok : ok = false
  · subst hok
    have hr : rd s.data.toList = none := by
      rcases hc with ⟨_, h⟩ | ⟨h, _⟩ | ⟨h, _⟩
      · exact h
      · cases h
      · cases h
    have HR := Lib.hid hr
    clear hr hc
    obtain ⟨a0, a1, a2, a3, f0, f1, f2, f3⟩ := B2.four
    go_wp2
    refine bodyPost_ret (v := .tuple #[.agg #[.bool false, .slice none 0 0, .bool false, .slice none 0 0], .bool false]) (by simp [results, Tryz.results83, go_sem, a0, a1, a2, a3, hz1]) rfl ⟨false, false, none, none, 0, 0, 0, 0, by rw [HR.out]; rfl, ?_, ?_⟩
    · exact ((((hb1.setCell (by simp) _).setCell (by simp) _).setCell (by simp) _).setCell (by simp) _).alloc (by simp; omega) _
    · intro b p q h; rw [HR.out] at h; cases h
  · obtain rfl : ok = true := by cases ok; exact absurd rfl hok; rfl
    have hc' : numOk num = true ∧ num.length ≤ s.data.toList.length ∧ (b = true → val num ≠ 0) ∧ ((den = [] ∧ rd s.data.toList = some (b, val num, 1)) ∨ (den.length ≤ s.data.toList.length ∧ den ≠ [] ∧ numOk den = true ∧ val num ≠ 0 ∧ val den ≠ 0 ∧ rd s.data.toList = if Nat.gcd (val num) (val den) = 1 then some (b, val num, val den) else none)) := by
      rcases hc with ⟨h, _⟩ | ⟨_, h1, h2, h3, h4⟩ | ⟨_, h1, h2, h3, h4, h5, h6, h7, h8⟩
      · cases h
      · exact ⟨h1, h2, (fun e e0 => (by have := (rd_some h4).1.2.2 e0; rw [e] at this; cases this)), .inl ⟨h3, h4⟩⟩
      · exact ⟨h1, h2, (fun _ => h6), .inr ⟨h3, h4, h5, h6, h7, h8⟩⟩
    clear hc hok
    obtain ⟨n1, n2, n3, hc⟩ := hc'
    obtain ⟨d1, d2⟩ := numOk_iff.1 n1
    have HCC := Lib.hid hc
    have hsz : (bs num).size ≤ 19 := by rw [bs_size]; rw [HL.out] at n2; omega
    have HP : Hid (∀ W, Calls Tryz.prog 62 #[.string (bs num)] W (RetInt false (val num) W)) := Lib.hid (fun W => parse_any (bs num) W hsz d1)
    have HBf := Lib.hid (Blk.new w1 107 #[.bool b, .string (bs num), .string (bs den)])
    have HB2 := Lib.hid (B2.alloc (.cells #[.bool b, .string (bs num), .string (bs den)] 107))
    have hb1' : Below w.heap.size w (w1.alloc (.cells #[.bool b, .string (bs num), .string (bs den)] 107)) := hb1.alloc hb1.size _
    have HN3 := Lib.hid n3
    clear hc n1 B2 hb1 n3
    go_upto_region 5 with (go_at_call 62; refine (HP.out _).mono ?_; rintro e w2 ⟨A, c, rfl, hA, hb2⟩)
    have Bf : Blk w2 w1.heap.size 107 #[.bool b, .string (bs num), .string (bs den)] := HBf.out.keep hb2 (by simp)
    have B2 := HB2.out.keep hb2 (by simp; omega)
    have hb2' : Below w.heap.size w w2 := hb1'.trans (hb2.mono hb1'.size)
    have hz2 : w1.heap.size < w2.heap.size := Bf.lt
    have hz3 : w.heap.size < w2.heap.size := by omega
    have St : RdSt w w1 w2 false num den A c (w2.alloc (.cells #[.bool false, .slice A (wds (val num)).length c, .bool false, .slice none 0 0] 123)) ∨ True := .inr trivial
    have HX := Lib.hid (Blk.new w2 123 #[.bool false, .slice A (wds (val num)).length c, .bool false, .slice none 0 0])
    clear St
    obtain ⟨p0, p1, p2, g0, g1, g2⟩ := Bf.three
    obtain ⟨a0, a1, a2, a3, f0, f1, f2, f3⟩ := B2.four
    have HBf2 := Lib.hid Bf
    have HB22 := Lib.hid B2
    clear Bf B2 hb2 hb1'
    go_upto_if 20 with (fail)
    go_cut [20] (fun s20 wx => s20 = .bool b ∧ RdSt w w1 w2 b num den A c wx)
    case first =>
      cases b with
      | false =>
        go_wp2
        go_meet
        exact ⟨rfl, hb2'.alloc hb2'.size _, HB22.out.alloc _, HBf2.out.alloc _, HX.out, hA.alloc _⟩
      | true =>
        have hw := wds_pos (HN3.out rfl)
        have HN : Hid (∀ W, Calls Tryz.prog 104 #[.agg #[.bool false, .slice A (wds (val num)).length c]] W fun e w' => e = .returned (.agg #[.bool true, .slice A (wds (val num)).length c]) ∧ Below W.heap.size W w') := Lib.hid (fun W => by
          rw [hw]; exact neg_any false A c W)
        clear hw
        go_wp2_with (go_at_call 104; refine (HN.out _).mono ?_; rintro e w4 ⟨rfl, hb4⟩
                     have BX := HX.out.keep hb4 (by simp)
                     obtain ⟨x0, x1, x2, x3, y0, y1, y2, y3⟩ := BX.four)
        go_meet
        have hbW := hb2'.alloc hb2'.size (.cells #[.bool false, .slice A (wds (val num)).length c, .bool false, .slice none 0 0] 123)
        have hw4 : Below w.heap.size w w4 := hbW.trans (hb4.mono hbW.size)
        have ho := Sl.off_new hA (Nat.le_refl _)
        refine ⟨rfl, below_far (below_far hw4 (by omega) _ _) (by omega) _ _, ?_, ?_, ?_, ?_⟩
        · exact (((HB22.out.alloc _).keep hb4 (by simp; omega)).far (by simp; omega) _).far (by simp; omega) _
        · exact (((HBf2.out.alloc _).keep hb4 (by simp; omega)).far (by simp; omega) _).far (by simp; omega) _
        · exact (BX.set 0 (.bool true)).set 1 (.slice A (wds (val num)).length c)
        · exact (((hA.alloc _).keep hb4).far ho _ _).far ho _ _
    case rest =>
      obtain ⟨rfl, hst⟩ := hcut
      obtain ⟨hbx, B2, Bf, Bx, hAx⟩ := hst
      clear p0 p1 p2 g0 g1 g2 a0 a1 a2 a3 f0 f1 f2 f3
      obtain ⟨p0, p1, p2, g0, g1, g2⟩ := Bf.three
      obtain ⟨a0, a1, a2, a3, f0, f1, f2, f3⟩ := B2.four
      obtain ⟨x0, x1, x2, x3, y0, y1, y2, y3⟩ := Bx.four
      have ho : Off A (wds (val num)).length w.heap.size := Sl.off hAx (by omega) B2 (by simp [vs])
      rcases HCC.out with ⟨hd, hr⟩ | ⟨m1, m2, m3, m4, m5, hr⟩
      · subst hd
        have HR := Lib.hid hr
        have hbe : (bs []).toList.isEmpty = true := by rw [bs_toList]; rfl
        have hbe' : (bs []).toList = [] := by rw [bs_toList]
        clear hr HCC
        go_wp2
        refine bodyPost_ret (v := .tuple #[.agg #[.bool b, .slice A (wds (val num)).length c, .bool false, .slice none 0 0], .bool true]) (by simp [results, Tryz.results83, go_sem, a0, a1, a2, a3]) rfl (fin_read HR.out ?_ ?_)
        · exact below_far (below_far (below_far (below_far hbx (Nat.le_refl _) _ _) (Nat.le_refl _) _ _) (Nat.le_refl _) _ _) (Nat.le_refl _) _ _
        · exact (((hAx.far ho _ _).far ho _ _).far ho _ _).far ho _ _
      · obtain ⟨e1, e2⟩ := numOk_iff.1 m3
        have hbe : (bs den).toList.isEmpty = false := by rw [bs_toList]; cases den; exact absurd rfl m2; rfl
        have hbe' : ¬ (bs den).toList = [] := by rw [bs_toList]; exact m2
        have hsz2 : (bs den).size ≤ 19 := by rw [bs_size]; rw [HL.out] at m1; omega
        have HP2 : Hid (∀ W, Calls Tryz.prog 62 #[.string (bs den)] W (RetInt false (val den) W)) := Lib.hid (fun W => parse_any (bs den) W hsz2 e1)
        have HR := Lib.hid hr
        have HB2 := Lib.hid B2
        have HBx := Lib.hid Bx
        have hw1 := wds_pos m4
        have hw2 := wds_pos m5
        have v1 : val num < 18446744073709551616 := Nat.lt_of_lt_of_le (val_lt num d1) (Nat.le_trans (pow_19 (by rw [HL.out] at n2; omega)) (by decide))
        have v2 : val den < 18446744073709551616 := Nat.lt_of_lt_of_le (val_lt den e1) (Nat.le_trans (pow_19 (by rw [HL.out] at m1; omega)) (by decide))
        have HW1 := Lib.hid hw1
        have HW2 := Lib.hid hw2
        clear hr HCC e1 m1 m3 B2 Bx Bf hw1 hw2
        go_upto_region 9 with (fail)
        clear f0 f1 f2 f3 g0 g1 g2
        go_wp2_with (go_at_call 62; refine (HP2.out _).mono ?_; rintro e w5 ⟨B, d, rfl, hB, hb5⟩
                     have BX := HBx.out.keep hb5 HBx.out.lt
                     have BB := HB2.out.keep hb5 HB2.out.lt
                     clear a0 a1 a2 a3 x0 x1 x2 x3 y0 y1 y2 y3 p0 p1 p2
                     obtain ⟨x0, x1, x2, x3, y0, y1, y2, y3⟩ := BX.four)
        have hb5w : Below w.heap.size w w5 := hbx.trans (hb5.mono hbx.size)
        have hoA : Off A (wds (val num)).length w2.heap.size := Sl.off_new hA (Nat.le_refl _)
        have hoB : Off B (wds (val den)).length w2.heap.size := Sl.off hB (by omega) BX (by simp [vs])
        have hoB2 : Off B (wds (val den)).length w.heap.size := Sl.off hB (by omega) BB (by simp [vs])
        have sA := ((hAx.keep hb5).far hoA 2 (.bool false)).far hoA 3 (.slice B (wds (val den)).length d)
        have sB := (hB.far hoB 2 (.bool false)).far hoB 3 (.slice B (wds (val den)).length d)
        have hbW : Below w.heap.size w ((w5.setCell ⟨w2.heap.size, 2, none⟩ (.bool false)).setCell ⟨w2.heap.size, 3, none⟩ (.slice B (wds (val den)).length d)) := below_far (below_far hb5w (by omega) _ _) (by omega) _ _
        have CX := (BX.set 2 (.bool false)).set 3 (.slice B (wds (val den)).length d)
        have CB := (BB.far (p := ⟨w2.heap.size, 2, none⟩) (by simp; omega) (.bool false)).far (p := ⟨w2.heap.size, 3, none⟩) (by simp; omega) (.slice B (wds (val den)).length d)
        generalize (w5.setCell ⟨w2.heap.size, 2, none⟩ (.bool false)).setCell ⟨w2.heap.size, 3, none⟩ (.slice B (wds (val den)).length d) = W at *
        have HGC : Hid (Calls Tryz.prog 63 #[.agg #[.bool b, .slice A (wds (val num)).length c], .agg #[.bool false, .slice B (wds (val den)).length d]] W (RetInt false (Nat.gcd (val num) (val den)) W)) := Lib.hid (by
          have h1 := sA
          have h2 := sB
          rw [HW1.out] at h1 ⊢
          rw [HW2.out] at h2 ⊢
          exact gcd_any A B c d _ _ b false W h1 h2 v1 v2 m4 m5 (hT.below hbW hT.1))
        clear x0 x1 x2 x3 y0 y1 y2 y3
        refine HGC.out.mono ?_
        rintro e w6 ⟨G, cg, rfl, hG, hb6⟩
        have hb6w : Below w.heap.size w w6 := hbW.trans (hb6.mono hbW.size)
        have sA6 := sA.keep hb6
        have CX6 := CX.keep hb6 CX.lt
        have CB6 := CB.keep hb6 CB.lt
        have HI := Lib.hid (isone_any G cg (Nat.gcd (val num) (val den)) w6 hG)
        by_cases hg : Nat.gcd (val num) (val den) = 1
        · have HI2 : Hid (Calls Tryz.prog 64 #[.agg #[.bool false, .slice G (wds (Nat.gcd (val num) (val den))).length cg]] w6 fun e w' => e = .returned (.bool true) ∧ Below w6.heap.size w6 w') := Lib.hid (HI.out.mono fun e w' ⟨h1, h2⟩ => ⟨by rw [h1, decide_eq_true hg], h2⟩)
          have hr : rd s.data.toList = some (b, val num, val den) := by rw [HR.out, if_pos hg]
          have HR2 := Lib.hid hr
          clear hr hg HI HR
          go_wp2_with (go_at_call 64; refine HI2.out.mono ?_; rintro e w7 ⟨rfl, hb7⟩
                       have CX7 := CX6.keep hb7 CX6.lt
                       have CB7 := CB6.keep hb7 CB6.lt
                       obtain ⟨a0, a1, a2, a3, f0, f1, f2, f3⟩ := CB7.four
                       obtain ⟨x0, x1, x2, x3, y0, y1, y2, y3⟩ := CX7.four)
          refine bodyPost_ret (v := .tuple #[.agg #[.bool b, .slice A (wds (val num)).length c, .bool false, .slice B (wds (val den)).length d], .bool true]) (by simp [results, Tryz.results83, go_sem, a0, a1, a2, a3]) rfl (fin_read HR2.out ?_ ?_)
          · exact below_far (below_far (below_far (below_far (hb6w.trans (hb7.mono hb6w.size)) (Nat.le_refl _) _ _) (Nat.le_refl _) _ _) (Nat.le_refl _) _ _) (Nat.le_refl _) _ _
          · exact ((((sA6.keep hb7).far ho _ _).far ho _ _).far ho _ _).far ho _ _
        · have HI2 : Hid (Calls Tryz.prog 64 #[.agg #[.bool false, .slice G (wds (Nat.gcd (val num) (val den))).length cg]] w6 fun e w' => e = .returned (.bool false) ∧ Below w6.heap.size w6 w') := Lib.hid (HI.out.mono fun e w' ⟨h1, h2⟩ => ⟨by rw [h1, decide_eq_false hg], h2⟩)
          have hr : rd s.data.toList = none := by rw [HR.out, if_neg hg]
          have HR2 := Lib.hid hr
          clear hr hg HI HR
          go_wp2_with (go_at_call 64; refine HI2.out.mono ?_; rintro e w7 ⟨rfl, hb7⟩
                       have CX7 := CX6.keep hb7 CX6.lt
                       have CB7 := CB6.keep hb7 CB6.lt
                       obtain ⟨a0, a1, a2, a3, f0, f1, f2, f3⟩ := CB7.four
                       obtain ⟨x0, x1, x2, x3, y0, y1, y2, y3⟩ := CX7.four)
          refine bodyPost_ret (v := .tuple #[.agg #[.bool false, .slice none 0 0, .bool false, .slice none 0 0], .bool false]) (by simp [results, Tryz.results83, go_sem, a0, a1, a2, a3]) rfl ⟨false, false, none, none, 0, 0, 0, 0, by rw [HR2.out]; rfl, ?_, ?_⟩
          · exact below_far (below_far (below_far (below_far (hb6w.trans (hb7.mono hb6w.size)) (Nat.le_refl _) _ _) (Nat.le_refl _) _ _) (Nat.le_refl _) _ _) (Nat.le_refl _) _ _
          · intro b p q h; rw [HR2.out] at h; cases h
end Go.Proofs.Tg
end
section
/- The built-in copy of at most six numbers into an array at a block's head. -/
namespace Go.Proofs.Tg
open Go.RowKit
theorem int_sz : (Tryz.prog.info? 3).map (·.size) = some 1 := by kernel_rfl
/-- Another world that differs in block g alone. -/
structure But (g : Nat) (W W' : World) : Prop where
  below : ∀ (B : Nat) (w0 : World), Below B w0 W → B ≤ g → Below B w0 W'
  blk : ∀ (g' : Nat) (t : TypeId) (cs : Array Value), g' ≠ g → Blk W g' t cs → Blk W' g' t cs
theorem wpList_copy6 {ops : Array Oper} {rest : List Oper} {o : Oper} {a : Act} {Q : Exit → Act → World → Prop} {W : World} (hgd : o.guard = none) (d s : Operand)
    (ho : o.op = .call { callee := .builtin .copy, args := #[d, s], argTypes := #[33, 33] }) (g : Nat) (t : TypeId) (A : Option Addr) (c : Nat) (el : List Int) (z : List Value)
    (hd : a.eval d = .slice (some ⟨g, 0, none⟩) 6 6) (hs : a.eval s = .slice A el.length c) (hA : Ints W A el) (hl : el.length ≤ 6)
    (hB : Blk W g t ([Value.int .i64 0, Value.int .i64 0, Value.int .i64 0, Value.int .i64 0, Value.int .i64 0, Value.int .i64 0] ++ z).toArray)
    (h : ∀ W', Blk W' g t ([Value.int .i64 (el.getD 0 0), Value.int .i64 (el.getD 1 0), Value.int .i64 (el.getD 2 0), Value.int .i64 (el.getD 3 0), Value.int .i64 (el.getD 4 0), Value.int .i64 (el.getD 5 0)] ++ z).toArray → But g W W' → wpList Tryz.prog ops Q rest (a.put o.dst (goInt el.length)) W') :
    wpList Tryz.prog ops Q (o :: rest) a W := by
  by_cases h0 : el = []
  · subst h0
    refine wpList_plain hgd fun K hK => ?_
    have hrun := run_copy_none (P := Tryz.prog) W 33 33 o.type 3 (some ⟨g, 0, none⟩) A 6 6 0 c Tryz.underlying33 int_sz rfl
    have hs' : a.eval s = .slice A 0 c := hs
    unfold Oper.wp
    simp [execOp, ho, resolve, invoke, builtin, hd, hs', hrun, Result.andThen]
    exact hK _ _ (h W hB ⟨fun _ _ h _ => h, fun _ _ _ _ h => h⟩)
  · have hp : 0 < el.length := List.length_pos_iff.2 h0
    obtain ⟨ad, rfl, _, hc⟩ := hA.lies hp
    refine wpList_copy_own hgd d s 33 33 ho 3 Tryz.underlying33 int_sz g 0 6 6 ad el.length c hd hs _ t hB (el.map vi) (by rw [List.length_map]; exact (Nat.min_eq_left hl).symm) hc (by simp; omega) (by simp [vi, Value.oneCell']) ?_
    have key : (([Value.int .i64 0, Value.int .i64 0, Value.int .i64 0, Value.int .i64 0, Value.int .i64 0, Value.int .i64 0] ++ z).toArray.toList.take 0 ++ (el.map vi ++ ([Value.int .i64 0, Value.int .i64 0, Value.int .i64 0, Value.int .i64 0, Value.int .i64 0, Value.int .i64 0] ++ z).toArray.toList.drop (0 + (el.map vi).length))).toArray
        = ([Value.int .i64 (el.getD 0 0), Value.int .i64 (el.getD 1 0), Value.int .i64 (el.getD 2 0), Value.int .i64 (el.getD 3 0), Value.int .i64 (el.getD 4 0), Value.int .i64 (el.getD 5 0)] ++ z).toArray := by
      match el, hl with
      | [], _ => exact absurd rfl h0
      | [_], _ => simp [vi]
      | [_, _], _ => simp [vi]
      | [_, _, _], _ => simp [vi]
      | [_, _, _, _], _ => simp [vi]
      | [_, _, _, _, _], _ => simp [vi]
      | [_, _, _, _, _, _], _ => simp [vi]
      | _ :: _ :: _ :: _ :: _ :: _ :: _ :: l, hl => simp at hl
    rw [key]
    have hlen : (goInt ((el.map vi).length)) = goInt el.length := by simp
    rw [hlen]
    refine h _ ?_ ⟨fun B w0 hb hg => below_setRow hb hg _, fun g' t' cs hne hb => ?_⟩
    · exact setRow_heap W g _ _ t _ hB
    · exact (setRow_other W g g' _ hne).trans hb
end Go.Proofs.Tg
end
