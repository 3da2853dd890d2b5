/- Parts of the proof: WI4, WI5, WM1, WP1, WP2. -/
import Derived.Deep.DeepCutAuto
import Derived.StillTailTactics
import Derived.Test.YtpiedheafppnhaaGreatDoorMSF0
import Derived.Test.YtpiedheafppnhaaGreatDoorMSF1
import Derived.Test.YtpiedheafppnhaaGreatDoorMSF2
import Derived.Test.YtpiedheafppnhaaGreatDoorMSF10
section
/- Walks: a number read. -/
namespace Go.Proofs.Tg
open Go.RowKit Go.Qn Go.Gr
set_option maxHeartbeats 1000000
set_option maxRecDepth 100000
theorem wds_pos {m : Nat} (h : m ≠ 0) : wds m = [m] := by unfold wds; rw [if_neg h]
theorem gcd_any (A B : Option Addr) (c d a b : Nat) (x y : Bool) (w : World) (hA : Sets w A [a]) (hB : Sets w B [b]) (ha : a < 18446744073709551616) (hb : b < 18446744073709551616) (ha0 : a ≠ 0) (hb0 : b ≠ 0) (hT : Tab w) :
    Calls Tryz.prog 92 #[.agg #[.bool x, .slice A 1 c], .agg #[.bool y, .slice B 1 d]] w (RetInt false (Nat.gcd a b) w) := by
  have hbA : Below w.heap.size w (((w.alloc (.cells #[.bool x, .slice A 1 c] 141)).alloc (.cells #[.bool y, .slice B 1 d] 141)).alloc (.cells #[.bool false, .slice none 0 0] 141)) :=
    (((Below.refl _ _).alloc (Nat.le_refl _) _).alloc (by simp) _).alloc (by simp; omega) _
  have HK := Lib.hid (gcdw_any A B c d a b _ (hA.keep hbA) (hB.keep hbA) ha hb ha0 hb0 (hT.below hbA hT.1))
  go_enter Tryz.func92, Tryz.ntmps92
  go_wp2_with (go_at_call 99; refine HK.out.mono ?_; rintro e w1 ⟨A1, c1, rfl, h1, h2, h3⟩
               have B4 : Blk w1 (w.heap.size + 1 + 1) 141 #[.bool false, .slice none 0 0] := by
                 have := (Blk.new ((w.alloc (.cells #[.bool x, .slice A 1 c] 141)).alloc (.cells #[.bool y, .slice B 1 d] 141)) 141 #[.bool false, .slice none 0 0]).keep h3 (by simp)
                 simpa using this
               have q0 := B4.cell 0
               have q1 := B4.cell 1
               have f0 := B4.frozen 0
               have f1 := B4.frozen 1
               clear B4
               simp at q0 q1)
  refine bodyPost_ret (v := .agg #[.bool false, .slice A1 (wds (Nat.gcd a b)).length c1]) (by simp [results, Tryz.results92, go_sem, q0, q1]) rfl ⟨A1, _, rfl, ?_, ?_⟩
  · have h4 := Sl.put h2 q0 (by simp [vs]) (.bool false)
    exact Sl.put h4 (v := .slice none 0 0) (by rw [World.cell?_setCell_other _ _ _ _ (by simp)]; exact q1) (by simp [vs]) _
  · exact (((hbA.trans (h3.mono (by simp; omega))).setCell (by simp; omega) _).setCell (by simp; omega) _)
theorem isone_any (A : Option Addr) (c m : Nat) (w : World) (hA : Sets w A (wds m)) :
    Calls Tryz.prog 93 #[.agg #[.bool false, .slice A (wds m).length c]] w fun e w' => e = .returned (.bool (decide (m = 1))) ∧ Below w.heap.size w w' := by
  by_cases h0 : m = 0
  · subst h0
    have e : wds 0 = [] := rfl
    rw [e]
    go_enter Tryz.func93, Tryz.ntmps93
    go_wp2
    go_ret
    exact ⟨by simp, (Below.refl _ _).alloc (Nat.le_refl _) _⟩
  · rw [wds_pos h0] at hA ⊢
    obtain ⟨ad, rfl, k, hl⟩ := hA.one
    have k' := cell_alloc k (.cells #[.bool false, .slice (some ad) 1 c] 141)
    go_enter Tryz.func93, Tryz.ntmps93
    go_wp2
    go_ret
    refine ⟨?_, (Below.refl _ _).alloc (Nat.le_refl _) _⟩
    show Ending.returned (.bool ((m : Int) == 1)) = _
    congr 2
    by_cases h1 : m = 1
    · subst h1; rfl
    · rw [decide_eq_false h1]; simp; omega
theorem signed_any (x : Bool) (A : Option Addr) (c : Nat) (w : World) :
    Calls Tryz.prog 98 #[.bool x, .slice A 1 c] w fun e w' => e = .returned (.agg #[.bool x, .slice A 1 c]) ∧ Below w.heap.size w w' := by
  cases x
  all_goals
    go_enter Tryz.func98, Tryz.ntmps98
    go_wp2
    exact bodyPost_ret (v := .agg #[.bool _, .slice A 1 c]) (by simp [results, Tryz.results98, go_sem]) rfl ⟨rfl, (Below.refl _ _).alloc (Nat.le_refl _) _⟩
theorem neg_any (x : Bool) (A : Option Addr) (c : Nat) (w : World) :
    Calls Tryz.prog 91 #[.agg #[.bool x, .slice A 1 c]] w fun e w' => e = .returned (.agg #[.bool (!x), .slice A 1 c]) ∧ Below w.heap.size w w' := by
  have hbA : Below w.heap.size w ((w.alloc (.cells #[.bool x, .slice A 1 c] 141)).alloc (.cells #[.bool false, .slice none 0 0] 141)) :=
    ((Below.refl _ _).alloc (Nat.le_refl _) _).alloc (by simp) _
  go_enter Tryz.func91, Tryz.ntmps91
  go_wp2_with (go_at_call 98; refine (signed_any _ A c _).mono ?_; rintro e w1 ⟨rfl, h3⟩
               have B4 : Blk w1 (w.heap.size + 1) 141 #[.bool false, .slice none 0 0] := by
                 have := (Blk.new (w.alloc (.cells #[.bool x, .slice A 1 c] 141)) 141 #[.bool false, .slice none 0 0]).keep h3 (by simp)
                 simpa using this
               have q0 := B4.cell 0
               have q1 := B4.cell 1
               have f0 := B4.frozen 0
               have f1 := B4.frozen 1
               clear B4
               simp at q0 q1)
  exact bodyPost_ret (v := .agg #[.bool (!x), .slice A 1 c]) (by simp [results, Tryz.results91, go_sem, q0, q1]) rfl ⟨rfl, (((hbA.trans (h3.mono (by simp; omega))).setCell (by simp) _).setCell (by simp) _)⟩
theorem iszero_any (x : Bool) (A : Option Addr) (n c : Nat) (w : World) :
    Calls Tryz.prog 94 #[.agg #[.bool x, .slice A n c]] w fun e w' => e = .returned (.bool (decide (n = 0))) ∧ Below w.heap.size w w' := by
  go_enter Tryz.func94, Tryz.ntmps94
  go_wp2
  go_ret
  refine ⟨?_, (Below.refl _ _).alloc (Nat.le_refl _) _⟩
  show Ending.returned (.bool ((n : Int) == 0)) = _
  congr 2
  by_cases h1 : n = 0
  · subst h1; rfl
  · rw [decide_eq_false h1]; simp; omega
end Go.Proofs.Tg
end
section
/- Walks: a number read. -/
namespace Go.Proofs.Tg
open Go.RowKit Go.Qn Go.Gr
set_option maxHeartbeats 4000000
set_option maxRecDepth 100000
/-- A number that a call has read: nothing, or one in lowest terms. -/
def RetRead (l : List UInt8) (w : World) (e : Ending) (w' : World) : Prop :=
  ∃ x y A B m n c d, e = .returned (.tuple #[.agg #[.bool x, .slice A m c, .bool y, .slice B n d], .bool (rd l).isSome]) ∧ Below w.heap.size w w' ∧
    ∀ b p q, rd l = some (b, p, q) → x = b ∧ m = (wds p).length ∧ Sets w' A (wds p)
theorem splitis_cases {l num den : List UInt8} {b ok : Bool} (h : SplitIs l b num den ok) : (ok = false ∧ rd l = none) ∨ (ok = true ∧ numOk num = true ∧ num.length ≤ l.length ∧ den = [] ∧ rd l = some (b, val num, 1)) ∨
    (ok = true ∧ numOk num = true ∧ num.length ≤ l.length ∧ den.length ≤ l.length ∧ den ≠ [] ∧ numOk den = true ∧ val num ≠ 0 ∧ val den ≠ 0 ∧ rd l = if Nat.gcd (val num) (val den) = 1 then some (b, val num, val den) else none) := by
  obtain ⟨h1, h2, h3, h4⟩ := h
  cases ok with
  | false => exact .inl ⟨rfl, h3 rfl⟩
  | true =>
    obtain ⟨a, b, c⟩ := h4 rfl
    by_cases hd : den = []
    · exact .inr (.inl ⟨rfl, a, h1, hd, b hd⟩)
    · exact .inr (.inr ⟨rfl, a, h1, h2, hd, (c hd).1, (c hd).2.1, (c hd).2.2.1, (c hd).2.2.2⟩)
/-- What memory holds between the parts of the reading: the result's block, the parts' block, the number's block. -/
structure RdSt (w : World) (w1 w2 : World) (b : Bool) (num den : List UInt8) (A : Option Addr) (c : Nat) (wx : World) : Prop where
  below : Below w.heap.size w wx
  b2 : Blk wx w.heap.size 143 #[.bool false, .slice none 0 0, .bool false, .slice none 0 0]
  bf : Blk wx w1.heap.size 155 #[.bool b, .string (bs num), .string (bs den)]
  bx : Blk wx w2.heap.size 143 #[.bool b, .slice A (wds (val num)).length c, .bool false, .slice none 0 0]
  sl : Sets wx A (wds (val num))
theorem fin_read {l : List UInt8} {w w' : World} {b y : Bool} {p q : Nat} {A B : Option Addr} {n c d : Nat} (h : rd l = some (b, p, q)) (hb : Below w.heap.size w w') (hA : Sets w' A (wds p)) :
    RetRead l w (.returned (.tuple #[.agg #[.bool b, .slice A (wds p).length c, .bool y, .slice B n d], .bool true])) w' := by
  refine ⟨b, y, A, B, _, n, c, d, by rw [h]; rfl, hb, fun b' p' q' h' => ?_⟩
  rw [h] at h'
  injection h' with h'
  injection h' with e1 e2
  injection e2 with e2 e3
  subst e1 e2
  exact ⟨rfl, rfl, hA⟩
theorem read_any (s : ByteArray) (w : World) (hs : s.size ≤ 19) (hT : Tab w) :
    Calls Tryz.prog 87 #[.string s] w (RetRead s.data.toList w) := by
  have HL := Lib.hid (len_size s)
  have hbA : Below w.heap.size w (w.alloc (.cells #[.bool false, .slice none 0 0, .bool false, .slice none 0 0] 143)) := (Below.refl _ _).alloc (Nat.le_refl _) _
  go_enter Tryz.func87, Tryz.ntmps87
  go_upto_region 2 with (go_at_call 89; refine (split_any s _ (by omega)).mono ?_; rintro e w1 ⟨b, num, den, ok, rfl, HS, h3⟩
                         have hb1 : Below w.heap.size w w1 := hbA.trans (h3.mono (by simp))
                         have B2 : Blk w1 w.heap.size 143 #[.bool false, .slice none 0 0, .bool false, .slice none 0 0] := (Blk.new w 143 #[.bool false, .slice none 0 0, .bool false, .slice none 0 0]).keep h3 (by simp))
  have hc := splitis_cases HS
  have hz1 := B2.lt
  clear HS h3 hbA
  by_cases hok : ok = false
  · subst hok
    have hr : rd s.data.toList = none := by
      rcases hc with ⟨_, h⟩ | ⟨h, _⟩ | ⟨h, _⟩
      · exact h
      · cases h
      · cases h
    have HR := Lib.hid hr
    clear hr hc
    obtain ⟨a0, a1, a2, a3, f0, f1, f2, f3⟩ := B2.four
    go_wp2
    refine bodyPost_ret (v := .tuple #[.agg #[.bool false, .slice none 0 0, .bool false, .slice none 0 0], .bool false]) (by simp [results, Tryz.results87, go_sem, a0, a1, a2, a3, hz1]) rfl ⟨false, false, none, none, 0, 0, 0, 0, by rw [HR.out]; rfl, ?_, ?_⟩
    · exact ((((hb1.setCell (by simp) _).setCell (by simp) _).setCell (by simp) _).setCell (by simp) _).alloc (by simp; omega) _
    · intro b p q h; rw [HR.out] at h; cases h
  · obtain rfl : ok = true := by cases ok; exact absurd rfl hok; rfl
    have hc' : numOk num = true ∧ num.length ≤ s.data.toList.length ∧ (b = true → val num ≠ 0) ∧ ((den = [] ∧ rd s.data.toList = some (b, val num, 1)) ∨ (den.length ≤ s.data.toList.length ∧ den ≠ [] ∧ numOk den = true ∧ val num ≠ 0 ∧ val den ≠ 0 ∧ rd s.data.toList = if Nat.gcd (val num) (val den) = 1 then some (b, val num, val den) else none)) := by
      rcases hc with ⟨h, _⟩ | ⟨_, h1, h2, h3, h4⟩ | ⟨_, h1, h2, h3, h4, h5, h6, h7, h8⟩
      · cases h
      · exact ⟨h1, h2, (fun e e0 => (by have := (rd_some h4).1.2.2 e0; rw [e] at this; cases this)), .inl ⟨h3, h4⟩⟩
      · exact ⟨h1, h2, (fun _ => h6), .inr ⟨h3, h4, h5, h6, h7, h8⟩⟩
    clear hc hok
    obtain ⟨n1, n2, n3, hc⟩ := hc'
    obtain ⟨d1, d2⟩ := numOk_iff.1 n1
    have HCC := Lib.hid hc
    have hsz : (bs num).size ≤ 19 := by rw [bs_size]; rw [HL.out] at n2; omega
    have HP : Hid (∀ W, Calls Tryz.prog 90 #[.string (bs num)] W (RetInt false (val num) W)) := Lib.hid (fun W => parse_any (bs num) W hsz d1)
    have HBf := Lib.hid (Blk.new w1 155 #[.bool b, .string (bs num), .string (bs den)])
    have HB2 := Lib.hid (B2.alloc (.cells #[.bool b, .string (bs num), .string (bs den)] 155))
    have hb1' : Below w.heap.size w (w1.alloc (.cells #[.bool b, .string (bs num), .string (bs den)] 155)) := hb1.alloc hb1.size _
    have HN3 := Lib.hid n3
    clear hc n1 B2 hb1 n3
    go_upto_region 5 with (go_at_call 90; refine (HP.out _).mono ?_; rintro e w2 ⟨A, c, rfl, hA, hb2⟩)
    have Bf : Blk w2 w1.heap.size 155 #[.bool b, .string (bs num), .string (bs den)] := HBf.out.keep hb2 (by simp)
    have B2 := HB2.out.keep hb2 (by simp; omega)
    have hb2' : Below w.heap.size w w2 := hb1'.trans (hb2.mono hb1'.size)
    have hz2 : w1.heap.size < w2.heap.size := Bf.lt
    have hz3 : w.heap.size < w2.heap.size := by omega
    have St : RdSt w w1 w2 false num den A c (w2.alloc (.cells #[.bool false, .slice A (wds (val num)).length c, .bool false, .slice none 0 0] 143)) ∨ True := .inr trivial
    have HX := Lib.hid (Blk.new w2 143 #[.bool false, .slice A (wds (val num)).length c, .bool false, .slice none 0 0])
    clear St
    obtain ⟨p0, p1, p2, g0, g1, g2⟩ := Bf.three
    obtain ⟨a0, a1, a2, a3, f0, f1, f2, f3⟩ := B2.four
    have HBf2 := Lib.hid Bf
    have HB22 := Lib.hid B2
    clear Bf B2 hb2 hb1'
    go_upto_if 20 with (fail)
    go_cut [20] (fun s20 wx => s20 = .bool b ∧ RdSt w w1 w2 b num den A c wx)
    case first =>
      cases b with
      | false =>
        go_wp2
        go_meet
        exact ⟨rfl, hb2'.alloc hb2'.size _, HB22.out.alloc _, HBf2.out.alloc _, HX.out, hA.alloc _⟩
      | true =>
        have hw := wds_pos (HN3.out rfl)
        have HN : Hid (∀ W, Calls Tryz.prog 91 #[.agg #[.bool false, .slice A (wds (val num)).length c]] W fun e w' => e = .returned (.agg #[.bool true, .slice A (wds (val num)).length c]) ∧ Below W.heap.size W w') := Lib.hid (fun W => by
          rw [hw]; exact neg_any false A c W)
        clear hw
        go_wp2_with (go_at_call 91; refine (HN.out _).mono ?_; rintro e w4 ⟨rfl, hb4⟩
                     have BX := HX.out.keep hb4 (by simp)
                     obtain ⟨x0, x1, x2, x3, y0, y1, y2, y3⟩ := BX.four)
        go_meet
        have hbW := hb2'.alloc hb2'.size (.cells #[.bool false, .slice A (wds (val num)).length c, .bool false, .slice none 0 0] 143)
        have hw4 : Below w.heap.size w w4 := hbW.trans (hb4.mono hbW.size)
        have ho := Sl.off_new hA (Nat.le_refl _)
        refine ⟨rfl, below_far (below_far hw4 (by omega) _ _) (by omega) _ _, ?_, ?_, ?_, ?_⟩
        · exact (((HB22.out.alloc _).keep hb4 (by simp; omega)).far (by simp; omega) _).far (by simp; omega) _
        · exact (((HBf2.out.alloc _).keep hb4 (by simp; omega)).far (by simp; omega) _).far (by simp; omega) _
        · exact (BX.set 0 (.bool true)).set 1 (.slice A (wds (val num)).length c)
        · exact (((hA.alloc _).keep hb4).far ho _ _).far ho _ _
    case rest =>
      obtain ⟨rfl, hst⟩ := hcut
      obtain ⟨hbx, B2, Bf, Bx, hAx⟩ := hst
      clear p0 p1 p2 g0 g1 g2 a0 a1 a2 a3 f0 f1 f2 f3
      obtain ⟨p0, p1, p2, g0, g1, g2⟩ := Bf.three
      obtain ⟨a0, a1, a2, a3, f0, f1, f2, f3⟩ := B2.four
      obtain ⟨x0, x1, x2, x3, y0, y1, y2, y3⟩ := Bx.four
      have ho : Off A (wds (val num)).length w.heap.size := Sl.off hAx (by omega) B2 (by simp [vs])
      rcases HCC.out with ⟨hd, hr⟩ | ⟨m1, m2, m3, m4, m5, hr⟩
      · subst hd
        have HR := Lib.hid hr
        have hbe : (bs []).toList.isEmpty = true := by rw [bs_toList]; rfl
        have hbe' : (bs []).toList = [] := by rw [bs_toList]
        clear hr HCC
        go_wp2
        refine bodyPost_ret (v := .tuple #[.agg #[.bool b, .slice A (wds (val num)).length c, .bool false, .slice none 0 0], .bool true]) (by simp [results, Tryz.results87, go_sem, a0, a1, a2, a3]) rfl (fin_read HR.out ?_ ?_)
        · exact below_far (below_far (below_far (below_far hbx (Nat.le_refl _) _ _) (Nat.le_refl _) _ _) (Nat.le_refl _) _ _) (Nat.le_refl _) _ _
        · exact (((hAx.far ho _ _).far ho _ _).far ho _ _).far ho _ _
      · obtain ⟨e1, e2⟩ := numOk_iff.1 m3
        have hbe : (bs den).toList.isEmpty = false := by rw [bs_toList]; cases den; exact absurd rfl m2; rfl
        have hbe' : ¬ (bs den).toList = [] := by rw [bs_toList]; exact m2
        have hsz2 : (bs den).size ≤ 19 := by rw [bs_size]; rw [HL.out] at m1; omega
        have HP2 : Hid (∀ W, Calls Tryz.prog 90 #[.string (bs den)] W (RetInt false (val den) W)) := Lib.hid (fun W => parse_any (bs den) W hsz2 e1)
        have HR := Lib.hid hr
        have HB2 := Lib.hid B2
        have HBx := Lib.hid Bx
        have hw1 := wds_pos m4
        have hw2 := wds_pos m5
        have v1 : val num < 18446744073709551616 := Nat.lt_of_lt_of_le (val_lt num d1) (Nat.le_trans (pow_19 (by rw [HL.out] at n2; omega)) (by decide))
        have v2 : val den < 18446744073709551616 := Nat.lt_of_lt_of_le (val_lt den e1) (Nat.le_trans (pow_19 (by rw [HL.out] at m1; omega)) (by decide))
        have HW1 := Lib.hid hw1
        have HW2 := Lib.hid hw2
        clear hr HCC e1 m1 m3 B2 Bx Bf hw1 hw2
        go_upto_region 9 with (fail)
        clear f0 f1 f2 f3 g0 g1 g2
        go_wp2_with (go_at_call 90; refine (HP2.out _).mono ?_; rintro e w5 ⟨B, d, rfl, hB, hb5⟩
                     have BX := HBx.out.keep hb5 HBx.out.lt
                     have BB := HB2.out.keep hb5 HB2.out.lt
                     clear a0 a1 a2 a3 x0 x1 x2 x3 y0 y1 y2 y3 p0 p1 p2
                     obtain ⟨x0, x1, x2, x3, y0, y1, y2, y3⟩ := BX.four)
        have hb5w : Below w.heap.size w w5 := hbx.trans (hb5.mono hbx.size)
        have hoA : Off A (wds (val num)).length w2.heap.size := Sl.off_new hA (Nat.le_refl _)
        have hoB : Off B (wds (val den)).length w2.heap.size := Sl.off hB (by omega) BX (by simp [vs])
        have hoB2 : Off B (wds (val den)).length w.heap.size := Sl.off hB (by omega) BB (by simp [vs])
        have sA := ((hAx.keep hb5).far hoA 2 (.bool false)).far hoA 3 (.slice B (wds (val den)).length d)
        have sB := (hB.far hoB 2 (.bool false)).far hoB 3 (.slice B (wds (val den)).length d)
        have hbW : Below w.heap.size w ((w5.setCell ⟨w2.heap.size, 2, none⟩ (.bool false)).setCell ⟨w2.heap.size, 3, none⟩ (.slice B (wds (val den)).length d)) := below_far (below_far hb5w (by omega) _ _) (by omega) _ _
        have CX := (BX.set 2 (.bool false)).set 3 (.slice B (wds (val den)).length d)
        have CB := (BB.far (p := ⟨w2.heap.size, 2, none⟩) (by simp; omega) (.bool false)).far (p := ⟨w2.heap.size, 3, none⟩) (by simp; omega) (.slice B (wds (val den)).length d)
        generalize (w5.setCell ⟨w2.heap.size, 2, none⟩ (.bool false)).setCell ⟨w2.heap.size, 3, none⟩ (.slice B (wds (val den)).length d) = W at *
        have HGC : Hid (Calls Tryz.prog 92 #[.agg #[.bool b, .slice A (wds (val num)).length c], .agg #[.bool false, .slice B (wds (val den)).length d]] W (RetInt false (Nat.gcd (val num) (val den)) W)) := Lib.hid (by
          have h1 := sA
          have h2 := sB
          rw [HW1.out] at h1 ⊢
          rw [HW2.out] at h2 ⊢
          exact gcd_any A B c d _ _ b false W h1 h2 v1 v2 m4 m5 (hT.below hbW hT.1))
        clear x0 x1 x2 x3 y0 y1 y2 y3
        refine HGC.out.mono ?_
        rintro e w6 ⟨G, cg, rfl, hG, hb6⟩
        have hb6w : Below w.heap.size w w6 := hbW.trans (hb6.mono hbW.size)
        have sA6 := sA.keep hb6
        have CX6 := CX.keep hb6 CX.lt
        have CB6 := CB.keep hb6 CB.lt
        have HI := Lib.hid (isone_any G cg (Nat.gcd (val num) (val den)) w6 hG)
        by_cases hg : Nat.gcd (val num) (val den) = 1
        · have HI2 : Hid (Calls Tryz.prog 93 #[.agg #[.bool false, .slice G (wds (Nat.gcd (val num) (val den))).length cg]] w6 fun e w' => e = .returned (.bool true) ∧ Below w6.heap.size w6 w') := Lib.hid (HI.out.mono fun e w' ⟨h1, h2⟩ => ⟨by rw [h1, decide_eq_true hg], h2⟩)
          have hr : rd s.data.toList = some (b, val num, val den) := by rw [HR.out, if_pos hg]
          have HR2 := Lib.hid hr
          clear hr hg HI HR
          go_wp2_with (go_at_call 93; refine HI2.out.mono ?_; rintro e w7 ⟨rfl, hb7⟩
                       have CX7 := CX6.keep hb7 CX6.lt
                       have CB7 := CB6.keep hb7 CB6.lt
                       obtain ⟨a0, a1, a2, a3, f0, f1, f2, f3⟩ := CB7.four
                       obtain ⟨x0, x1, x2, x3, y0, y1, y2, y3⟩ := CX7.four)
          refine bodyPost_ret (v := .tuple #[.agg #[.bool b, .slice A (wds (val num)).length c, .bool false, .slice B (wds (val den)).length d], .bool true]) (by simp [results, Tryz.results87, go_sem, a0, a1, a2, a3]) rfl (fin_read HR2.out ?_ ?_)
          · exact below_far (below_far (below_far (below_far (hb6w.trans (hb7.mono hb6w.size)) (Nat.le_refl _) _ _) (Nat.le_refl _) _ _) (Nat.le_refl _) _ _) (Nat.le_refl _) _ _
          · exact ((((sA6.keep hb7).far ho _ _).far ho _ _).far ho _ _).far ho _ _
        · have HI2 : Hid (Calls Tryz.prog 93 #[.agg #[.bool false, .slice G (wds (Nat.gcd (val num) (val den))).length cg]] w6 fun e w' => e = .returned (.bool false) ∧ Below w6.heap.size w6 w') := Lib.hid (HI.out.mono fun e w' ⟨h1, h2⟩ => ⟨by rw [h1, decide_eq_false hg], h2⟩)
          have hr : rd s.data.toList = none := by rw [HR.out, if_neg hg]
          have HR2 := Lib.hid hr
          clear hr hg HI HR
          go_wp2_with (go_at_call 93; refine HI2.out.mono ?_; rintro e w7 ⟨rfl, hb7⟩
                       have CX7 := CX6.keep hb7 CX6.lt
                       have CB7 := CB6.keep hb7 CB6.lt
                       obtain ⟨a0, a1, a2, a3, f0, f1, f2, f3⟩ := CB7.four
                       obtain ⟨x0, x1, x2, x3, y0, y1, y2, y3⟩ := CX7.four)
          refine bodyPost_ret (v := .tuple #[.agg #[.bool false, .slice none 0 0, .bool false, .slice none 0 0], .bool false]) (by simp [results, Tryz.results87, go_sem, a0, a1, a2, a3]) rfl ⟨false, false, none, none, 0, 0, 0, 0, by rw [HR2.out]; rfl, ?_, ?_⟩
          · exact below_far (below_far (below_far (below_far (hb6w.trans (hb7.mono hb6w.size)) (Nat.le_refl _) _ _) (Nat.le_refl _) _ _) (Nat.le_refl _) _ _) (Nat.le_refl _) _ _
          · intro b p q h; rw [HR2.out] at h; cases h
end Go.Proofs.Tg
end
section
/- Walks: the degree of a monomial, the order of monomials. -/
namespace Go.Proofs.Tg
open Go.RowKit Go.Gr Go.Mo
set_option maxHeartbeats 1000000
set_option maxRecDepth 100000
theorem deg_any (A : Option Addr) (c : Nat) (m : List Int) (w : World) (hA : Ints w A m) (hn : m.length ≤ 1000) :
    Calls Tryz.prog 61 #[.slice A m.length c] w fun e w' => e = .returned (.int .i64 (degM m)) ∧ w = w' := by
  by_cases hl : m.length ≤ 6
  · have hd : decide ((6 : Int) < (m.length : Int)) = false := by simp; omega
    go_enter Tryz.func61, Tryz.ntmps61
    go_wp2
    go_loop [3, 11] (fun s i => ∃ k : Nat, k ≤ m.length ∧ i = .int .i64 k ∧ ∃ z : Int, s = .int .i64 z ∧ 0 ≤ z ∧ z ≤ 24 ∧ Hid (z = (m.take k).sum ∧ ∀ e ∈ m.take k, 0 ≤ e)) (fun _ i => m.length - (intOf i).toNat)
    case atStart => exact ⟨0, Nat.zero_le _, rfl, 0, rfl, by omega, by omega, Lib.hid ⟨rfl, by simp⟩⟩
    case round =>
      obtain ⟨k, hk, rfl, z, rfl, hz0, hz1, HZ⟩ := hrel
      by_cases hlt : k < m.length
      · obtain ⟨ad, rfl, hc⟩ := Ints.at hA hlt
        have HS : Hid ((m.take (k + 1)).sum = z + m[k]) := Lib.hid (by rw [sum_take_succ m k hlt, ← HZ.out.1])
        have HB : Hid (m[k] < 0 ∨ 24 - z < m[k] → vldM m = false) := Lib.hid (fun h => vldM_bad hlt (by rw [← HZ.out.1]; exact h))
        have HT : Hid (m.take (k + 1) = m.take k ++ [m[k]]) := Lib.hid (List.take_succ_eq_append_getElem hlt)
        clear hA
        generalize m[k] = x at hc HS HB HT
        by_cases h1 : x < 0
        · have b1 : decide (x < 0) = true := by simpa using h1
          have HF : Hid (degM m = -1) := Lib.hid (by unfold degM; rw [HB.out (.inl h1)]; rfl)
          go_wp2
          go_ret
          exact ⟨by rw [HF.out]; rfl, rfl⟩
        · have b1 : decide (x < 0) = false := by simpa using h1
          by_cases h2 : 24 - z < x
          · have b2 : decide (24 - z < x) = true := by simpa using h2
            have HF : Hid (degM m = -1) := Lib.hid (by unfold degM; rw [HB.out (.inr h2)]; rfl)
            go_wp2
            go_ret
            exact ⟨by rw [HF.out]; rfl, rfl⟩
          · have b2 : decide (24 - z < x) = false := by simpa using h2
            go_wp2
            go_round
            case rel =>
              refine ⟨k + 1, by omega, by go_num, z + x, rfl, by omega, by omega, Lib.hid ⟨HS.out.symm, fun e he => ?_⟩⟩
              rw [HT.out] at he
              rcases List.mem_append.1 he with he | he
              · exact HZ.out.2 e he
              · simp at he; omega
            case measure => simp [intOf]; omega
      · obtain rfl : k = m.length := by omega
        have HF : Hid (degM m = z) := Lib.hid (by
          have h := HZ.out
          rw [List.take_length] at h
          unfold degM
          rw [if_pos (vldM_iff.2 ⟨hl, h.2, by omega⟩), h.1])
        go_wp2
        go_ret
        exact ⟨by rw [HF.out]; rfl, rfl⟩
  · have hd : decide ((6 : Int) < (m.length : Int)) = true := by simp; omega
    have HF : Hid (degM m = -1) := Lib.hid (by
      unfold degM
      rw [if_neg (by rw [vldM_iff]; exact fun h => hl h.1)])
    go_enter Tryz.func61, Tryz.ntmps61
    go_wp2
    go_ret
    exact ⟨by rw [HF.out]; rfl, rfl⟩
theorem valid_any (A : Option Addr) (c : Nat) (m : List Int) (w : World) (hA : Ints w A m) (hn : m.length ≤ 1000) :
    Calls Tryz.prog 37 #[.slice A m.length c] w fun e w' => e = .returned (.bool (vldM m)) ∧ w = w' := by
  have HD : Hid (decide (0 ≤ degM m) = vldM m) := Lib.hid degM_ge
  have HC := Lib.hid (deg_any A c m w hA hn)
  generalize degM m = z at *
  go_enter Tryz.func37, Tryz.ntmps37
  go_wp2_with (go_at_call 61; refine HC.out.mono ?_; rintro e w' ⟨rfl, rfl⟩)
  go_ret
  exact ⟨by rw [← HD.out]; rfl, rfl⟩
theorem cmpI_ne {x y : Int} (h : ¬ x = y) : cmpI x y = if x < y then -1 else 1 := by
  unfold cmpI
  by_cases h1 : x < y
  · simp [h1]
  · rw [if_neg h1, if_pos (by omega), if_neg h1]
theorem order_any (A B : Option Addr) (c d : Nat) (a b : List Int) (w : World) (hA : Ints w A a) (hB : Ints w B b) (hl : a.length = b.length) (hn : a.length ≤ 64) (ha : low20 a = true) (hb : low20 b = true) :
    Calls Tryz.prog 84 #[.slice A a.length c, .slice B b.length d] w fun e w' => e = .returned (.int .i64 (Mo.ord a b)) ∧ Dr w w' := by
  have HL := Lib.hid hl
  have HA := Lib.hid (low20_iff.1 ha)
  have HB := Lib.hid (low20_iff.1 hb)
  have hn2 : b.length ≤ 64 := by omega
  clear hl ha hb
  go_enter Tryz.func84, Tryz.ntmps84
  go_wp2
  go_loop [5, 6, 12] (fun s t i => ∃ k : Nat, k ≤ a.length ∧ i = .int .i64 k ∧ ∃ y z : Int, s = .int .i64 y ∧ t = .int .i64 z ∧ 0 ≤ y ∧ y ≤ 1048576 * 64 ∧ 0 ≤ z ∧ z ≤ 1048576 * 64 ∧ Hid (y = (a.take k).sum ∧ z = (b.take k).sum)) (fun _ _ i => a.length - (intOf i).toNat)
  case atStart => exact ⟨0, Nat.zero_le _, rfl, 0, 0, rfl, rfl, by omega, by omega, by omega, by omega, Lib.hid ⟨rfl, rfl⟩⟩
  case round =>
    obtain ⟨k, hk, rfl, y, z, rfl, rfl, hy0, hy1, hz0, hz1, HZ⟩ := hrel
    by_cases hlt : k < a.length
    · have hlt2 : k < b.length := by have := HL.out; omega
      obtain ⟨ad, rfl, hc1⟩ := Ints.at hA hlt
      obtain ⟨bd, rfl, hc2⟩ := Ints.at hB hlt2
      have HS1 : Hid ((a.take (k + 1)).sum = y + a[k]) := Lib.hid (by rw [sum_take_succ a k hlt, ← HZ.out.1])
      have HS2 : Hid ((b.take (k + 1)).sum = z + b[k]) := Lib.hid (by rw [sum_take_succ b k hlt2, ← HZ.out.2])
      have hb1 := HA.out a[k] (List.getElem_mem _)
      have hb2 := HB.out b[k] (List.getElem_mem _)
      have hs1 := sum_bound a (k + 1) HA.out
      have hs2 := sum_bound b (k + 1) HB.out
      rw [HS1.out] at hs1
      rw [HS2.out] at hs2
      have hl1 : (a.take (k + 1)).length ≤ 64 := Nat.le_trans (List.length_take_le' _ _) hn
      have hl2 : (b.take (k + 1)).length ≤ 64 := Nat.le_trans (List.length_take_le' _ _) hn2
      obtain ⟨p1, p2⟩ := hb1
      obtain ⟨p3, p4⟩ := hb2
      have r1 : y + a[k] ≤ 1048576 * 64 := by omega
      have r2 : z + b[k] ≤ 1048576 * 64 := by omega
      clear hs1 hs2 hl1 hl2
      generalize a[k] = p at *
      generalize b[k] = q at *
      go_wp2
      go_round
      case rel => exact ⟨k + 1, by omega, by go_num, y + p, z + q, rfl, rfl, by omega, by omega, by omega, by omega, Lib.hid ⟨HS1.out.symm, HS2.out.symm⟩⟩
      case measure => simp [intOf]; omega
    · obtain rfl : k = a.length := by omega
      have h1 : y = a.sum := by rw [HZ.out.1, List.take_length]
      have h2 : z = b.sum := by rw [HZ.out.2, HL.out, List.take_length]
      by_cases hyz : y = z
      · have hbb : (y != z) = false := by simp [hyz]
        have HO : Hid (Mo.ord a b = ordT a b a.length) := Lib.hid (by unfold Mo.ord; rw [if_pos (by rw [← h1, ← h2]; exact hyz)])
        clear h1 h2 hyz
        go_wp2
        go_loopw [9] (fun i wr => ∃ z : Int, i = .int .i64 z ∧ -1 ≤ z ∧ z < a.length ∧ Hid (Mo.ord a b = ordT a b (z + 1).toNat) ∧ Dr w wr) (fun i _ => (intOf i + 1).toNat)
        case atStart => exact ⟨(a.length : Int) - 1, rfl, by omega, by omega, Lib.hid (by rw [HO.out]; congr 1; omega), Dr.refl _⟩
        case round =>
          obtain ⟨z', rfl, hz2, hz3, HZ', hdr⟩ := hrel
          by_cases hneg : z' = -1
          · subst hneg
            have HF : Hid (Mo.ord a b = 0) := Lib.hid (by rw [HZ'.out]; rfl)
            go_wp2
            go_ret
            exact ⟨by rw [HF.out]; rfl, hdr⟩
          · obtain ⟨j, rfl⟩ : ∃ j : Nat, z' = j := ⟨z'.toNat, by omega⟩
            have hlt1 : j < a.length := by omega
            have hlt2 : j < b.length := by have := HL.out; omega
            obtain ⟨ad, rfl, hc1⟩ := Ints.at (hA.keep hdr.below) hlt1
            obtain ⟨bd, rfl, hc2⟩ := Ints.at (hB.keep hdr.below) hlt2
            have HX : Hid (Mo.ord a b = if a[j] = b[j] then ordT a b j else if b[j] < a[j] then -1 else 1) := Lib.hid (by
              rw [HZ'.out, show ((j : Int) + 1).toNat = j + 1 by omega, ordT]
              simp [hlt1, hlt2])
            have q0 : (0 : Int) ≤ (j : Int) := by omega
            have q1 : (j : Int) < (a.length : Int) := by omega
            have q2 : (j : Int) < (b.length : Int) := by omega
            have q3 : ((j : Int)).toNat = j := by omega
            clear hneg hA hB
            generalize a[j] = p at *
            generalize b[j] = q at *
            by_cases hpq : p = q
            · have hb2 : (p != q) = false := by simp [hpq]
              have HX2 : Hid (Mo.ord a b = ordT a b j) := Lib.hid (by rw [HX.out, if_pos hpq])
              clear hpq HX
              go_wp2
              go_quiet (fail)
              go_wp2
              go_roundw
              case rel => exact ⟨(j : Int) - 1, rfl, by omega, by omega, Lib.hid (by rw [HX2.out]; congr 1; omega), hdr.drewN _⟩
              case measure => simp [intOf]
            · have hb2 : (p != q) = true := by simp [hpq]
              have HX2 : Hid (Mo.ord a b = cmpI q p) := Lib.hid (by rw [HX.out, if_neg hpq, cmpI_ne (fun e => hpq e.symm)])
              have HC := Lib.hid (fun W => cmp_any q p W)
              clear hpq HX
              go_wp2
              go_quiet (fail)
              go_wp2
              have k1 : (wr.drewN nq).cell? (ad.add j) = some (.int .i64 p) := hc1
              have k2 : (wr.drewN nq).cell? (bd.add j) = some (.int .i64 q) := hc2
              have hdr2 := hdr.drewN nq
              generalize wr.drewN nq = W at *
              go_quiet ((go_at_call 65; exact quiet_sm (HC.out _)))
              go_wp2
              go_ret
              exact ⟨by rw [HX2.out]; rfl, hdr2.drewN _⟩
      · have hbb : (y != z) = true := by simp [hyz]
        have HO : Hid (Mo.ord a b = cmpI y z) := Lib.hid (by rw [cmpI_ne hyz]; unfold Mo.ord; rw [if_neg (by rw [← h1, ← h2]; exact hyz), h1, h2])
        clear h1 h2 hyz
        go_wp2_with (go_at_call 65; refine (cmp_any y z _).mono ?_; rintro e w' ⟨rfl, rfl⟩)
        go_ret
        exact ⟨by rw [HO.out]; rfl, Dr.refl _⟩
end Go.Proofs.Tg
end
section
/- Walks: a term of a polynomial read. -/
namespace Go.Proofs.Tg
open Go.RowKit Go.Qn Go.Gr Go.Mo
set_option maxHeartbeats 4000000
set_option maxRecDepth 100000
theorem riszero_any (x y : Bool) (A B : Option Addr) (m n c d : Nat) (w : World) :
    Calls Tryz.prog 88 #[.agg #[.bool x, .slice A m c, .bool y, .slice B n d]] w fun e w' => e = .returned (.bool (decide (m = 0))) ∧ Below w.heap.size w w' := by
  go_enter Tryz.func88, Tryz.ntmps88
  go_wp2_with (go_at_call 94; refine (iszero_any x A m c _).mono ?_; rintro e w1 ⟨rfl, hb1⟩)
  go_ret
  exact ⟨rfl, (((Below.refl _ _).alloc (Nat.le_refl _) _).trans (hb1.mono (by simp)))⟩
/-- A term that a call has read. -/
def RetTerm (v : Int) (t : Term) (w : World) (e : Ending) (w' : World) : Prop :=
  ∃ (x0 x1 x2 x3 x4 x5 : Int) (x y : Bool) (A B : Option Addr) (m n c d : Nat), e = .returned (.tuple #[.agg #[.int .i64 x0, .int .i64 x1, .int .i64 x2, .int .i64 x3, .int .i64 x4, .int .i64 x5, .bool x, .slice A m c, .bool y, .slice B n d], .bool (termOk v t)]) ∧ Below w.heap.size w w'
def zent : Array Value := #[.int .i64 0, .int .i64 0, .int .i64 0, .int .i64 0, .int .i64 0, .int .i64 0, .bool false, .slice none 0 0, .bool false, .slice none 0 0]
theorem Blk.ten {w : World} {g : Nat} {t : TypeId} {a0 a1 a2 a3 a4 a5 a6 a7 a8 a9 : Value} (h : Blk w g t #[a0, a1, a2, a3, a4, a5, a6, a7, a8, a9]) :
    (w.cell? ⟨g, 0, none⟩ = some a0 ∧ w.cell? ⟨g, 1, none⟩ = some a1 ∧ w.cell? ⟨g, 2, none⟩ = some a2 ∧ w.cell? ⟨g, 3, none⟩ = some a3 ∧ w.cell? ⟨g, 4, none⟩ = some a4 ∧ w.cell? ⟨g, 5, none⟩ = some a5 ∧ w.cell? ⟨g, 6, none⟩ = some a6 ∧ w.cell? ⟨g, 7, none⟩ = some a7 ∧ w.cell? ⟨g, 8, none⟩ = some a8 ∧ w.cell? ⟨g, 9, none⟩ = some a9) ∧
    (w.frozen? ⟨g, 0, none⟩ = false ∧ w.frozen? ⟨g, 1, none⟩ = false ∧ w.frozen? ⟨g, 2, none⟩ = false ∧ w.frozen? ⟨g, 3, none⟩ = false ∧ w.frozen? ⟨g, 4, none⟩ = false ∧ w.frozen? ⟨g, 5, none⟩ = false ∧ w.frozen? ⟨g, 6, none⟩ = false ∧ w.frozen? ⟨g, 7, none⟩ = false ∧ w.frozen? ⟨g, 8, none⟩ = false ∧ w.frozen? ⟨g, 9, none⟩ = false) :=
  ⟨⟨h.cell 0, h.cell 1, h.cell 2, h.cell 3, h.cell 4, h.cell 5, h.cell 6, h.cell 7, h.cell 8, h.cell 9⟩, h.frozen 0, h.frozen 1, h.frozen 2, h.frozen 3, h.frozen 4, h.frozen 5, h.frozen 6, h.frozen 7, h.frozen 8, h.frozen 9⟩
theorem fin_term {v : Int} {t : Term} {w w' : World} {ok : Bool} {x0 x1 x2 x3 x4 x5 : Int} {x y : Bool} {A B : Option Addr} {m n c d : Nat} (hok : termOk v t = ok) (hb : Below w.heap.size w w') :
    RetTerm v t w (.returned (.tuple #[.agg #[.int .i64 x0, .int .i64 x1, .int .i64 x2, .int .i64 x3, .int .i64 x4, .int .i64 x5, .bool x, .slice A m c, .bool y, .slice B n d], .bool ok])) w' :=
  ⟨x0, x1, x2, x3, x4, x5, x, y, A, B, m, n, c, d, by rw [hok], hb⟩
theorem below_ten {w w' : World} {B g : Nat} (h : Below B w w') (hg : B ≤ g) (a0 a1 a2 a3 a4 a5 a6 a7 a8 a9 : Value) :
    Below B w ((((((((((w'.setCell ⟨g, 0, none⟩ a0).setCell ⟨g, 1, none⟩ a1).setCell ⟨g, 2, none⟩ a2).setCell ⟨g, 3, none⟩ a3).setCell ⟨g, 4, none⟩ a4).setCell ⟨g, 5, none⟩ a5).setCell ⟨g, 6, none⟩ a6).setCell ⟨g, 7, none⟩ a7).setCell ⟨g, 8, none⟩ a8).setCell ⟨g, 9, none⟩ a9) :=
  below_far (below_far (below_far (below_far (below_far (below_far (below_far (below_far (below_far (below_far h hg _ _) hg _ _) hg _ _) hg _ _) hg _ _) hg _ _) hg _ _) hg _ _) hg _ _) hg _ _
/-- What the reading of the coefficient gives. -/
theorem read_cases (s : ByteArray) : (coefOk s = false ∧ (rd s.data.toList = none ∨ ∃ b q, rd s.data.toList = some (b, 0, q))) ∨ (coefOk s = true ∧ ∃ b p q, rd s.data.toList = some (b, p, q) ∧ p ≠ 0) := by
  unfold coefOk
  cases h : rd s.data.toList with
  | none => exact .inl ⟨rfl, .inl rfl⟩
  | some q =>
    obtain ⟨b, p, q⟩ := q
    by_cases hp : p = 0
    · subst hp; exact .inl ⟨by simp, .inr ⟨b, q, rfl⟩⟩
    · exact .inr ⟨by simp [hp], b, p, q, rfl, hp⟩
def RetRL (s : ByteArray) (ok : Bool) (w : World) (e : Ending) (w' : World) : Prop :=
  ∃ x y X Y m n cx cy, e = Ending.returned (.tuple #[.agg #[.bool x, .slice X m cx, .bool y, .slice Y n cy], .bool ok]) ∧ Below w.heap.size w w' ∧ (ok = true → (decide (m = 0) = !coefOk s))
theorem read_lit (s : ByteArray) (w : World) (hs : s.size ≤ 19) (hT : Tab w) (ok : Bool) (hok : (rd s.data.toList).isSome = ok) : Calls Tryz.prog 87 #[.string s] w (RetRL s ok w) := by
  refine (read_any s w hs hT).mono fun e w' ⟨x, y, X, Y, m, n, cx, cy, h1, h2, h3⟩ => ⟨x, y, X, Y, m, n, cx, cy, by rw [h1, hok], h2, fun hk => ?_⟩
  rcases read_cases s with ⟨h, g2 | ⟨b, q, g2⟩⟩ | ⟨h, b, p, q, g2, g3⟩
  · rw [g2] at hok; rw [← hok] at hk; cases hk
  · rw [h, (h3 _ _ _ g2).2.1]; rfl
  · rw [h, (h3 _ _ _ g2).2.1, wds_pos g3]; rfl
theorem rterm_any (v : Int) (s : ByteArray) (A : Option Addr) (c : Nat) (el : List Int) (w : World) (hA : Ints w A el) (hs : s.size ≤ 19) (he : el.length ≤ 64) (hv0 : 0 ≤ v) (hv6 : v ≤ 6) (hT : Tab w) :
    Calls Tryz.prog 83 #[.int .i64 v, .agg #[.string s, .slice A el.length c]] w (RetTerm v (s, el) w) := by
  have hbA : Below w.heap.size w ((w.alloc (.cells #[.string s, .slice A el.length c] 58)).alloc (.cells #[.int .i64 0, .int .i64 0, .int .i64 0, .int .i64 0, .int .i64 0, .int .i64 0, .bool false, .slice none 0 0, .bool false, .slice none 0 0] 145)) :=
    ((Below.refl _ _).alloc (Nat.le_refl _) _).alloc (by simp) _
  have hcs := read_cases s
  obtain ⟨ok, hok⟩ : ∃ ok, (rd s.data.toList).isSome = ok := ⟨_, rfl⟩
  have HK : Hid ((ok = false ∧ coefOk s = false) ∨ (ok = true)) := Lib.hid (by
    rcases hcs with ⟨h, h2 | ⟨b, q, h2⟩⟩ | ⟨h, b, p, q, h2, h3⟩
    · exact .inl ⟨by rw [← hok, h2]; rfl, h⟩
    · exact .inr (by rw [← hok, h2]; rfl)
    · exact .inr (by rw [← hok, h2]; rfl))
  have HR := Lib.hid (read_lit s _ hs (hT.below hbA hT.1) ok hok)
  clear hcs hok
  go_enter Tryz.func83, Tryz.ntmps83
  go_upto_region 2 with (go_at_call 87; refine HR.out.mono ?_; rintro e w1 ⟨x, y, X, Y, m, n, cx, cy, rfl, hb1, hm⟩)
  have B3 : Blk w1 w.heap.size 58 #[.string s, .slice A el.length c] := ((Blk.new w 58 #[.string s, .slice A el.length c]).alloc _).keep hb1 (by simp; omega)
  have B4 : Blk w1 (w.heap.size + 1) 145 #[.int .i64 0, .int .i64 0, .int .i64 0, .int .i64 0, .int .i64 0, .int .i64 0, .bool false, .slice none 0 0, .bool false, .slice none 0 0] := by
    have := (Blk.new (w.alloc (.cells #[.string s, .slice A el.length c] 58)) 145 #[.int .i64 0, .int .i64 0, .int .i64 0, .int .i64 0, .int .i64 0, .int .i64 0, .bool false, .slice none 0 0, .bool false, .slice none 0 0]).keep hb1 (by simp)
    simpa using this
  have hbw : Below w.heap.size w w1 := hbA.trans (hb1.mono (by simp; omega))
  have hz1 : w.heap.size + 1 < w1.heap.size := B4.lt
  have hz0 : w.heap.size < w1.heap.size := B3.lt
  have HM := Lib.hid hm
  clear hb1 hbA hm
  by_cases hok : ok = false
  · subst hok
    have hF : Hid (termOk v (s, el) = false) := Lib.hid (by
      rcases HK.out with ⟨_, h⟩ | h
      · unfold termOk; rw [h]; rfl
      · cases h)
    obtain ⟨⟨a0, a1, a2, a3, a4, a5, a6, a7, a8, a9⟩, f0, f1, f2, f3, f4, f5, f6, f7, f8, f9⟩ := B4.ten
    go_wp2
    refine bodyPost_ret (v := .tuple #[.agg #[.int .i64 0, .int .i64 0, .int .i64 0, .int .i64 0, .int .i64 0, .int .i64 0, .bool false, .slice none 0 0, .bool false, .slice none 0 0], .bool false]) (by simp [results, Tryz.results83, go_sem, a0, a1, a2, a3, a4, a5, a6, a7, a8, a9, hz1]) rfl (fin_term hF.out ?_)
    exact (below_ten hbw (by omega) _ _ _ _ _ _ _ _ _ _).alloc (by simp; omega) _
  · obtain rfl : ok = true := by cases ok; exact absurd rfl hok; rfl
    have hm := HM.out rfl
    clear hok HK HM
    have HZ := Lib.hid (fun W => riszero_any x y X Y m n cx cy W)
    have hB3 := B3.alloc (.cells #[.bool x, .slice X m cx, .bool y, .slice Y n cy] 143)
    have hB4 := B4.alloc (.cells #[.bool x, .slice X m cx, .bool y, .slice Y n cy] 143)
    have hB6 := Blk.new w1 143 #[.bool x, .slice X m cx, .bool y, .slice Y n cy]
    have hbw1 := hbw.alloc hbw.size (.cells #[.bool x, .slice X m cx, .bool y, .slice Y n cy] 143)
    by_cases hco : coefOk s = false
    · have hm0 : decide (m = 0) = true := by rw [hm, hco]; rfl
      have hF : Hid (termOk v (s, el) = false) := Lib.hid (by unfold termOk; rw [hco]; rfl)
      have HZ2 : Hid (∀ W, Calls Tryz.prog 88 #[.agg #[.bool x, .slice X m cx, .bool y, .slice Y n cy]] W fun e w' => e = .returned (.bool true) ∧ Below W.heap.size W w') := Lib.hid (fun W => (HZ.out W).mono fun e w' ⟨h1, h2⟩ => ⟨by rw [h1, hm0], h2⟩)
      clear hm hm0 hco HZ
      go_wp2_with (go_at_call 88; refine (HZ2.out _).mono ?_; rintro e w2 ⟨rfl, hb2⟩
                   have C4 := hB4.keep hb2 (by simp; omega)
                   obtain ⟨⟨a0, a1, a2, a3, a4, a5, a6, a7, a8, a9⟩, f0, f1, f2, f3, f4, f5, f6, f7, f8, f9⟩ := C4.ten)
      refine bodyPost_ret (v := .tuple #[.agg #[.int .i64 0, .int .i64 0, .int .i64 0, .int .i64 0, .int .i64 0, .int .i64 0, .bool false, .slice none 0 0, .bool false, .slice none 0 0], .bool false]) (by simp [results, Tryz.results83, go_sem, a0, a1, a2, a3, a4, a5, a6, a7, a8, a9]) rfl (fin_term hF.out ?_)
      exact below_ten (hbw1.trans (hb2.mono hbw1.size)) (by omega) _ _ _ _ _ _ _ _ _ _
    · have hco : coefOk s = true := by cases h : coefOk s; exact absurd h hco; rfl
      have hm0 : decide (m = 0) = false := by rw [hm, hco]; rfl
      have HZ2 : Hid (∀ W, Calls Tryz.prog 88 #[.agg #[.bool x, .slice X m cx, .bool y, .slice Y n cy]] W fun e w' => e = .returned (.bool false) ∧ Below W.heap.size W w') := Lib.hid (fun W => (HZ.out W).mono fun e w' ⟨h1, h2⟩ => ⟨by rw [h1, hm0], h2⟩)
      have HCO := Lib.hid hco
      clear hm hm0 hco HZ
      by_cases hlv : (el.length : Int) = v
      · have hbl : ((el.length : Int) != v) = false := by simp [hlv]
        have HLV := Lib.hid hlv
        clear hlv
        go_upto_region 4 with (
          go_at_call 88; refine (HZ2.out _).mono ?_; rintro e w2 ⟨rfl, hb2⟩
          have C3 := hB3.keep hb2 (by simp; omega)
          obtain ⟨c0, c1, g0, g1⟩ := C3.two)
        have C4 := hB4.keep hb2 (by simp; omega)
        have C6 := hB6.keep hb2 (by simp)
        have hbw2 : Below w.heap.size w w2 := hbw1.trans (hb2.mono hbw1.size)
        have hA2 : Ints w2 A el := hA.keep hbw2
        have hz2 : w.heap.size + 1 < w2.heap.size := C4.lt
        have hz3 : w1.heap.size < w2.heap.size := C6.lt
        clear hb2 HZ2 hB3 hB4 hB6 hbw1 B3 B4 hbw
        go_wp2
        go_loop [34] (fun i => ∃ k : Nat, k ≤ el.length ∧ i = .int .i64 k ∧ Hid (∀ e ∈ el.take k, 0 ≤ e ∧ e ≤ 1048576)) (fun i => el.length - (intOf i).toNat)
        case atStart => exact ⟨0, Nat.zero_le _, rfl, Lib.hid (by simp)⟩
        case round =>
          obtain ⟨k, hk, rfl, HG⟩ := hrel
          by_cases hlt : k < el.length
          · obtain ⟨ad, rfl, hc⟩ := Ints.at hA2 hlt
            have HT0 : Hid (el.take (k + 1) = el.take k ++ [el[k]]) := Lib.hid (List.take_succ_eq_append_getElem hlt)
            have HM : Hid (el[k] ∈ el) := Lib.hid (List.getElem_mem _)
            clear hA2
            generalize el[k] = z at *
            by_cases hz : 0 ≤ z ∧ z ≤ 1048576
            · obtain ⟨z1, z2⟩ := hz
              have b1 : decide (z < 0) = false := by simp; omega
              have b2 : decide ((1048576 : Int) < z) = false := by simp; omega
              have HG2 : Hid (∀ e ∈ el.take (k + 1), 0 ≤ e ∧ e ≤ 1048576) := Lib.hid (by
                rw [HT0.out]
                intro e he'
                rcases List.mem_append.1 he' with h | h
                · exact HG.out e h
                · simp at h; omega)
              go_wp2
              go_round
              case rel => exact ⟨k + 1, by omega, by go_num, HG2⟩
              case measure => simp [intOf]; omega
            · have hF : Hid (termOk v (s, el) = false) := Lib.hid (by
                apply eq_false_of_ne_true
                rw [termOk_iff, low20_iff]
                exact fun h => hz (h.2.2 z HM.out))
              obtain ⟨⟨a0, a1, a2, a3, a4, a5, a6, a7, a8, a9⟩, f0, f1, f2, f3, f4, f5, f6, f7, f8, f9⟩ := C4.ten
              by_cases hz' : z < 0
              · have b1 : decide (z < 0) = true := by simpa using hz'
                clear hz
                go_wp2
                refine bodyPost_ret (v := .tuple #[.agg #[.int .i64 0, .int .i64 0, .int .i64 0, .int .i64 0, .int .i64 0, .int .i64 0, .bool false, .slice none 0 0, .bool false, .slice none 0 0], .bool false]) (by simp [results, Tryz.results83, go_sem, a0, a1, a2, a3, a4, a5, a6, a7, a8, a9]) rfl (fin_term hF.out ?_)
                exact below_ten hbw2 (by omega) _ _ _ _ _ _ _ _ _ _
              · have b1 : decide (z < 0) = false := by simpa using hz'
                have b2 : decide ((1048576 : Int) < z) = true := by simp; omega
                clear hz
                go_wp2
                refine bodyPost_ret (v := .tuple #[.agg #[.int .i64 0, .int .i64 0, .int .i64 0, .int .i64 0, .int .i64 0, .int .i64 0, .bool false, .slice none 0 0, .bool false, .slice none 0 0], .bool false]) (by simp [results, Tryz.results83, go_sem, a0, a1, a2, a3, a4, a5, a6, a7, a8, a9]) rfl (fin_term hF.out ?_)
                exact below_ten hbw2 (by omega) _ _ _ _ _ _ _ _ _ _
          · obtain rfl : k = el.length := by omega
            have hF : Hid (termOk v (s, el) = true) := Lib.hid (termOk_iff.2 ⟨HCO.out, HLV.out, low20_iff.2 (by have := HG.out; rwa [List.take_length] at this)⟩)
            have hl6 : el.length ≤ 6 := by have := HLV.out; omega
            obtain ⟨x0, x1, x2, x3, y0, y1, y2, y3⟩ := C6.four
            clear HG HCO HLV
            go_upto_region 12 with (fail)
            have D10 := Blk.new w2 145 #[.int .i64 0, .int .i64 0, .int .i64 0, .int .i64 0, .int .i64 0, .int .i64 0, .bool x, .slice X m cx, .bool y, .slice Y n cy]
            have D3 := C3.alloc (.cells #[.int .i64 0, .int .i64 0, .int .i64 0, .int .i64 0, .int .i64 0, .int .i64 0, .bool x, .slice X m cx, .bool y, .slice Y n cy] 145)
            have D4 := C4.alloc (.cells #[.int .i64 0, .int .i64 0, .int .i64 0, .int .i64 0, .int .i64 0, .int .i64 0, .bool x, .slice X m cx, .bool y, .slice Y n cy] 145)
            have hAW := Sl.alloc hA2 (.cells #[.int .i64 0, .int .i64 0, .int .i64 0, .int .i64 0, .int .i64 0, .int .i64 0, .bool x, .slice X m cx, .bool y, .slice Y n cy] 145)
            have hbW := hbw2.alloc hbw2.size (.cells #[.int .i64 0, .int .i64 0, .int .i64 0, .int .i64 0, .int .i64 0, .int .i64 0, .bool x, .slice X m cx, .bool y, .slice Y n cy] 145)
            generalize w2.alloc (.cells #[.int .i64 0, .int .i64 0, .int .i64 0, .int .i64 0, .int .i64 0, .int .i64 0, .bool x, .slice X m cx, .bool y, .slice Y n cy] 145) = W at *
            clear c0 c1 g0 g1 x0 x1 x2 x3 y0 y1 y2 y3
            obtain ⟨c0, c1, g0, g1⟩ := D3.two
            go_still_tail 4, (by kernel_rfl)
            change wpList _ _ _ _ _ W.drew
            refine wpList_copy6 rfl (.tmp 49) (.tmp 51) rfl w2.heap.size 145 A c el [.bool x, .slice X m cx, .bool y, .slice Y n cy] rfl rfl (hAW.drewN 1) hl6 D10 ?_
            intro W' E10 hbut
            have E4 := hbut.blk _ _ _ (by omega) (show Blk W.drew (w.heap.size + 1) _ _ from D4)
            have hbW' := hbut.below _ _ hbW.drew (by omega)
            have hzW : w.heap.size + 1 < W'.heap.size := E4.lt
            obtain ⟨⟨a0, a1, a2, a3, a4, a5, a6, a7, a8, a9⟩, f0, f1, f2, f3, f4, f5, f6, f7, f8, f9⟩ := E4.ten
            obtain ⟨⟨j0, j1, j2, j3, j4, j5, j6, j7, j8, j9⟩, k0, k1, k2, k3, k4, k5, k6, k7, k8, k9⟩ := Blk.ten E10
            clear D10 D3 D4 hAW c0 c1 g0 g1
            generalize el.getD 0 0 = v0 at *
            generalize el.getD 1 0 = v1 at *
            generalize el.getD 2 0 = v2 at *
            generalize el.getD 3 0 = v3 at *
            generalize el.getD 4 0 = v4 at *
            generalize el.getD 5 0 = v5 at *
            go_wp2
            refine bodyPost_ret (v := .tuple #[.agg #[.int .i64 v0, .int .i64 v1, .int .i64 v2, .int .i64 v3, .int .i64 v4, .int .i64 v5, .bool x, .slice X m cx, .bool y, .slice Y n cy], .bool true]) (by simp [results, Tryz.results83, go_sem, a0, a1, a2, a3, a4, a5, a6, a7, a8, a9]) rfl (fin_term hF.out ?_)
            exact below_ten hbW' (by omega) _ _ _ _ _ _ _ _ _ _
      · have hbl : ((el.length : Int) != v) = true := by simp [hlv]
        have hF : Hid (termOk v (s, el) = false) := Lib.hid (by unfold termOk; rw [decide_eq_false hlv]; simp)
        clear hlv
        go_wp2_with (go_at_call 88; refine (HZ2.out _).mono ?_; rintro e w2 ⟨rfl, hb2⟩
                     have C4 := hB4.keep hb2 (by simp; omega)
                     have C3 := hB3.keep hb2 (by simp; omega)
                     obtain ⟨c0, c1, g0, g1⟩ := C3.two
                     obtain ⟨⟨a0, a1, a2, a3, a4, a5, a6, a7, a8, a9⟩, f0, f1, f2, f3, f4, f5, f6, f7, f8, f9⟩ := C4.ten)
        refine bodyPost_ret (v := .tuple #[.agg #[.int .i64 0, .int .i64 0, .int .i64 0, .int .i64 0, .int .i64 0, .int .i64 0, .bool false, .slice none 0 0, .bool false, .slice none 0 0], .bool false]) (by simp [results, Tryz.results83, go_sem, a0, a1, a2, a3, a4, a5, a6, a7, a8, a9]) rfl (fin_term hF.out ?_)
        exact below_ten (hbw1.trans (hb2.mono hbw1.size)) (by omega) _ _ _ _ _ _ _ _ _ _
end Go.Proofs.Tg
end
section
/- Walks: a polynomial read. -/
namespace Go.Proofs.Tg
open Go.RowKit Go.Qn Go.Gr Go.Mo
set_option maxHeartbeats 4000000
set_option maxRecDepth 100000
theorem entry_info : (Tryz.prog.info? 145).map (fun i => (i.zero, i.size, i.bytes)) = some (some (.agg #[.int .i64 0, .int .i64 0, .int .i64 0, .int .i64 0, .int .i64 0, .int .i64 0, .bool false, .slice none 0 0, .bool false, .slice none 0 0]), 10, 112) := by kernel_rfl
theorem cells_new (w : World) (t : TypeId) (xs : List Value) : ∀ j u, xs[j]? = some u → (w.alloc (.cells xs.toArray t)).cell? ((⟨w.heap.size, 0, none⟩ : Addr).add j) = some u := by
  intro j u hu
  rw [add_lit, Nat.zero_add, Blk.cell (Blk.new w t xs.toArray) j]
  simpa using hu
/-- What a polynomial's reading returns: something, and whether it is well formed. -/
def RetPB (ok : Bool) (w : World) (e : Ending) (w' : World) : Prop := ∃ R rn rc, e = .returned (.tuple #[.slice R rn rc, .bool ok]) ∧ Below w.heap.size w w'
theorem rwf_any (v : Int) (T : Option Addr) (cT : Nat) (tv : List TV) (ok : Bool) (w : World) (hA : TermsAt w T tv) (hn : tv.length ≤ 4096) (hs : ∀ t ∈ tv, t.coef.size ≤ 19 ∧ t.exps.length ≤ 64) (hok : ok = true ↔ wfP v (tv.map TV.pl)) (hT : Tab w) :
    Calls Tryz.prog 75 #[.agg #[.int .i64 v, .slice T tv.length cT]] w (RetPB ok w) := by
  have HS := Lib.hid hs
  have HOK := Lib.hid hok
  clear hs hok
  obtain ⟨i0, hi, hz0, hz1, hz2⟩ := info_parts entry_info
  by_cases hv : 0 ≤ v ∧ v ≤ 6
  · obtain ⟨hv0, hv6⟩ := hv
    have b1 : decide (v < 0) = false := by simp; omega
    have b2 : decide ((6 : Int) < v) = false := by simp; omega
    have hbA : Below w.heap.size w (w.alloc (.cells #[.int .i64 v, .slice T tv.length cT] 24)) := (Below.refl _ _).alloc (Nat.le_refl _) _
    obtain ⟨wm, hrun, hown, hgrow⟩ := run_make_own (P := Tryz.prog) (w.alloc (.cells #[.int .i64 v, .slice T tv.length cT] 24)) (w.heap.size + 1) 118 145 i0 _ 10 Tryz.underlying118 hi hz0 hz1 .i64 .i64 tv.length (by rw [hz2]; omega) (by simp only [maxLen]; omega) (by simp)
    have B1 : Blk wm w.heap.size 24 #[.int .i64 v, .slice T tv.length cT] := (Blk.new w _ _).grown hgrow (by simp)
    have hbm : Below w.heap.size w wm := hbA.grown hgrow (by simp) (fun k hk => by cases hk)
    obtain ⟨q0, q1, q2, q3⟩ := B1.two
    have esz : (w.alloc (.cells #[.int .i64 v, .slice T tv.length cT] 24)).heap.size = w.heap.size + 1 := by simp
    rw [esz] at hrun hown
    clear esz
    go_enter Tryz.func75, Tryz.ntmps75
    go_wp2
    go_loopw [4, 24] (fun tm i wr => ∃ (k : Nat) (xs : List Value), i = .int .i64 k ∧ k ≤ tv.length ∧ wr.ownsRow (w.heap.size + 1) 145 10 tm k xs ∧ Blk wr w.heap.size 24 #[.int .i64 v, .slice T tv.length cT] ∧ Below w.heap.size w wr ∧ Hid (wfTo v (tv.map TV.pl) k)) (fun _ i _ => tv.length - (intOf i).toNat)
    case atStart => exact ⟨0, [], rfl, Nat.zero_le _, hown, B1, hbm, Lib.hid (wfTo_zero _ _)⟩
    case round =>
      clear hrun hown hgrow B1 hbm q0 q1 q2 q3 hbA
      obtain ⟨wo, rfl⟩ : ∃ wo : World, wo = wr := ⟨_, rfl⟩
      obtain ⟨k, xs, rfl, hk, hown, B1, hb, HW⟩ := hrel
      have hzo : w.heap.size < wo.heap.size := B1.lt
      by_cases hlt : k < tv.length
      · obtain ⟨ad, rfl, e0, e1, hI⟩ := (hA.keep hb).at hlt
        have hsz := HS.out tv[k] (List.getElem_mem _)
        have HPL : Hid ((tv.map TV.pl)[k]'(by simpa using hlt) = (tv[k].coef, tv[k].exps)) := Lib.hid (by simp [TV.pl])
        have hprev : 0 < k → ∃ A0 c0 el0, (∀ W, Below w.heap.size w W → W.cell? ⟨(ad.add ((k - 1) * 2)).block, (ad.add ((k - 1) * 2)).off + 1, none⟩ = some (.slice A0 (List.length el0) c0) ∧ Ints W A0 el0) ∧ ((tv.map TV.pl).getD (k - 1) default).2 = el0 ∧ low20 el0 = true ∧ (el0.length : Int) = v := by
          intro h0
          have hk1 : k - 1 < tv.length := by omega
          refine ⟨tv[k - 1].adr, tv[k - 1].cap, tv[k - 1].exps, fun W hW => ?_, by simp [hk1, TV.pl], ?_⟩
          · obtain ⟨ad', e', _, h2, h3⟩ := (hA.keep hW).at hk1
            injection e' with e'
            subst e'
            exact ⟨h2, h3⟩
          · have := (HW.out (k - 1) (by omega) (by simp; omega)).1
            rw [List.getElem_map, termOk_iff] at this
            exact ⟨this.2.2, this.2.1⟩
        have HPV := Lib.hid hprev
        clear hprev
        generalize tv[k] = t at *
        obtain ⟨s, Ae, ce, el⟩ := t
        simp only at e0 e1 hI hsz HPL
        have hadl : ad.block < wo.heap.size := by have := World.block_lt_of_cell? wo _ e0; rwa [add_block] at this
        obtain ⟨q0, q1, q2, q3⟩ := B1.two
        have hIa := Sl.alloc hI (.cells #[.string s, .slice Ae el.length ce] 58)
        have hba := hb.alloc hb.size (.cells #[.string s, .slice Ae el.length ce] 58)
        have HRT := Lib.hid (rterm_any v s Ae ce el _ hIa hsz.1 hsz.2 hv0 hv6 (hT.below hba hT.1))
        go_upto_region 8 with (go_at_call 83; refine HRT.out.mono ?_; rintro e w2 ⟨x0, x1, x2, x3, x4, x5, x, y, X, Y, m, n, cx, cy, rfl, hb2⟩)
        have hb2w : Below w.heap.size w w2 := hba.trans (hb2.mono hba.size)
        have C1 := ((B1.alloc (.cells #[.string s, .slice Ae el.length ce] 58)).keep hb2 (by simp; omega)).alloc (.cells #[.int .i64 x0, .int .i64 x1, .int .i64 x2, .int .i64 x3, .int .i64 x4, .int .i64 x5, .bool x, .slice X m cx, .bool y, .slice Y n cy] 145)
        have C6 := ((Blk.new wo 58 #[.string s, .slice Ae el.length ce]).keep hb2 (by simp)).alloc (.cells #[.int .i64 x0, .int .i64 x1, .int .i64 x2, .int .i64 x3, .int .i64 x4, .int .i64 x5, .bool x, .slice X m cx, .bool y, .slice Y n cy] 145)
        have C7 := Blk.new w2 145 #[.int .i64 x0, .int .i64 x1, .int .i64 x2, .int .i64 x3, .int .i64 x4, .int .i64 x5, .bool x, .slice X m cx, .bool y, .slice Y n cy]
        have hownW := (own_below (hown.alloc _) hb2 (Nat.le_refl _)).alloc (.cells #[.int .i64 x0, .int .i64 x1, .int .i64 x2, .int .i64 x3, .int .i64 x4, .int .i64 x5, .bool x, .slice X m cx, .bool y, .slice Y n cy] 145)
        have hbW := hb2w.alloc hb2w.size (.cells #[.int .i64 x0, .int .i64 x1, .int .i64 x2, .int .i64 x3, .int .i64 x4, .int .i64 x5, .bool x, .slice X m cx, .bool y, .slice Y n cy] 145)
        have hIW := Sl.alloc (Sl.keep hIa hb2) (.cells #[.int .i64 x0, .int .i64 x1, .int .i64 x2, .int .i64 x3, .int .i64 x4, .int .i64 x5, .bool x, .slice X m cx, .bool y, .slice Y n cy] 145)
        generalize w2.alloc (.cells #[.int .i64 x0, .int .i64 x1, .int .i64 x2, .int .i64 x3, .int .i64 x4, .int .i64 x5, .bool x, .slice X m cx, .bool y, .slice Y n cy] 145) = W at *
        clear q0 q1 q2 q3 hb2 hba hb2w HRT hIa e0 e1 hI B1 hown hb
        obtain ⟨q0, q1, q2, q3⟩ := C1.two
        obtain ⟨r0, r1, r2, r3⟩ := C6.two
        obtain ⟨tk, htk⟩ : ∃ tk, termOk v (s, el) = tk := ⟨_, rfl⟩
        have HTK := Lib.hid htk
        obtain ⟨bad, hbad⟩ : ∃ bad : Bool, bad = true ↔ ¬ (tk = true ∧ (0 < k → 0 < Mo.ord ((tv.map TV.pl).getD (k - 1) default).2 el)) := ⟨decide (¬ (tk = true ∧ (0 < k → 0 < Mo.ord ((tv.map TV.pl).getD (k - 1) default).2 el))), decide_eq_true_iff⟩
        have HBAD := Lib.hid hbad
        rw [htk]
        clear htk hbad
        go_cut [54] (fun s54 wx => s54 = .bool bad ∧ Dr W wx)
        case first =>
          cases tk with
          | false =>
            obtain rfl : bad = true := HBAD.out.2 (fun h => by cases h.1)
            go_quiet (fail)
            go_wp2_with fail
            go_meet
            exact ⟨rfl, ⟨_, rfl⟩⟩
          | true =>
            by_cases hk0 : k = 0
            · subst hk0
              obtain rfl : bad = false := by
                apply eq_false_of_ne_true
                rw [HBAD.out]
                exact fun h => h ⟨rfl, fun h => absurd h (by omega)⟩
              have hd0 : decide ((0 : Int) < ((0 : Nat) : Int)) = false := by decide
              go_quiet (fail)
              go_wp2_with fail
              go_meet
              exact ⟨rfl, ⟨_, rfl⟩⟩
            · obtain ⟨A0, c0, el0, hp, hpe, hlow, hlen⟩ := HPV.out (by omega)
              obtain ⟨p1, p2⟩ := hp W hbW
              have htt := termOk_iff.1 HTK.out
              have hdk : decide ((0 : Int) < (k : Int)) = true := by simp; omega
              have hdk' : decide (0 < k) = true := by simp; omega
              have HO : Hid (∀ W', Dr W W' → Calls Tryz.prog 84 #[.slice A0 el0.length c0, .slice Ae el.length ce] W' fun e w' => e = .returned (.int .i64 (Mo.ord el0 el)) ∧ ∃ m, w' = W'.drewN m) := Lib.hid (fun W' hd => order_any A0 Ae c0 ce el0 el W' (p2.keep hd.below) (hIW.keep hd.below) (by have := htt.2.1; simp only at this; omega) (by have := htt.2.1; omega) hlow htt.2.2)
              have hbad2 : bad = decide (Mo.ord el0 el ≤ 0) := by
                have h1 := HBAD.out
                rw [hpe] at h1
                by_cases ho : Mo.ord el0 el ≤ 0
                · rw [decide_eq_true ho]
                  exact h1.2 (fun h => by have := h.2 (by omega); omega)
                · rw [decide_eq_false ho]
                  apply eq_false_of_ne_true
                  rw [h1]
                  exact fun h => h ⟨rfl, fun _ => by omega⟩
              subst hbad2
              have i1 : (0 : Int) ≤ (k : Int) - 1 := by omega
              have i2 : (k : Int) - 1 < (tv.length : Int) := by omega
              have i3 : ((k : Int) - 1).toNat = k - 1 := by omega
              have i4 : IntKind.i64.wrap ((k : Int) - 1) = (k : Int) - 1 := IntWalk.i64_in _ (by omega)
              clear HBAD htt hpe hlow hlen hp
              generalize Mo.ord el0 el = oz at *
              go_quiet ((go_at_call 84; exact Calls.quiet_of (HO.out _ ⟨_, rfl⟩)))
              go_wp2_with fail
              go_meet
              exact ⟨rfl, ⟨_, rfl⟩⟩
        case rest =>
          obtain ⟨rfl, hdr⟩ := hcut
          have D1 := C1.keep hdr.below C1.lt
          have D7 := C7.keep hdr.below C7.lt
          have hownD := own_below hownW hdr.below (Nat.le_refl _)
          have hbD := below_all hbW hdr.below
          clear q0 q1 q2 q3 r0 r1 r2 r3 C1 C6 C7 hownW hbW hIW hdr HPV
          cases bad with
          | true =>
            obtain rfl : ok = false := by
              apply eq_false_of_ne_true
              rw [HOK.out]
              intro h
              refine HBAD.out.1 rfl ?_
              have := h.2.2 k (by simpa using hlt) (by simpa using hlt)
              rw [HPL.out] at this
              exact ⟨HTK.out.symm.trans this.1, this.2⟩
            go_wp2
            go_ret2
            exact ⟨none, 0, 0, rfl, hbD⟩
          | false =>
            have hgood : tk = true ∧ (0 < k → 0 < Mo.ord ((tv.map TV.pl).getD (k - 1) default).2 el) := by
              apply Classical.byContradiction
              intro h
              have := HBAD.out.2 h
              cases this
            have HW2 : Hid (wfTo v (tv.map TV.pl) (k + 1)) := Lib.hid (wfTo_succ HW.out (by simpa using hlt) (by rw [HPL.out, HTK.out]; exact hgood.1) (by rw [HPL.out]; exact hgood.2))
            clear hgood HBAD
            obtain ⟨⟨j0, j1, j2, j3, j4, j5, j6, j7, j8, j9⟩, k0, k1, k2, k3, k4, k5, k6, k7, k8, k9⟩ := D7.ten
            have HNW := Lib.hid (cells_new wc 145 [.int .i64 x0, .int .i64 x1, .int .i64 x2, .int .i64 x3, .int .i64 x4, .int .i64 x5, .bool x, .slice X m cx, .bool y, .slice Y n cy])
            go_wp2_with (at_builtin; refine wpList_append_own _ rfl _ _ 118 rfl (w.heap.size + 1) 145 i0 _ 10 112 Tryz.underlying118 hi hz0 hz1 hz2 rfl (by decide) u4 k xs rfl (hownD.alloc _) ⟨wc.heap.size, 0, none⟩ 1 1 [.int .i64 x0, .int .i64 x1, .int .i64 x2, .int .i64 x3, .int .i64 x4, .int .i64 x5, .bool x, .slice X m cx, .bool y, .slice Y n cy] rfl rfl HNW.out ?c2 ?c3 ?c4 ?c5 ?_
                         case c2 => simp [Value.oneCell']
                         case c3 => simp only [maxLen]; omega
                         case c4 => omega
                         case c5 => have := D1.lt; simp; omega
                         intro v' w3 hown' hgrow _)
            go_roundw
            case rel =>
              refine ⟨k + 1, _, by go_num, by omega, hown', ?_, ?_, HW2⟩
              · exact (D1.alloc _).grown hgrow (own_blk_ne hownD D1 (by decide))
              · exact (hbD.alloc hbD.size _).grown hgrow (by have := hbD.size; simp; omega) (fun j hj => by have := (hownD.lt j hj).1; omega)
            case measure => simp [intOf]; omega
      · obtain rfl : k = tv.length := by omega
        obtain rfl : ok = true := HOK.out.2 ⟨hv0, hv6, by rw [List.length_map]; exact HW.out⟩
        go_wp2
        go_ret2
        obtain ⟨R, rc, hR, _, _⟩ := Sl.of_own hown
        exact ⟨R, tv.length, rc, by rw [← hR]; rfl, hb⟩
  · have HF : Hid (ok = false) := Lib.hid (by
      apply eq_false_of_ne_true
      rw [HOK.out]
      exact fun h => hv ⟨h.1, h.2.1⟩)
    obtain rfl := HF.out
    by_cases hv0 : v < 0
    · have b1 : decide (v < 0) = true := by simpa using hv0
      go_enter Tryz.func75, Tryz.ntmps75
      go_wp2
      go_ret2
      exact ⟨none, 0, 0, rfl, (Below.refl _ _).alloc (Nat.le_refl _) _⟩
    · have b1 : decide (v < 0) = false := by simpa using hv0
      have b2 : decide ((6 : Int) < v) = true := by simp; omega
      go_enter Tryz.func75, Tryz.ntmps75
      go_wp2
      go_ret2
      exact ⟨none, 0, 0, rfl, (Below.refl _ _).alloc (Nat.le_refl _) _⟩
theorem pread_any (v : Int) (T : Option Addr) (cT : Nat) (tv : List TV) (ok : Bool) (w : World) (hA : TermsAt w T tv) (hn : tv.length ≤ 4096) (hs : ∀ t ∈ tv, t.coef.size ≤ 19 ∧ t.exps.length ≤ 64) (hok : ok = true ↔ VldP v (tv.map TV.pl)) (hT : Tab w) :
    Calls Tryz.prog 60 #[.agg #[.int .i64 v, .slice T tv.length cT]] w (RetPB ok w) := by
  have hbA : Below w.heap.size w (w.alloc (.cells #[.int .i64 v, .slice T tv.length cT] 24)) := (Below.refl _ _).alloc (Nat.le_refl _) _
  have d0 : decide ((4096 : Int) < (tv.length : Int)) = false := by simp; omega
  obtain ⟨wf, hwf⟩ : ∃ wf : Bool, wf = true ↔ wfP v (tv.map TV.pl) := by
    by_cases h : wfP v (tv.map TV.pl)
    · exact ⟨true, iff_of_true rfl h⟩
    · exact ⟨false, iff_of_false (by decide) h⟩
  have HWF := Lib.hid (rwf_any v T cT tv wf _ (hA.keep hbA) hn hs hwf (hT.below hbA hT.1))
  have HW := Lib.hid hwf
  have HOK := Lib.hid hok
  clear hwf hok
  cases wf with
  | false =>
    obtain rfl : ok = false := by
      apply eq_false_of_ne_true
      rw [HOK.out]
      intro h
      have := HW.out.2 h.2.1
      cases this
    go_enter Tryz.func60, Tryz.ntmps60
    go_wp2_with (go_at_call 75; refine HWF.out.mono ?_; rintro e w1 ⟨R, rn, rc, rfl, hb1⟩)
    go_ret2
    exact ⟨none, 0, 0, rfl, hbA.trans (hb1.mono (by simp))⟩
  | true =>
    by_cases h0 : 0 < tv.length
    · obtain ⟨vm, hvm⟩ : ∃ vm, vldM tv[0].exps = vm := ⟨_, rfl⟩
      obtain rfl : ok = vm := by
        have h1 := HOK.out
        have h2 := HW.out.1 rfl
        rw [Bool.eq_iff_iff, h1, ← hvm]
        constructor
        · intro h
          have := h.2.2 (by simpa using h0)
          simpa [TV.pl] using this
        · intro h
          refine ⟨by simpa using hn, h2, fun _ => ?_⟩
          simpa [TV.pl] using h
      have hl := (hs tv[0] (List.getElem_mem _)).2
      obtain ⟨ad, rfl, _, e1, hI⟩ := hA.at h0
      have HV : Hid (∀ W, Below w.heap.size w W → Calls Tryz.prog 37 #[.slice tv[0].adr tv[0].exps.length tv[0].cap] W fun e w' => e = .returned (.bool ok) ∧ W = w') := Lib.hid (fun W hW => by
        rw [← hvm]; exact valid_any _ _ _ W (hI.keep hW) (by omega))
      have e1 : w.cell? ⟨ad.block, ad.off + 1, none⟩ = some (.slice tv[0].adr tv[0].exps.length tv[0].cap) := by simpa [Addr.add] using e1
      have d1 : decide ((0 : Int) < (tv.length : Int)) = true := by simp; omega
      have d1' : decide (0 < tv.length) = true := by simp; omega
      clear hvm hI hA HW HOK
      generalize tv[0] = t0 at *
      obtain ⟨s0, A0, c0, el0⟩ := t0
      simp only at e1 HV
      cases ok
      all_goals
        go_enter Tryz.func60, Tryz.ntmps60
        go_wp2_with (first
          | (go_at_call 75; refine HWF.out.mono ?_; rintro e w1 ⟨R, rn, rc, rfl, hb1⟩
             have hbw : Below w.heap.size w w1 := hbA.trans (hb1.mono (by simp))
             have k0 := keep_cell hb1 (Blk.cell (Blk.new w 24 #[.int .i64 v, .slice (some ad) tv.length cT]) 0)
             have k1 := keep_cell hb1 (Blk.cell (Blk.new w 24 #[.int .i64 v, .slice (some ad) tv.length cT]) 1)
             have k2 := keep_cell hbw e1
             simp at k0 k1)
          | (go_at_call 37; refine (HV.out _ hbw).mono ?_; rintro e w' ⟨rfl, rfl⟩))
        go_ret2
        first
          | exact ⟨R, rn, rc, rfl, hbw⟩
          | exact ⟨none, 0, 0, rfl, hbw⟩
    · obtain rfl : tv = [] := List.eq_nil_of_length_eq_zero (by omega)
      obtain rfl : ok = true := HOK.out.2 ⟨by simp, HW.out.1 rfl, fun h => absurd h (by simp)⟩
      go_enter Tryz.func60, Tryz.ntmps60
      go_wp2_with (go_at_call 75; refine HWF.out.mono ?_; rintro e w1 ⟨R, rn, rc, rfl, hb1⟩
                   have k0 := keep_cell hb1 (Blk.cell (Blk.new w 24 #[.int .i64 v, .slice T (List.length ([] : List TV)) cT]) 0)
                   have k1 := keep_cell hb1 (Blk.cell (Blk.new w 24 #[.int .i64 v, .slice T (List.length ([] : List TV)) cT]) 1)
                   simp at k0 k1)
      go_ret2
      exact ⟨R, rn, rc, rfl, hbA.trans (hb1.mono (by simp))⟩
theorem pvalid_any (v : Int) (T : Option Addr) (cT : Nat) (tv : List TV) (ok : Bool) (w : World) (hA : TermsAt w T tv) (hn : tv.length ≤ 4096) (hs : ∀ t ∈ tv, t.coef.size ≤ 19 ∧ t.exps.length ≤ 64) (hok : ok = true ↔ VldP v (tv.map TV.pl)) (hT : Tab w) :
    Calls Tryz.prog 36 #[.agg #[.int .i64 v, .slice T tv.length cT]] w fun e w' => e = .returned (.bool ok) ∧ Below w.heap.size w w' := by
  have hbA : Below w.heap.size w (w.alloc (.cells #[.int .i64 v, .slice T tv.length cT] 24)) := (Below.refl _ _).alloc (Nat.le_refl _) _
  have HR := Lib.hid (pread_any v T cT tv ok _ (hA.keep hbA) hn hs hok (hT.below hbA hT.1))
  go_enter Tryz.func36, Tryz.ntmps36
  go_wp2_with (go_at_call 60; refine HR.out.mono ?_; rintro e w1 ⟨R, rn, rc, rfl, hb1⟩)
  go_ret
  exact ⟨rfl, hbA.trans (hb1.mono (by simp))⟩
end Go.Proofs.Tg
end
