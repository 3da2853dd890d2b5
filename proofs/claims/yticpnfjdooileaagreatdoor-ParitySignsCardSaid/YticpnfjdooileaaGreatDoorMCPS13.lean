/- Parts of the proof: WP1. -/
import Derived.StillTailTactics
import Derived.Test.YticpnfjdooileaaGreatDoorMCPS5
import Derived.Test.YticpnfjdooileaaGreatDoorMCPS12
section
/- Walks: a term of a polynomial read. -/
namespace Go.Proofs.Tg
open Go.RowKit Go.Qn Go.Gr Go.Mo
set_option maxHeartbeats 4000000
set_option maxRecDepth 100000
theorem riszero_any (x y : Bool) (A B : Option Addr) (m n c d : Nat) (w : World) :
    Calls Tryz.prog 84 #[.agg #[.bool x, .slice A m c, .bool y, .slice B n d]] w fun e w' => e = .returned (.bool (decide (m = 0))) ∧ Below w.heap.size w w' := by
  go_enter Tryz.func84, Tryz.ntmps84
  go_wp2_with (go_at_call 105; refine (iszero_any x A m c _).mono ?_; rintro e w1 ⟨rfl, hb1⟩)
  go_ret
  exact ⟨rfl, (((Below.refl _ _).alloc (Nat.le_refl _) _).trans (hb1.mono (by simp)))⟩
/-- A term that a call has read. -/
def RetTerm (v : Int) (t : Term) (w : World) (e : Ending) (w' : World) : Prop :=
  ∃ (x0 x1 x2 x3 x4 x5 : Int) (x y : Bool) (A B : Option Addr) (m n c d : Nat), e = .returned (.tuple #[.agg #[.int .i64 x0, .int .i64 x1, .int .i64 x2, .int .i64 x3, .int .i64 x4, .int .i64 x5, .bool x, .slice A m c, .bool y, .slice B n d], .bool (termOk v t)]) ∧ Below w.heap.size w w'
def zent : Array Value := #[.int .i64 0, .int .i64 0, .int .i64 0, .int .i64 0, .int .i64 0, .int .i64 0, .bool false, .slice none 0 0, .bool false, .slice none 0 0]
theorem Blk.ten {w : World} {g : Nat} {t : TypeId} {a0 a1 a2 a3 a4 a5 a6 a7 a8 a9 : Value} (h : Blk w g t #[a0, a1, a2, a3, a4, a5, a6, a7, a8, a9]) :
    (w.cell? ⟨g, 0, none⟩ = some a0 ∧ w.cell? ⟨g, 1, none⟩ = some a1 ∧ w.cell? ⟨g, 2, none⟩ = some a2 ∧ w.cell? ⟨g, 3, none⟩ = some a3 ∧ w.cell? ⟨g, 4, none⟩ = some a4 ∧ w.cell? ⟨g, 5, none⟩ = some a5 ∧ w.cell? ⟨g, 6, none⟩ = some a6 ∧ w.cell? ⟨g, 7, none⟩ = some a7 ∧ w.cell? ⟨g, 8, none⟩ = some a8 ∧ w.cell? ⟨g, 9, none⟩ = some a9) ∧
    (w.frozen? ⟨g, 0, none⟩ = false ∧ w.frozen? ⟨g, 1, none⟩ = false ∧ w.frozen? ⟨g, 2, none⟩ = false ∧ w.frozen? ⟨g, 3, none⟩ = false ∧ w.frozen? ⟨g, 4, none⟩ = false ∧ w.frozen? ⟨g, 5, none⟩ = false ∧ w.frozen? ⟨g, 6, none⟩ = false ∧ w.frozen? ⟨g, 7, none⟩ = false ∧ w.frozen? ⟨g, 8, none⟩ = false ∧ w.frozen? ⟨g, 9, none⟩ = false) :=
  ⟨⟨h.cell 0, h.cell 1, h.cell 2, h.cell 3, h.cell 4, h.cell 5, h.cell 6, h.cell 7, h.cell 8, h.cell 9⟩, h.frozen 0, h.frozen 1, h.frozen 2, h.frozen 3, h.frozen 4, h.frozen 5, h.frozen 6, h.frozen 7, h.frozen 8, h.frozen 9⟩
theorem fin_term {v : Int} {t : Term} {w w' : World} {ok : Bool} {x0 x1 x2 x3 x4 x5 : Int} {x y : Bool} {A B : Option Addr} {m n c d : Nat} (hok : termOk v t = ok) (hb : Below w.heap.size w w') :
    RetTerm v t w (.returned (.tuple #[.agg #[.int .i64 x0, .int .i64 x1, .int .i64 x2, .int .i64 x3, .int .i64 x4, .int .i64 x5, .bool x, .slice A m c, .bool y, .slice B n d], .bool ok])) w' :=
  ⟨x0, x1, x2, x3, x4, x5, x, y, A, B, m, n, c, d, by rw [hok], hb⟩
theorem below_ten {w w' : World} {B g : Nat} (h : Below B w w') (hg : B ≤ g) (a0 a1 a2 a3 a4 a5 a6 a7 a8 a9 : Value) :
    Below B w ((((((((((w'.setCell ⟨g, 0, none⟩ a0).setCell ⟨g, 1, none⟩ a1).setCell ⟨g, 2, none⟩ a2).setCell ⟨g, 3, none⟩ a3).setCell ⟨g, 4, none⟩ a4).setCell ⟨g, 5, none⟩ a5).setCell ⟨g, 6, none⟩ a6).setCell ⟨g, 7, none⟩ a7).setCell ⟨g, 8, none⟩ a8).setCell ⟨g, 9, none⟩ a9) :=
  below_far (below_far (below_far (below_far (below_far (below_far (below_far (below_far (below_far (below_far h hg _ _) hg _ _) hg _ _) hg _ _) hg _ _) hg _ _) hg _ _) hg _ _) hg _ _) hg _ _
/-- What the reading of the coefficient gives. -/
theorem read_cases (s : ByteArray) : (coefOk s = false ∧ (rd s.data.toList = none ∨ ∃ b q, rd s.data.toList = some (b, 0, q))) ∨ (coefOk s = true ∧ ∃ b p q, rd s.data.toList = some (b, p, q) ∧ p ≠ 0) := by
  unfold coefOk
  cases h : rd s.data.toList with
  | none => exact .inl ⟨rfl, .inl rfl⟩
  | some q =>
    obtain ⟨b, p, q⟩ := q
    by_cases hp : p = 0
    · subst hp; exact .inl ⟨by simp, .inr ⟨b, q, rfl⟩⟩
    · exact .inr ⟨by simp [hp], b, p, q, rfl, hp⟩
def RetRL (s : ByteArray) (ok : Bool) (w : World) (e : Ending) (w' : World) : Prop :=
  ∃ x y X Y m n cx cy, e = Ending.returned (.tuple #[.agg #[.bool x, .slice X m cx, .bool y, .slice Y n cy], .bool ok]) ∧ Below w.heap.size w w' ∧ (ok = true → (decide (m = 0) = !coefOk s))
theorem read_lit (s : ByteArray) (w : World) (hs : s.size ≤ 19) (hT : Tab w) (ok : Bool) (hok : (rd s.data.toList).isSome = ok) : Calls Tryz.prog 83 #[.string s] w (RetRL s ok w) := by
  refine (read_any s w hs hT).mono fun e w' ⟨x, y, X, Y, m, n, cx, cy, h1, h2, h3⟩ => ⟨x, y, X, Y, m, n, cx, cy, by rw [h1, hok], h2, fun hk => ?_⟩
  rcases read_cases s with ⟨h, g2 | ⟨b, q, g2⟩⟩ | ⟨h, b, p, q, g2, g3⟩
  · rw [g2] at hok; rw [← hok] at hk; cases hk
  · rw [h, (h3 _ _ _ g2).2.1]; rfl
  · rw [h, (h3 _ _ _ g2).2.1, wds_pos g3]; rfl
theorem rterm_any (v : Int) (s : ByteArray) (A : Option Addr) (c : Nat) (el : List Int) (w : World) (hA : Ints w A el) (hs : s.size ≤ 19) (he : el.length ≤ 64) (hv0 : 0 ≤ v) (hv6 : v ≤ 6) (hT : Tab w) :
    Calls Tryz.prog 71 #[.int .i64 v, .agg #[.string s, .slice A el.length c]] w (RetTerm v (s, el) w) := by
  have hbA : Below w.heap.size w ((w.alloc (.cells #[.string s, .slice A el.length c] 54)).alloc (.cells #[.int .i64 0, .int .i64 0, .int .i64 0, .int .i64 0, .int .i64 0, .int .i64 0, .bool false, .slice none 0 0, .bool false, .slice none 0 0] 125)) :=
    ((Below.refl _ _).alloc (Nat.le_refl _) _).alloc (by simp) _
  have hcs := read_cases s
  obtain ⟨ok, hok⟩ : ∃ ok, (rd s.data.toList).isSome = ok := ⟨_, rfl⟩
  have HK : Hid ((ok = false ∧ coefOk s = false) ∨ (ok = true)) := Lib.hid (by
    rcases hcs with ⟨h, h2 | ⟨b, q, h2⟩⟩ | ⟨h, b, p, q, h2, h3⟩
    · exact .inl ⟨by rw [← hok, h2]; rfl, h⟩
    · exact .inr (by rw [← hok, h2]; rfl)
    · exact .inr (by rw [← hok, h2]; rfl))
  have HR := Lib.hid (read_lit s _ hs (hT.below hbA hT.1) ok hok)
  clear hcs hok
  go_enter Tryz.func71, Tryz.ntmps71
  go_upto_region 2 with (go_at_call 83; refine HR.out.mono ?_; rintro e w1 ⟨x, y, X, Y, m, n, cx, cy, rfl, hb1, hm⟩)
  have B3 : Blk w1 w.heap.size 54 #[.string s, .slice A el.length c] := ((Blk.new w 54 #[.string s, .slice A el.length c]).alloc _).keep hb1 (by simp; omega)
  have B4 : Blk w1 (w.heap.size + 1) 125 #[.int .i64 0, .int .i64 0, .int .i64 0, .int .i64 0, .int .i64 0, .int .i64 0, .bool false, .slice none 0 0, .bool false, .slice none 0 0] := by
    have := (Blk.new (w.alloc (.cells #[.string s, .slice A el.length c] 54)) 125 #[.int .i64 0, .int .i64 0, .int .i64 0, .int .i64 0, .int .i64 0, .int .i64 0, .bool false, .slice none 0 0, .bool false, .slice none 0 0]).keep hb1 (by simp)
    simpa using this
  have hbw : Below w.heap.size w w1 := hbA.trans (hb1.mono (by simp; omega))
  have hz1 : w.heap.size + 1 < w1.heap.size := B4.lt
  have hz0 : w.heap.size < w1.heap.size := B3.lt
  have HM := Lib.hid hm
  clear hb1 hbA hm
  by_cases hok : ok = false
  · subst hok
    have hF : Hid (termOk v (s, el) = false) := Lib.hid (by
      rcases HK.out with ⟨_, h⟩ | h
      · unfold termOk; rw [h]; rfl
      · cases h)
    obtain ⟨⟨a0, a1, a2, a3, a4, a5, a6, a7, a8, a9⟩, f0, f1, f2, f3, f4, f5, f6, f7, f8, f9⟩ := B4.ten
    go_wp2
    refine bodyPost_ret (v := .tuple #[.agg #[.int .i64 0, .int .i64 0, .int .i64 0, .int .i64 0, .int .i64 0, .int .i64 0, .bool false, .slice none 0 0, .bool false, .slice none 0 0], .bool false]) (by simp [results, Tryz.results71, go_sem, a0, a1, a2, a3, a4, a5, a6, a7, a8, a9, hz1]) rfl (fin_term hF.out ?_)
    exact (below_ten hbw (by omega) _ _ _ _ _ _ _ _ _ _).alloc (by simp; omega) _
  · obtain rfl : ok = true := by cases ok; exact absurd rfl hok; rfl
    have hm := HM.out rfl
    clear hok HK HM
    have HZ := Lib.hid (fun W => riszero_any x y X Y m n cx cy W)
    have hB3 := B3.alloc (.cells #[.bool x, .slice X m cx, .bool y, .slice Y n cy] 123)
    have hB4 := B4.alloc (.cells #[.bool x, .slice X m cx, .bool y, .slice Y n cy] 123)
    have hB6 := Blk.new w1 123 #[.bool x, .slice X m cx, .bool y, .slice Y n cy]
    have hbw1 := hbw.alloc hbw.size (.cells #[.bool x, .slice X m cx, .bool y, .slice Y n cy] 123)
    by_cases hco : coefOk s = false
    · have hm0 : decide (m = 0) = true := by rw [hm, hco]; rfl
      have hF : Hid (termOk v (s, el) = false) := Lib.hid (by unfold termOk; rw [hco]; rfl)
      have HZ2 : Hid (∀ W, Calls Tryz.prog 84 #[.agg #[.bool x, .slice X m cx, .bool y, .slice Y n cy]] W fun e w' => e = .returned (.bool true) ∧ Below W.heap.size W w') := Lib.hid (fun W => (HZ.out W).mono fun e w' ⟨h1, h2⟩ => ⟨by rw [h1, hm0], h2⟩)
      clear hm hm0 hco HZ
      go_wp2_with (go_at_call 84; refine (HZ2.out _).mono ?_; rintro e w2 ⟨rfl, hb2⟩
                   have C4 := hB4.keep hb2 (by simp; omega)
                   obtain ⟨⟨a0, a1, a2, a3, a4, a5, a6, a7, a8, a9⟩, f0, f1, f2, f3, f4, f5, f6, f7, f8, f9⟩ := C4.ten)
      refine bodyPost_ret (v := .tuple #[.agg #[.int .i64 0, .int .i64 0, .int .i64 0, .int .i64 0, .int .i64 0, .int .i64 0, .bool false, .slice none 0 0, .bool false, .slice none 0 0], .bool false]) (by simp [results, Tryz.results71, go_sem, a0, a1, a2, a3, a4, a5, a6, a7, a8, a9]) rfl (fin_term hF.out ?_)
      exact below_ten (hbw1.trans (hb2.mono hbw1.size)) (by omega) _ _ _ _ _ _ _ _ _ _
    · have hco : coefOk s = true := by cases h : coefOk s; exact absurd h hco; rfl
      have hm0 : decide (m = 0) = false := by rw [hm, hco]; rfl
      have HZ2 : Hid (∀ W, Calls Tryz.prog 84 #[.agg #[.bool x, .slice X m cx, .bool y, .slice Y n cy]] W fun e w' => e = .returned (.bool false) ∧ Below W.heap.size W w') := Lib.hid (fun W => (HZ.out W).mono fun e w' ⟨h1, h2⟩ => ⟨by rw [h1, hm0], h2⟩)
      have HCO := Lib.hid hco
      clear hm hm0 hco HZ
      by_cases hlv : (el.length : Int) = v
      · have hbl : ((el.length : Int) != v) = false := by simp [hlv]
        have HLV := Lib.hid hlv
        clear hlv
        go_upto_region 4 with (
          go_at_call 84; refine (HZ2.out _).mono ?_; rintro e w2 ⟨rfl, hb2⟩
          have C3 := hB3.keep hb2 (by simp; omega)
          obtain ⟨c0, c1, g0, g1⟩ := C3.two)
        have C4 := hB4.keep hb2 (by simp; omega)
        have C6 := hB6.keep hb2 (by simp)
        have hbw2 : Below w.heap.size w w2 := hbw1.trans (hb2.mono hbw1.size)
        have hA2 : Ints w2 A el := hA.keep hbw2
        have hz2 : w.heap.size + 1 < w2.heap.size := C4.lt
        have hz3 : w1.heap.size < w2.heap.size := C6.lt
        clear hb2 HZ2 hB3 hB4 hB6 hbw1 B3 B4 hbw
        go_wp2
        go_loop [34] (fun i => ∃ k : Nat, k ≤ el.length ∧ i = .int .i64 k ∧ Hid (∀ e ∈ el.take k, 0 ≤ e ∧ e ≤ 1048576)) (fun i => el.length - (intOf i).toNat)
        case atStart => exact ⟨0, Nat.zero_le _, rfl, Lib.hid (by simp)⟩
        case round =>
          obtain ⟨k, hk, rfl, HG⟩ := hrel
          by_cases hlt : k < el.length
          · obtain ⟨ad, rfl, hc⟩ := Ints.at hA2 hlt
            have HT0 : Hid (el.take (k + 1) = el.take k ++ [el[k]]) := Lib.hid (List.take_succ_eq_append_getElem hlt)
            have HM : Hid (el[k] ∈ el) := Lib.hid (List.getElem_mem _)
            clear hA2
            generalize el[k] = z at *
            by_cases hz : 0 ≤ z ∧ z ≤ 1048576
            · obtain ⟨z1, z2⟩ := hz
              have b1 : decide (z < 0) = false := by simp; omega
              have b2 : decide ((1048576 : Int) < z) = false := by simp; omega
              have HG2 : Hid (∀ e ∈ el.take (k + 1), 0 ≤ e ∧ e ≤ 1048576) := Lib.hid (by
                rw [HT0.out]
                intro e he'
                rcases List.mem_append.1 he' with h | h
                · exact HG.out e h
                · simp at h; omega)
              go_wp2
              go_round
              case rel => exact ⟨k + 1, by omega, by go_num, HG2⟩
              case measure => simp [intOf]; omega
            · have hF : Hid (termOk v (s, el) = false) := Lib.hid (by
                apply eq_false_of_ne_true
                rw [termOk_iff, low20_iff]
                exact fun h => hz (h.2.2 z HM.out))
              obtain ⟨⟨a0, a1, a2, a3, a4, a5, a6, a7, a8, a9⟩, f0, f1, f2, f3, f4, f5, f6, f7, f8, f9⟩ := C4.ten
              by_cases hz' : z < 0
              · have b1 : decide (z < 0) = true := by simpa using hz'
                clear hz
                go_wp2
                refine bodyPost_ret (v := .tuple #[.agg #[.int .i64 0, .int .i64 0, .int .i64 0, .int .i64 0, .int .i64 0, .int .i64 0, .bool false, .slice none 0 0, .bool false, .slice none 0 0], .bool false]) (by simp [results, Tryz.results71, go_sem, a0, a1, a2, a3, a4, a5, a6, a7, a8, a9]) rfl (fin_term hF.out ?_)
                exact below_ten hbw2 (by omega) _ _ _ _ _ _ _ _ _ _
              · have b1 : decide (z < 0) = false := by simpa using hz'
                have b2 : decide ((1048576 : Int) < z) = true := by simp; omega
                clear hz
                go_wp2
                refine bodyPost_ret (v := .tuple #[.agg #[.int .i64 0, .int .i64 0, .int .i64 0, .int .i64 0, .int .i64 0, .int .i64 0, .bool false, .slice none 0 0, .bool false, .slice none 0 0], .bool false]) (by simp [results, Tryz.results71, go_sem, a0, a1, a2, a3, a4, a5, a6, a7, a8, a9]) rfl (fin_term hF.out ?_)
                exact below_ten hbw2 (by omega) _ _ _ _ _ _ _ _ _ _
          · obtain rfl : k = el.length := by omega
            have hF : Hid (termOk v (s, el) = true) := Lib.hid (termOk_iff.2 ⟨HCO.out, HLV.out, low20_iff.2 (by have := HG.out; rwa [List.take_length] at this)⟩)
            have hl6 : el.length ≤ 6 := by have := HLV.out; omega
            obtain ⟨x0, x1, x2, x3, y0, y1, y2, y3⟩ := C6.four
            clear HG HCO HLV
            go_upto_region 12 with (fail)
            have D10 := Blk.new w2 125 #[.int .i64 0, .int .i64 0, .int .i64 0, .int .i64 0, .int .i64 0, .int .i64 0, .bool x, .slice X m cx, .bool y, .slice Y n cy]
            have D3 := C3.alloc (.cells #[.int .i64 0, .int .i64 0, .int .i64 0, .int .i64 0, .int .i64 0, .int .i64 0, .bool x, .slice X m cx, .bool y, .slice Y n cy] 125)
            have D4 := C4.alloc (.cells #[.int .i64 0, .int .i64 0, .int .i64 0, .int .i64 0, .int .i64 0, .int .i64 0, .bool x, .slice X m cx, .bool y, .slice Y n cy] 125)
            have hAW := Sl.alloc hA2 (.cells #[.int .i64 0, .int .i64 0, .int .i64 0, .int .i64 0, .int .i64 0, .int .i64 0, .bool x, .slice X m cx, .bool y, .slice Y n cy] 125)
            have hbW := hbw2.alloc hbw2.size (.cells #[.int .i64 0, .int .i64 0, .int .i64 0, .int .i64 0, .int .i64 0, .int .i64 0, .bool x, .slice X m cx, .bool y, .slice Y n cy] 125)
            generalize w2.alloc (.cells #[.int .i64 0, .int .i64 0, .int .i64 0, .int .i64 0, .int .i64 0, .int .i64 0, .bool x, .slice X m cx, .bool y, .slice Y n cy] 125) = W at *
            clear c0 c1 g0 g1 x0 x1 x2 x3 y0 y1 y2 y3
            obtain ⟨c0, c1, g0, g1⟩ := D3.two
            go_still_tail 4, (by kernel_rfl)
            change wpList _ _ _ _ _ W.drew
            refine wpList_copy6 rfl (.tmp 49) (.tmp 51) rfl w2.heap.size 125 A c el [.bool x, .slice X m cx, .bool y, .slice Y n cy] rfl rfl (hAW.drewN 1) hl6 D10 ?_
            intro W' E10 hbut
            have E4 := hbut.blk _ _ _ (by omega) (show Blk W.drew (w.heap.size + 1) _ _ from D4)
            have hbW' := hbut.below _ _ hbW.drew (by omega)
            have hzW : w.heap.size + 1 < W'.heap.size := E4.lt
            obtain ⟨⟨a0, a1, a2, a3, a4, a5, a6, a7, a8, a9⟩, f0, f1, f2, f3, f4, f5, f6, f7, f8, f9⟩ := E4.ten
            obtain ⟨⟨j0, j1, j2, j3, j4, j5, j6, j7, j8, j9⟩, k0, k1, k2, k3, k4, k5, k6, k7, k8, k9⟩ := Blk.ten E10
            clear D10 D3 D4 hAW c0 c1 g0 g1
            generalize el.getD 0 0 = v0 at *
            generalize el.getD 1 0 = v1 at *
            generalize el.getD 2 0 = v2 at *
            generalize el.getD 3 0 = v3 at *
            generalize el.getD 4 0 = v4 at *
            generalize el.getD 5 0 = v5 at *
            go_wp2
            refine bodyPost_ret (v := .tuple #[.agg #[.int .i64 v0, .int .i64 v1, .int .i64 v2, .int .i64 v3, .int .i64 v4, .int .i64 v5, .bool x, .slice X m cx, .bool y, .slice Y n cy], .bool true]) (by simp [results, Tryz.results71, go_sem, a0, a1, a2, a3, a4, a5, a6, a7, a8, a9]) rfl (fin_term hF.out ?_)
            exact below_ten hbW' (by omega) _ _ _ _ _ _ _ _ _ _
      · have hbl : ((el.length : Int) != v) = true := by simp [hlv]
        have hF : Hid (termOk v (s, el) = false) := Lib.hid (by unfold termOk; rw [decide_eq_false hlv]; simp)
        clear hlv
        go_wp2_with (go_at_call 84; refine (HZ2.out _).mono ?_; rintro e w2 ⟨rfl, hb2⟩
                     have C4 := hB4.keep hb2 (by simp; omega)
                     have C3 := hB3.keep hb2 (by simp; omega)
                     obtain ⟨c0, c1, g0, g1⟩ := C3.two
                     obtain ⟨⟨a0, a1, a2, a3, a4, a5, a6, a7, a8, a9⟩, f0, f1, f2, f3, f4, f5, f6, f7, f8, f9⟩ := C4.ten)
        refine bodyPost_ret (v := .tuple #[.agg #[.int .i64 0, .int .i64 0, .int .i64 0, .int .i64 0, .int .i64 0, .int .i64 0, .bool false, .slice none 0 0, .bool false, .slice none 0 0], .bool false]) (by simp [results, Tryz.results71, go_sem, a0, a1, a2, a3, a4, a5, a6, a7, a8, a9]) rfl (fin_term hF.out ?_)
        exact below_ten (hbw1.trans (hb2.mono hbw1.size)) (by omega) _ _ _ _ _ _ _ _ _ _
end Go.Proofs.Tg
end
