/- The statement GraphExtension, walked. -/
import Derived.Test.YtamipjpcphghaaaDoorXH
import Derived.Test.YtamipjpcphghaaaDoorPF
import Derived.Test.YtamipjpcphghaaaDoorWV
import Derived.Test.YtamipjpcphghaaaDoorWS
namespace Go.Proofs.Tg
open Go.RowKit Go.Gr
set_option maxHeartbeats 2000000
set_option maxRecDepth 100000
/-- Extend, told by what its edges are good for. -/
def RetExt (n : Nat) (es : List (Int × Int)) (w : World) (e : Ending) (w' : World) : Prop :=
  ∃ xs F d, ExtEs n es xs ∧ xs.length ≤ 4096 ∧ e = .returned (.tuple #[.agg #[.int .i64 n, .slice F xs.length d], .int .i64 0]) ∧ EdgesAt w' F xs ∧ Below w.heap.size w w'
theorem ext_any (n : Nat) (E : Option Addr) (c : Nat) (es : List (Int × Int)) (w : World) (hE : EdgesAt w E es) (hl : es.length ≤ 1000000) (hv : valid n es) (hT : Tab w) :
    Calls Tryd.prog 25 #[.agg #[.int .i64 n, .slice E es.length c]] w (RetExt n es w) := by
  refine (extend_ok n E c es w hE hl hv hT).mono ?_
  rintro e w' ⟨F, d, h1, h2, h3⟩
  refine ⟨_, F, d, extend_es hv, ?_, h1, Sl.own h2, h3⟩
  have := ext_len (extend (readAll es) n) n
  have := hv.2.1
  omega
theorem chordal_true (n : Nat) (E : Option Addr) (c : Nat) (es : List (Int × Int)) (w : World) (hE : EdgesAt w E es) (hl : es.length ≤ 1000000) (hv : valid n es) (hc : isChordal (readAll es) n = true) (hT : Tab w) :
    Calls Tryd.prog 28 #[.agg #[.int .i64 n, .slice E es.length c]] w fun e w' => e = .returned (.tuple #[.bool true, .int .i64 0]) ∧ Below w.heap.size w w' := by
  refine (chordal_ok n E c es w hE hl hv hT).mono ?_
  rintro e w' ⟨h1, h2⟩
  rw [hc] at h1
  exact ⟨h1, h2⟩
theorem law_extension (n : Int) (E : Option Addr) (es : List (Int × Int)) (c : Nat) (w : World) (hE : EdgesAt w E es) (hT : Tab w) :
    Calls Tryd.prog 8 #[.int .i64 n, .slice E es.length c] w fun e w' => e = .returned (.bool true) ∧ Below w.heap.size w w' := by
  by_cases hl : es.length ≤ 40
  · have HMD := Lib.hid (made_any n E c es w hE hl)
    clear hE
    go_enter Tryd.func8, Tryd.ntmps8
    go_wp2_with (first
      | (go_at_call 16; refine HMD.out.mono ?_; rintro e w1 ⟨m, fs, F, d, hm8, hfv, hfl, rfl, hF, hb1⟩
         have hmm : ((m : Int) != (m : Int)) = false := by simp
         have HFV := Lib.hid hfv; clear hfv)
      | (go_at_call 25; refine (ext_any m F d fs _ (hF.keep ((Below.refl _ _).alloc (Nat.le_refl _) _)) (by omega) HFV.out (hT.below (hb1.alloc hb1.size _) hT.1)).mono ?_; rintro e w2 ⟨xs, G, dg, hx, hxl, rfl, hG, hb2⟩
         have HX := Lib.hid hx; clear hx
         have hbw2 : Below w.heap.size w w2 := below_all (hb1.alloc hb1.size _) hb2
         have hF2 := (hF.keep ((Below.refl _ _).alloc (Nat.le_refl _) (.cells #[.int .i64 m, .slice F fs.length d] 25))).keep hb2
         have hB5 := (Blk.new w1 25 #[.int .i64 m, .slice F fs.length d]).keep hb2 (by simp)
         have hlt5 : w1.heap.size < w2.heap.size := hB5.lt
         have hlt5w : w.heap.size ≤ w1.heap.size := hb1.size
         clear hF)
      | (go_at_call 28; refine (chordal_true m G dg xs _ (hG.keep ((Below.refl _ _).alloc (Nat.le_refl _) _)) (by omega) HX.out.valid HX.out.chord (hT.below (hbw2.alloc hbw2.size _) hT.1)).mono ?_; rintro e w3 ⟨rfl, hb3⟩
         have hbw3 : Below w.heap.size w w3 := below_all (hbw2.alloc hbw2.size _) hb3
         have hF3 := (hF2.keep ((Below.refl _ _).alloc (Nat.le_refl _) (.cells #[.int .i64 m, .slice G xs.length dg] 25))).keep hb3
         have hG3 := (hG.keep ((Below.refl _ _).alloc (Nat.le_refl _) (.cells #[.int .i64 m, .slice G xs.length dg] 25))).keep hb3
         have hB53 := (hB5.alloc (.cells #[.int .i64 m, .slice G xs.length dg] 25)).keep hb3 (by simp; omega)
         have hB73 := (Blk.new w2 25 #[.int .i64 m, .slice G xs.length dg]).keep hb3 (by simp)
         clear hF2 hG hB5
         have q0 := hB73.cell 0
         have q1 := hB73.cell 1
         simp at q0 q1)
      | (go_at_call 29; refine (valid_any m G dg xs true w3 hG3 (by omega) (by simp [HX.out.valid])).mono ?_; rintro e w4 ⟨rfl, hb4⟩
         have hbw4 : Below w.heap.size w w4 := below_all hbw3 hb4
         have hF4 := hF3.keep hb4
         have hG4 := hG3.keep hb4
         have hB54 := hB53.keep hb4 hB53.lt
         have hB74 := hB73.keep hb4 hB73.lt
         clear hF3 hG3 hB53 hB73
         have r0 := hB74.cell 0
         have s0 := hB54.cell 0
         simp at r0 s0))
    clear q0 q1 r0 s0
    go_loopw [11] (fun i wr => ∃ k : Nat, i = .int .i64 k ∧ k ≤ fs.length ∧ Below w4.heap.size w4 wr) (fun i _ => fs.length - (intOf i).toNat)
    case atStart => exact ⟨0, rfl, Nat.zero_le _, Below.refl _ _⟩
    case round =>
      obtain ⟨k, rfl, hk, hbr⟩ := hrel
      have hB5 := hB54.keep hbr hB54.lt
      have hB7 := hB74.keep hbr hB74.lt
      have s1 := hB5.cell 1
      have r0 := hB7.cell 0
      have r1 := hB7.cell 1
      simp at s1 r0 r1
      by_cases hkl : k < fs.length
      · obtain ⟨ad, rfl, hc1, hc2⟩ := EdgesAt.at (hF4.keep hbr) hkl
        have HM : Hid (fs[k] ∈ fs) := Lib.hid (List.getElem_mem _)
        obtain ⟨x, y, hp⟩ : ∃ x y, fs[k] = (x, y) := ⟨_, _, rfl⟩
        rw [hp] at hc1 hc2 HM
        clear hp
        simp only at hc1 hc2
        have k0 : (0 : Int) ≤ (k : Int) := by omega
        have k1 : (k : Int) < (fs.length : Int) := by omega
        have HA := Lib.hid (fun W (hW : Below wr.heap.size wr W) => adj_any m G dg xs x y true W ((hG4.keep hbr).keep hW) (by omega) (by
          simp only [true_iff]
          obtain ⟨h1, h2⟩ := HX.out.more _ HM.out
          exact ⟨HX.out.valid, h1, h2⟩))
        clear hF4 hG4
        go_wp2
        go_region_held3 (fun w' => w'.cell? ⟨w2.heap.size, 0, none⟩ = some (.int .i64 m) ∧ w'.cell? ⟨w2.heap.size, 1, none⟩ = some (.slice G xs.length dg) ∧ w'.cell? ⟨w1.heap.size, 1, none⟩ = some (.slice (some ad) fs.length d) ∧
            w'.cell? (ad.add (k * 2)) = some (.int .i64 x) ∧ w'.cell? ⟨(ad.add (k * 2)).block, (ad.add (k * 2)).off + 1, none⟩ = some (.int .i64 y)) (first | go_keep | exact ⟨keep_cell hbc r0, keep_cell hbc r1, keep_cell hbc s1, keep_cell hbc hc1, keep_cell hbc hc2⟩)
          (first | (go_at_call 27; refine (HA.out _ (Below.refl _ _).drew).mono ?_; rintro e w' ⟨rfl, hbc⟩))
        go_wp2
        go_roundw
        case rel => exact ⟨k + 1, by go_num, by omega, below_all hbr (below_of_drew hbc)⟩
        case measure => simp [intOf]; omega
      · obtain rfl : k = fs.length := by omega
        have hbw5 : Below w.heap.size w wr := below_all hbw4 hbr
        go_wp2_with (go_at_call 12; refine (awake_any _ (hT.below hbw5 hT.1)).mono ?_; rintro e w5 ⟨rfl, hb5⟩)
        go_ret
        exact ⟨rfl, below_all hbw5 hb5⟩
  · have HMD := Lib.hid (made_long n E c es w (by omega))
    have hb : decide ((40 : Int) < (es.length : Int)) = true := by simp; omega
    clear hE
    go_enter Tryd.func8, Tryd.ntmps8
    go_wp2_with (first
      | (go_at_call 16; refine HMD.out.mono ?_; rintro e w1 ⟨rfl, hb1⟩)
      | (go_at_call 12; refine (awake_any _ (hT.below (hb1.alloc hb1.size _) hT.1)).mono ?_; rintro e w4 ⟨rfl, hb4⟩))
    go_ret
    exact ⟨rfl, below_all (hb1.alloc hb1.size _) hb4⟩
end Go.Proofs.Tg
