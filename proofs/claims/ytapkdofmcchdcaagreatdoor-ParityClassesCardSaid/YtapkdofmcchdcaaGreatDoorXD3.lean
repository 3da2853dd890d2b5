/- Walks of the reference: values, sets, classes. -/
import Derived.Test.YtapkdofmcchdcaaGreatDoorXD1
import Derived.Test.YtapkdofmcchdcaaGreatDoorXD2
namespace Go.Proofs.Tg
open Go.RowKit Go.Gr Go.Ev Go.Mo
set_option maxHeartbeats 4000000
set_option maxRecDepth 100000
def RetRow (l : List Int) (w : World) (e : Ending) (w' : World) : Prop :=
  ∃ A c, e = .returned (.slice A l.length c) ∧ w'.ownsRow w.heap.size 3 1 (.slice A l.length c) l.length (l.map vi) ∧ Below w.heap.size w w'
theorem rval_any (S M : Option Addr) (cs cm : Nat) (s : List (List Int)) (m : List Int) (w : World) (hS : Lists w S s) (hM : Ints w M m) (hs : s.length ≤ 1000) (hm : vldM m = true) (hb : ∀ v ∈ s, b01 v = true) (hl : ∀ v ∈ s, v.length = m.length) :
    Calls Tryz.prog 66 #[.slice S s.length cs, .slice M m.length cm] w (RetRow (chr s m) w) := by
  obtain ⟨hm6, hmx⟩ := small_of_vld hm
  have HB := Lib.hid hb
  have HL := Lib.hid hl
  have HMX := Lib.hid hmx
  clear hb hl hmx
  obtain ⟨i0, hi, hz0, hz1, hz2⟩ := info_parts int_info
  have hcl := Lib.hid (chr_len s m)
  go_enter Tryz.func66, Tryz.ntmps66
  go_wp2
  go_loopw [5, 6] (fun v i wr => ∃ (k : Nat) (A : Option Addr) (c : Nat), k ≤ s.length ∧ i = .int .i64 k ∧ v = .slice A k c ∧ wr.ownsRow w.heap.size 3 1 (.slice A k c) k (((chr s m).take k).map vi) ∧ Below w.heap.size w wr) (fun _ i _ => s.length - (intOf i).toNat)
  case atStart => exact ⟨0, none, 0, Nat.zero_le _, rfl, rfl, World.ownsRow_nil _ _ _ _, Below.refl _ _⟩
  case round =>
    obtain ⟨k, A, c, hk, rfl, rfl, hown, hbw⟩ := hrel
    by_cases hlt : k < s.length
    · obtain ⟨ad, V, cv, rfl, hc, hV⟩ := (hS.keep hbw).at hlt
      have hbv := HB.out s[k] (List.getElem_mem _)
      have hlv := HL.out s[k] (List.getElem_mem _)
      have HCH : Hid ((chr s m).take (k + 1) = (chr s m).take k ++ [dotN m s[k] s[k].length % 2]) := Lib.hid (by
        rw [List.take_succ_eq_append_getElem (by rw [hcl.out]; exact hlt)]
        unfold chr
        rw [List.getElem_map])
      generalize s[k] = v at *
      have HD := Lib.hid (dot_any M V cm cv m v wr (hM.keep hbw) hV (by omega) (by omega) (fun x hx => by have := HMX.out x hx; omega) (b01_iff.1 hbv))
      clear hbv hlv hV
      generalize dotN m v v.length % 2 = z at *
      go_wp2_with (first
        | (go_at_call 93; refine HD.out.mono ?_; rintro e w2 ⟨rfl, hdr⟩
           have hown2 := own_below hown hdr.below (Nat.le_refl _)
           have hb2 := below_all hbw hdr.below
           have hz2' := hb2.size)
        | (at_builtin; refine wpList_append_own _ rfl _ _ 31 rfl w.heap.size 3 i0 (.int .i64 0) 1 8 Tryz.underlying31 hi hz0 hz1 hz2 rfl (by decide) (.slice A k c) k _ rfl (hown2.alloc _) ⟨w2.heap.size, 0, none⟩ 1 1 [.int .i64 z] rfl rfl ?c1 ?c2 ?c3 ?c4 ?c5 ?_
           case c1 => exact cell_one_new _ _ _
           case c2 => simp [Value.oneCell']
           case c3 => simp only [maxLen]; omega
           case c4 => omega
           case c5 => simp; omega
           intro v' w3 hown' hgrow _))
      obtain ⟨A2, c2, hv2, _, _⟩ := Sl.of_own hown'
      subst hv2
      go_roundw
      case rel =>
        refine ⟨k + 1, A2, c2, by omega, by go_num, rfl, ?_, ?_⟩
        · rw [HCH.out, List.map_append]; exact hown'
        · exact (hb2.alloc hb2.size _).grown hgrow (by have := hb2.size; simp; omega) (fun j hj => (hown2.lt j hj).1)
      case measure => simp [intOf]; omega
    · obtain rfl : k = s.length := by omega
      rw [List.take_of_length_le (by rw [hcl.out]; omega)] at hown
      go_wp2
      go_ret
      rw [← hcl.out] at hown
      exact ⟨A, c, by rw [hcl.out]; rfl, hown, hbw⟩
theorem seq_any (A B : Option Addr) (xs ys : List Int) (c d : Nat) (w : World) (hx : Ints w A xs) (hy : Ints w B ys) (hn : xs.length ≤ 1000000) (b : Bool) (hbb : decide (xs = ys) = b) :
    Calls Tryz.prog 80 #[.slice A xs.length c, .slice B ys.length d] w fun e w' => e = .returned (.bool b) ∧ Dr w w' := by
  rw [← hbb]
  clear hbb
  by_cases hl : xs.length = ys.length
  · have hb : ((xs.length : Int) != (ys.length : Int)) = false := by simp [hl]
    have HL := Lib.hid hl; clear hl
    go_enter Tryz.func80, Tryz.ntmps80
    go_wp2
    go_loopw [13] (fun i wr => ∃ k : Nat, k ≤ xs.length ∧ i = .int .i64 k ∧ Hid (xs.take k = ys.take k) ∧ Dr w wr) (fun i _ => xs.length - (intOf i).toNat)
    case atStart => exact ⟨0, Nat.zero_le _, rfl, Lib.hid (by simp), Dr.refl _⟩
    case round =>
      obtain ⟨k, hk, rfl, HT, hbw⟩ := hrel
      by_cases hlt : k < xs.length
      · have hky : k < ys.length := by have := HL.out; omega
        obtain ⟨ad, rfl, hc⟩ := Ints.at (hx.keep hbw.below) hlt
        obtain ⟨bd, rfl, hd⟩ := Ints.at (hy.keep hbw.below) hky
        have HX : Hid (xs.take (k + 1) = xs.take k ++ [xs[k]]) := Lib.hid (List.take_succ_eq_append_getElem hlt)
        have HY : Hid (ys.take (k + 1) = ys.take k ++ [ys[k]]) := Lib.hid (List.take_succ_eq_append_getElem hky)
        have HNE : Hid (xs = ys → xs[k] = ys[k]) := Lib.hid (fun e => by subst e; rfl)
        have i1 : (0 : Int) ≤ (k : Int) := by omega
        have i2 : (k : Int) < (xs.length : Int) := by omega
        have i3 : (k : Int) < (ys.length : Int) := by omega
        have i4 : ((k : Int)).toNat = k := by omega
        clear hx hy
        generalize xs[k] = x at hc HX HNE
        generalize ys[k] = y at hd HY HNE
        by_cases heq : x = y
        · have hbb : (x != y) = false := by simp [heq]
          have HE := Lib.hid heq; clear heq
          go_wp2
          go_quiet (fail)
          go_wp2
          go_roundw
          case rel => exact ⟨k + 1, by omega, by go_num, Lib.hid (by rw [HX.out, HY.out, HT.out, HE.out]), hbw.drewN _⟩
          case measure => simp [intOf]; omega
        · have hbb : (x != y) = true := by simp [heq]
          have HF : Hid (decide (xs = ys) = false) := Lib.hid (decide_eq_false (fun e => heq (HNE.out e)))
          clear heq
          go_wp2
          go_quiet (fail)
          go_wp2
          go_ret
          exact ⟨by rw [HF.out]; rfl, hbw.drewN _⟩
      · have HF : Hid (decide (xs = ys) = true) := Lib.hid (decide_eq_true (by
          have := HT.out
          rwa [List.take_of_length_le (by omega), List.take_of_length_le (by have := HL.out; omega)] at this))
        go_wp2
        go_ret
        exact ⟨by rw [HF.out]; rfl, hbw⟩
  · have hb : ((xs.length : Int) != (ys.length : Int)) = true := by simp; omega
    have HF : Hid (decide (xs = ys) = false) := Lib.hid (decide_eq_false (fun e => hl (by rw [e])))
    clear hl
    go_enter Tryz.func80, Tryz.ntmps80
    go_wp2
    go_ret
    exact ⟨by rw [HF.out]; rfl, Dr.refl _⟩
theorem rChar_any (S M : Option Addr) (cs cm : Nat) (s : List (List Int)) (m : List Int) (w : World) (hS : Lists w S s) (hM : Ints w M m) (hs : s.length ≤ 1000) (hs2 : ∀ v ∈ s, v.length ≤ 1000) (hm2 : m.length ≤ 1000) :
    Calls Tryz.prog 22 #[.slice S s.length cs, .slice M m.length cm] w (RetChar s m w) := by
  have hbA : Below w.heap.size w (w.alloc (.cells #[.slice M m.length cm] 31)) := (Below.refl _ _).alloc (Nat.le_refl _) _
  have hL1 := lists_one (hM.keep hbA) (Blk.cell (Blk.new w 31 #[.slice M m.length cm]) 0)
  have HC := Lib.hid (rcheck_any S (some ⟨w.heap.size, 0, none⟩) cs 1 s [m] _ (hS.keep hbA) hL1 hs (by simp) hs2 (by simpa using hm2))
  clear hL1
  by_cases hz : chk s [m] = 0
  · obtain ⟨i1, i2, i3⟩ := chk_inv hz
    have HK : Hid (∀ W, Below w.heap.size w W → Calls Tryz.prog 66 #[.slice S s.length cs, .slice M m.length cm] W (RetRow (chr s m) W)) := Lib.hid (fun W hW => rval_any S M cs cm s m W (hS.keep hW) (hM.keep hW) hs (i1 m (by simp)) i2 (fun v hv => i3 v hv m (by simp)))
    rw [hz] at HC
    have HZ := Lib.hid hz
    clear hz
    go_enter Tryz.func22, Tryz.ntmps22
    go_wp2_with (first
      | (go_at_call 65; refine HC.out.mono ?_; rintro e w1 ⟨rfl, hdr⟩
         have hb1 := hbA.trans (hdr.below.mono (by simp)))
      | (go_at_call 66; refine (HK.out _ hb1).mono ?_; rintro e w2 ⟨A2, c2, rfl, hown, hb2⟩))
    go_ret2
    refine ⟨A2, c2, ?_, ?_, below_all hb1 hb2⟩
    · rw [HZ.out, if_pos rfl]; rfl
    · rw [HZ.out, if_pos rfl]; exact Sl.own hown
  · have hzb : (chk s [m] != 0) = true := by simp [hz]
    have HE : Hid ((if chk s [m] = 0 then chr s m else []) = []) := Lib.hid (if_neg hz)
    clear hz
    unfold RetChar
    rw [HE.out]
    generalize chk s [m] = z at *
    go_enter Tryz.func22, Tryz.ntmps22
    go_wp2_with (go_at_call 65; refine HC.out.mono ?_; rintro e w1 ⟨rfl, hdr⟩)
    go_ret2
    exact ⟨none, 0, rfl, Sl.nil _ _ _, hbA.trans (hdr.below.mono (by simp))⟩
end Go.Proofs.Tg
