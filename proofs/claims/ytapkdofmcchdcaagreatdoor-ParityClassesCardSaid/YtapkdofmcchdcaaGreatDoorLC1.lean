/- Walks: classes with their errors, of the program and of the reference. -/
import Derived.Test.YtapkdofmcchdcaaGreatDoorXD4
namespace Go.Proofs.Tg
open Go.RowKit Go.Gr Go.Ev Go.Mo
set_option maxHeartbeats 4000000
set_option maxRecDepth 100000
def clsL (s b : List (List Int)) : List (List Int) := if chk s b = 0 ∧ b.length ≤ 64 then (clsSt (b.map (chr s)) b.length).2.map toI else []
def clsE (s b : List (List Int)) : Int := if chk s b = 0 then (if b.length ≤ 64 then 0 else 2) else chk s b
theorem classes_any (S B : Option Addr) (cs cb : Nat) (s b : List (List Int)) (w : World) (hS : Lists w S s) (hB : Lists w B b) (hs : s.length ≤ 1000) (hb : b.length ≤ 1000) (hs2 : ∀ v ∈ s, v.length ≤ 1000) (hb2 : ∀ v ∈ b, v.length ≤ 1000) :
    Calls Tryz.prog 23 #[.slice S s.length cs, .slice B b.length cb] w (RetCls (clsL s b) (clsE s b) w) := by
  by_cases hz : chk s b = 0
  · by_cases h64 : b.length ≤ 64
    · have e1 : clsL s b = (clsSt (b.map (chr s)) b.length).2.map toI := if_pos ⟨hz, h64⟩
      have e2 : clsE s b = 0 := by unfold clsE; rw [if_pos hz, if_pos h64]
      rw [e1, e2]
      exact cls_main S B cs cb s b w hS hB hs h64 hs2 hz
    · have e1 : clsL s b = [] := if_neg (fun h => h64 h.2)
      have e2 : clsE s b = 2 := by unfold clsE; rw [if_pos hz, if_neg h64]
      rw [e1, e2]
      have HC := Lib.hid (check_any S B cs cb s b w hS hB hs hb hs2 hb2)
      rw [hz] at HC
      have hd : decide ((64 : Int) < (b.length : Int)) = true := by simp; omega
      clear e1 e2 hz
      go_enter Tryz.func23, Tryz.ntmps23
      go_wp2_with (go_at_call 63; refine HC.out.mono ?_; rintro e w' ⟨rfl, rfl⟩)
      go_ret2
      exact ⟨none, 0, rfl, ⟨fun _ => (none, 0), Sl.nil _ _ _, fun i hi => by simp at hi⟩, Below.refl _ _⟩
  · have e1 : clsL s b = [] := if_neg (fun h => hz h.1)
    have e2 : clsE s b = chk s b := if_neg hz
    rw [e1, e2]
    have HC := Lib.hid (check_any S B cs cb s b w hS hB hs hb hs2 hb2)
    have hzb : (chk s b != 0) = true := by simp [hz]
    clear e1 e2 hz
    generalize chk s b = z at *
    go_enter Tryz.func23, Tryz.ntmps23
    go_wp2_with (go_at_call 63; refine HC.out.mono ?_; rintro e w' ⟨rfl, rfl⟩)
    go_ret2
    exact ⟨none, 0, rfl, ⟨fun _ => (none, 0), Sl.nil _ _ _, fun i hi => by simp at hi⟩, Below.refl _ _⟩
theorem rclasses_any (S B : Option Addr) (cs cb : Nat) (s b : List (List Int)) (w : World) (hS : Lists w S s) (hB : Lists w B b) (hs : s.length ≤ 1000) (hb : b.length ≤ 1000) (hs2 : ∀ v ∈ s, v.length ≤ 1000) (hb2 : ∀ v ∈ b, v.length ≤ 1000) :
    Calls Tryz.prog 24 #[.slice S s.length cs, .slice B b.length cb] w (RetCls (clsL s b) (clsE s b) w) := by
  have HC := Lib.hid (rcheck_any S B cs cb s b w hS hB hs hb hs2 hb2)
  by_cases hz : chk s b = 0
  · rw [hz] at HC
    by_cases h64 : b.length ≤ 64
    · have e1 : clsL s b = (clsSt (b.map (chr s)) b.length).2.map toI := if_pos ⟨hz, h64⟩
      have e2 : clsE s b = 0 := by unfold clsE; rw [if_pos hz, if_pos h64]
      rw [e1, e2]
      have HK : Hid (∀ W, Below w.heap.size w W → Calls Tryz.prog 67 #[.slice S s.length cs, .slice B b.length cb] W fun e w' => ∃ A c, e = .returned (.slice A ((clsSt (b.map (chr s)) b.length).2.map toI).length c) ∧ Lists w' A ((clsSt (b.map (chr s)) b.length).2.map toI) ∧ Below W.heap.size W w') := Lib.hid (fun W hW => sets_any S B cs cb s b W (hS.keep hW) (hB.keep hW) hs h64 hz)
      have hd : decide ((64 : Int) < (b.length : Int)) = false := by simp; omega
      clear e1 e2 hz
      generalize (clsSt (b.map (chr s)) b.length).2.map toI = L at *
      go_enter Tryz.func24, Tryz.ntmps24
      go_wp2_with (first
        | (go_at_call 65; refine HC.out.mono ?_; rintro e w1 ⟨rfl, hdr⟩)
        | (go_at_call 67; refine (HK.out _ hdr.below).mono ?_; rintro e w2 ⟨A, c, rfl, hL, hb2⟩))
      go_ret2
      exact ⟨A, c, rfl, hL, below_all hdr.below hb2⟩
    · have e1 : clsL s b = [] := if_neg (fun h => h64 h.2)
      have e2 : clsE s b = 2 := by unfold clsE; rw [if_pos hz, if_neg h64]
      rw [e1, e2]
      have hd : decide ((64 : Int) < (b.length : Int)) = true := by simp; omega
      clear e1 e2 hz
      go_enter Tryz.func24, Tryz.ntmps24
      go_wp2_with (go_at_call 65; refine HC.out.mono ?_; rintro e w1 ⟨rfl, hdr⟩)
      go_ret2
      exact ⟨none, 0, rfl, ⟨fun _ => (none, 0), Sl.nil _ _ _, fun i hi => by simp at hi⟩, hdr.below⟩
  · have e1 : clsL s b = [] := if_neg (fun h => hz h.1)
    have e2 : clsE s b = chk s b := if_neg hz
    rw [e1, e2]
    have hzb : (chk s b != 0) = true := by simp [hz]
    clear e1 e2 hz
    generalize chk s b = z at *
    go_enter Tryz.func24, Tryz.ntmps24
    go_wp2_with (go_at_call 65; refine HC.out.mono ?_; rintro e w1 ⟨rfl, hdr⟩)
    go_ret2
    exact ⟨none, 0, rfl, ⟨fun _ => (none, 0), Sl.nil _ _ _, fun i hi => by simp at hi⟩, hdr.below⟩
end Go.Proofs.Tg
