/- Comparisons: cmp.Compare at int, cmp.Or of two numbers, edges. -/
import Derived.Test.YtamipjpcphghaaaDoorWD
namespace Go.Gr
def cmpI (a b : Int) : Int := if a < b then -1 else if b < a then 1 else 0
def orI (a b : Int) : Int := if a = 0 then b else a
def cmpE (e f : Int × Int) : Int := orI (cmpI e.1 f.1) (cmpI e.2 f.2)
end Go.Gr
namespace Go.Proofs.Tg
open Go.RowKit Go.Gr
set_option maxHeartbeats 1000000
set_option maxRecDepth 100000
theorem nan_any (a : Int) (w : World) : Calls Tryd.prog 89 #[.int .i64 a] w fun e w' => e = .returned (.bool false) ∧ w = w' := by
  go_enter Tryd.func89, Tryd.ntmps89
  go_wp2
  go_ret
  exact ⟨by simp, rfl⟩
theorem cmp_any (a b : Int) (w : World) : Calls Tryd.prog 73 #[.int .i64 a, .int .i64 b] w fun e w' => e = .returned (.int .i64 (cmpI a b)) ∧ w = w' := by
  by_cases h1 : a < b
  · have e : cmpI a b = -1 := by unfold cmpI; rw [if_pos h1]
    rw [e]; clear e
    go_enter Tryd.func73, Tryd.ntmps73
    go_wp2_with (go_at_call 89; refine (nan_any _ _).mono ?_; rintro e w' ⟨rfl, rfl⟩)
    go_ret
    exact ⟨rfl, rfl⟩
  · by_cases h2 : b < a
    · have e : cmpI a b = 1 := by unfold cmpI; rw [if_neg h1, if_pos h2]
      rw [e]; clear e
      go_enter Tryd.func73, Tryd.ntmps73
      go_wp2_with (go_at_call 89; refine (nan_any _ _).mono ?_; rintro e w' ⟨rfl, rfl⟩)
      go_ret
      exact ⟨rfl, rfl⟩
    · have e : cmpI a b = 0 := by unfold cmpI; rw [if_neg h1, if_neg h2]
      rw [e]; clear e
      go_enter Tryd.func73, Tryd.ntmps73
      go_wp2_with (go_at_call 89; refine (nan_any _ _).mono ?_; rintro e w' ⟨rfl, rfl⟩)
      go_ret
      exact ⟨rfl, rfl⟩
theorem or_any (g : Nat) (a b : Int) (c : Nat) (w : World) (h0 : w.cell? ⟨g, 0, none⟩ = some (.int .i64 a)) (h1 : w.cell? ⟨g, 1, none⟩ = some (.int .i64 b)) :
    Calls Tryd.prog 78 #[.slice (some ⟨g, 0, none⟩) 2 c] w fun e w' => e = .returned (.int .i64 (orI a b)) ∧ w = w' := by
  go_enter Tryd.func78, Tryd.ntmps78
  go_wp2
  go_loop [8] (fun i => ∃ k : Nat, i = .int .i64 k ∧ k ≤ 2 ∧ (0 < k → Hid (a = 0)) ∧ (1 < k → Hid (b = 0))) (fun i => 2 - (intOf i).toNat)
  case atStart => exact ⟨0, rfl, by omega, by omega, by omega⟩
  case round =>
    obtain ⟨k, rfl, hk, ha, hb⟩ := hrel
    have : k = 0 ∨ k = 1 ∨ k = 2 := by omega
    rcases this with rfl | rfl | rfl
    · clear ha hb
      by_cases hz : a = 0
      · have hbb : (a != 0) = false := by simp [hz]
        have HZ := Lib.hid hz; clear hz
        go_wp2
        go_round
        case rel => exact ⟨1, rfl, by omega, fun _ => HZ, by omega⟩
        case measure => simp [intOf]
      · have hbb : (a != 0) = true := by simp [hz]
        have e : orI a b = a := by unfold orI; rw [if_neg hz]
        have HO := Lib.hid e; clear e hz
        go_wp2
        go_ret
        exact ⟨by rw [HO.out]; rfl, rfl⟩
    · have e : orI a b = b := by unfold orI; rw [if_pos (ha (by omega)).out]
      have HO := Lib.hid e; clear e hb
      by_cases hz : b = 0
      · have hbb : (b != 0) = false := by simp [hz]
        have HZ := Lib.hid hz; clear hz
        go_wp2
        go_round
        case rel => exact ⟨2, rfl, by omega, fun _ => ha (by omega), fun _ => HZ⟩
        case measure => simp [intOf]
      · have hbb : (b != 0) = true := by simp [hz]
        clear hz
        go_wp2
        go_ret
        exact ⟨by rw [HO.out]; rfl, rfl⟩
    · have e : orI a b = 0 := by unfold orI; rw [if_pos (ha (by omega)).out, (hb (by omega)).out]
      have HO := Lib.hid e; clear e ha hb
      go_wp2
      go_ret
      exact ⟨by rw [HO.out]; rfl, rfl⟩
theorem or_new (a b : Int) (g : Nat) (W : World) (hg : g = W.heap.size) :
    Calls Tryd.prog 78 #[.slice (some ⟨g, 0, none⟩) 2 2] (W.alloc (.cells #[.int .i64 a, .int .i64 b] 3)).drew fun e w' => e = .returned (.int .i64 (orI a b)) ∧ (W.alloc (.cells #[.int .i64 a, .int .i64 b] 3)).drew = w' := by
  subst hg
  exact or_any _ _ _ _ _ (Blk.cell (Blk.drew (Blk.new W 3 #[.int .i64 a, .int .i64 b])) 0) (Blk.cell (Blk.drew (Blk.new W 3 #[.int .i64 a, .int .i64 b])) 1)
theorem cmpE_any (a b c d : Int) (w : World) :
    Calls Tryd.prog 67 #[.agg #[.int .i64 a, .int .i64 b], .agg #[.int .i64 c, .int .i64 d]] w fun e w' => e = .returned (.int .i64 (cmpE (a, b) (c, d))) ∧ Below w.heap.size w w' := by
  go_enter Tryd.func67, Tryd.ntmps67
  go_wp2
  go_region_held3 (fun w' => w'.cell? ⟨w.heap.size, 0, none⟩ = some (.int .i64 a) ∧ w'.cell? ⟨w.heap.size, 1, none⟩ = some (.int .i64 b) ∧ w'.cell? ⟨w.heap.size + 1, 0, none⟩ = some (.int .i64 c) ∧ w'.cell? ⟨w.heap.size + 1, 1, none⟩ = some (.int .i64 d)) (go_keep)
    (first | (go_at_call 73; refine (cmp_any _ _ _).mono ?_; rintro e w' ⟨rfl, rfl⟩) | (go_at_call 78; refine (or_new (cmpI a c) (cmpI b d) (w.heap.size + 1 + 1) ((w.alloc (.cells #[.int .i64 a, .int .i64 b] 46)).alloc (.cells #[.int .i64 c, .int .i64 d] 46)) ?_).mono ?_; simp; rintro e w1 ⟨rfl, rfl⟩))
  go_wp2
  go_ret
  exact ⟨rfl, (((((Below.refl _ _).alloc (Nat.le_refl _) _).alloc (by simp) _).alloc (by simp; omega) _).drew)⟩
end Go.Proofs.Tg
