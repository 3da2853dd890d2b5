/- The reference's Common. -/
import Derived.Test.YtamipjpcphghaaaDoorXA
import Derived.Test.YtamipjpcphghaaaDoorPB
namespace Go.Proofs.Tg
open Go.RowKit Go.Gr
set_option maxHeartbeats 1000000
set_option maxRecDepth 100000
theorem drew_more {w wr : World} (h : Hid (∃ n, wr = w.drewN n)) (k : Nat) : Hid (∃ n, wr.drewN k = w.drewN n) := by
  obtain ⟨n, hn⟩ := h.out
  exact Lib.hid ⟨n + k, by rw [hn, World.drewN_drewN]⟩
theorem common_any (A B : Option Addr) (a b : List Int) (c d : Nat) (w : World) (hA : Ints w A a) (hB : Ints w B b) (hal : a.length ≤ 1000) (hbl : b.length ≤ 1000) :
    Calls Tryd.prog 62 #[.slice A a.length c, .slice B b.length d] w fun e w' => e = .returned (.int .i64 (common a b : Nat)) ∧ ∃ n, w' = w.drewN n := by
  go_enter Tryd.func62, Tryd.ntmps62
  go_wp2
  go_loopw [6, 5] (fun i s wr => ∃ k x : Nat, i = .int .i64 k ∧ k ≤ a.length ∧ s = .int .i64 x ∧ x ≤ 1000 * k ∧ Hid (x = common (a.take k) b) ∧ Below w.heap.size w wr ∧ Hid (∃ n, wr = w.drewN n)) (fun i _ _ => a.length - (intOf i).toNat)
  case atStart => exact ⟨0, 0, rfl, Nat.zero_le _, rfl, Nat.zero_le _, Lib.hid (by simp [common]), Below.refl _ _, Lib.hid ⟨0, rfl⟩⟩
  case round =>
    obtain ⟨wo, rfl⟩ : ∃ wo : World, wo = wr := ⟨_, rfl⟩
    obtain ⟨k, x, rfl, hk, rfl, hx, HX, hb, HD⟩ := hrel
    by_cases hkl : k < a.length
    · have hkb : decide ((k : Int) < (a.length : Int)) = true := by simp; omega
      have HS : Hid (common (a.take (k + 1)) b = common (a.take k) b + b.count a[k]) := Lib.hid (by rw [List.take_succ_eq_append_getElem hkl, common_snoc])
      obtain ⟨ad, rfl, hc⟩ := Ints.at hA hkl
      generalize a[k] = v at HS hc
      go_wp2
      go_loopw [7, 5] (fun j s wr => ∃ q y : Nat, j = .int .i64 q ∧ q ≤ b.length ∧ s = .int .i64 y ∧ y ≤ x + q ∧ Hid (y = x + (b.take q).count v) ∧ Below w.heap.size w wr ∧ Hid (∃ n, wr = w.drewN n)) (fun j _ _ => b.length - (intOf j).toNat)
      case atStart => exact ⟨0, x, rfl, Nat.zero_le _, rfl, by omega, Lib.hid (by simp), hb, HD⟩
      case round =>
        clear hb HD
        obtain ⟨q, y, rfl, hq, rfl, hy, HY, hb, HD⟩ := hrel
        by_cases hql : q < b.length
        · have hqb : decide ((q : Int) < (b.length : Int)) = true := by simp; omega
          have HT : Hid ((b.take (q + 1)).count v = (b.take q).count v + if b[q] = v then 1 else 0) := Lib.hid (by rw [List.take_succ_eq_append_getElem hql, count_snoc])
          obtain ⟨bd, rfl, hd⟩ := Ints.at hB hql
          generalize b[q] = u at HT hd
          have hc' := (hb.cell (World.block_lt_of_cell? w _ hc)).trans hc
          have hd' := (hb.cell (World.block_lt_of_cell? w _ hd)).trans hd
          have k0 : (0 : Int) ≤ (k : Int) := by omega
          have k1 : (k : Int) < (a.length : Int) := by omega
          have q0 : (0 : Int) ≤ (q : Int) := by omega
          have q1 : (q : Int) < (b.length : Int) := by omega
          clear hc hd hA hB
          by_cases huv : u = v
          · subst huv
            have HT2 : Hid (y + 1 = x + (b.take (q + 1)).count u) := Lib.hid (by rw [HT.out, if_pos rfl, HY.out]; omega)
            clear HT HY
            go_wp2
            go_quiet (fail)
            go_wp2
            go_roundw
            case rel => exact ⟨q + 1, y + 1, by go_num, by omega, by go_num, by omega, HT2, below_drewN hb _, drew_more HD _⟩
            case measure => simp [intOf]; omega
          · have hbe : (v == u) = false := by simp; omega
            have HT2 : Hid (y = x + (b.take (q + 1)).count v) := Lib.hid (by rw [HT.out, if_neg huv, HY.out]; omega)
            clear HT HY huv
            go_wp2
            go_quiet (fail)
            go_wp2
            go_roundw
            case rel => exact ⟨q + 1, y, by go_num, by omega, rfl, by omega, HT2, below_drewN hb _, drew_more HD _⟩
            case measure => simp [intOf]; omega
        · obtain rfl : q = b.length := by omega
          have hqb : decide ((b.length : Int) < (b.length : Int)) = false := by simp
          have HF : Hid (y = common (a.take (k + 1)) b) := Lib.hid (by rw [HS.out, ← HX.out, HY.out, List.take_length])
          clear HS HY HX
          go_wp2
          go_roundw
          case rel => exact ⟨k + 1, y, by go_num, by omega, rfl, by omega, HF, hb, HD⟩
          case measure => simp [intOf]; omega
    · obtain rfl : k = a.length := by omega
      have HF : Hid (x = common a b) := Lib.hid (by rw [HX.out, List.take_length])
      go_wp2
      go_ret
      exact ⟨by rw [HF.out]; rfl, HD.out⟩
end Go.Proofs.Tg
