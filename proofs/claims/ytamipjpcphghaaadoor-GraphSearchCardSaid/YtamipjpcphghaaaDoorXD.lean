/- The statements' Graphs: two graphs are alike. -/
import Derived.Test.YtamipjpcphghaaaDoorXC
import Derived.Laws.StructEq
import Derived.ChangeKeysEq
namespace Go.Proofs.Tg
open Go.RowKit Go.Gr
set_option maxHeartbeats 2000000
set_option maxRecDepth 100000
theorem pair_guard : Tryd.prog.eqGuardType Tryd.prog.depth 46 = false := by kernel_rfl
theorem pair_eq (w : World) (x y x' y' : Int) : (Op.equalIn 10000 46 (.agg #[.int .i64 x, .int .i64 y]) (.agg #[.int .i64 x', .int .i64 y'])).run Tryd.prog w = .ok (decide (x = x' ∧ y = y')) w := by
  obtain ⟨i0, hi, _, hz1, _⟩ := info_parts int_info
  rw [show (10000 : Nat) = 9998 + 1 + 1 from rfl, run_equalIn_array w _ _ _ Tryd.underlying46 hi]
  have hc : Tryd.prog.cellsOf 3 = 1 := by simp [Program.cellsOf, hi, hz1]
  rw [hc, show List.range 2 = [0, 1] from rfl]
  simp only [Op.eqItems, Sem.run_bind]
  simp [go_sem, Tryd.underlying3]
  by_cases h1 : x = x' <;> by_cases h2 : y = y' <;> simp [h1, h2]
theorem graphs_any (n m : Int) (E F : Option Addr) (es fs : List (Int × Int)) (c d : Nat) (w : World) (hE : EdgesAt w E es) (hF : EdgesAt w F fs) (hl : es.length ≤ 1000000) :
    Calls Tryd.prog 15 #[.agg #[.int .i64 n, .slice E es.length c], .agg #[.int .i64 m, .slice F fs.length d]] w fun e w' => e = .returned (.bool (decide (n = m ∧ es = fs))) ∧ Below w.heap.size w w' := by
  generalize hbv : decide (n = m ∧ es = fs) = bv
  have HBV := Lib.hid hbv
  clear hbv
  by_cases hnm : n = m
  · subst hnm
    have hb0 : (n != n) = false := by simp
    have hpe := fun W a b a' b' => pair_eq W a b a' b'
    have hpg := pair_guard
    by_cases hlen : es.length = fs.length
    · have hb : ((es.length : Int) != (fs.length : Int)) = false := by simp [hlen]
      have HL := Lib.hid hlen; clear hlen
      have hbw : Below w.heap.size w ((w.alloc (.cells #[.int .i64 n, .slice E es.length c] 25)).alloc (.cells #[.int .i64 n, .slice F fs.length d] 25)) := ((Below.refl _ _).alloc (Nat.le_refl _) _).alloc (by simp) _
      have hB1 := (Blk.new w 25 #[.int .i64 n, .slice E es.length c]).alloc (.cells #[.int .i64 n, .slice F fs.length d] 25)
      have hB2 := Blk.new (w.alloc (.cells #[.int .i64 n, .slice E es.length c] 25)) 25 #[.int .i64 n, .slice F fs.length d]
      rw [show (w.alloc (.cells #[.int .i64 n, .slice E es.length c] 25)).heap.size = w.heap.size + 1 from by simp] at hB2
      go_enter Tryd.func15, Tryd.ntmps15
      go_wp2
      generalize (w.alloc (.cells #[.int .i64 n, .slice E es.length c] 25)).alloc (.cells #[.int .i64 n, .slice F fs.length d] 25) = W at hbw hB1 hB2 ⊢
      go_loopw [5] (fun i wr => ∃ k : Nat, k ≤ es.length ∧ i = .int .i64 k ∧ Hid (es.take k = fs.take k) ∧ Blk wr w.heap.size 25 #[.int .i64 n, .slice E es.length c] ∧ Blk wr (w.heap.size + 1) 25 #[.int .i64 n, .slice F fs.length d] ∧ Below w.heap.size w wr) (fun i _ => es.length - (intOf i).toNat)
      case atStart => exact ⟨0, Nat.zero_le _, rfl, Lib.hid (by simp), hB1, hB2, hbw⟩
      case round =>
        clear hB1 hB2 hbw
        obtain ⟨k, hk, rfl, HT, hB1, hB2, hbw⟩ := hrel
        have b0 := hB1.cell 1
        have b1 := hB2.cell 1
        simp at b0 b1
        by_cases hlt : k < es.length
        · have hky : k < fs.length := by have := HL.out; omega
          have k0 : (0 : Int) ≤ (k : Int) := by omega
          have k1 : (k : Int) < (es.length : Int) := by omega
          have k2 : (k : Int) < (fs.length : Int) := by omega
          obtain ⟨ad, rfl, hc1, hc2⟩ := EdgesAt.at (hE.keep hbw) hlt
          obtain ⟨bd, rfl, hd1, hd2⟩ := EdgesAt.at (hF.keep hbw) hky
          have HX : Hid (es.take (k + 1) = es.take k ++ [es[k]]) := Lib.hid (List.take_succ_eq_append_getElem hlt)
          have HY : Hid (fs.take (k + 1) = fs.take k ++ [fs[k]]) := Lib.hid (List.take_succ_eq_append_getElem hky)
          have HNE : Hid (es = fs → es[k] = fs[k]) := Lib.hid (fun e => by subst e; rfl)
          clear hE hF
          obtain ⟨x, y, hp⟩ : ∃ x y, es[k] = (x, y) := ⟨_, _, rfl⟩
          obtain ⟨x', y', hp'⟩ : ∃ x y, fs[k] = (x, y) := ⟨_, _, rfl⟩
          rw [hp] at hc1 hc2 HX HNE
          rw [hp'] at hd1 hd2 HY HNE
          clear hp hp'
          simp only at hc1 hc2 hd1 hd2
          by_cases heq : x = x' ∧ y = y'
          · obtain ⟨rfl, rfl⟩ := heq
            go_wp2
            have hq : ∀ W, (Op.equalIn 10000 46 (.agg #[.int .i64 x, .int .i64 y]) (.agg #[.int .i64 x, .int .i64 y])).run Tryd.prog W = .ok true W := fun W => by rw [pair_eq]; simp
            clear hpe
            go_quiet (fail)
            go_wp2
            go_roundw
            case rel => exact ⟨k + 1, by omega, by go_num, Lib.hid (by rw [HX.out, HY.out, HT.out]), hB1, hB2, below_drewN hbw _⟩
            case measure => simp [intOf]; omega
          · have HF : Hid (bv = false) := Lib.hid (HBV.out.symm.trans <| decide_eq_false (fun e => heq (by have := HNE.out e.2; simpa using this)))
            have hq : ∀ W, (Op.equalIn 10000 46 (.agg #[.int .i64 x, .int .i64 y]) (.agg #[.int .i64 x', .int .i64 y'])).run Tryd.prog W = .ok false W := fun W => by rw [pair_eq, decide_eq_false heq]
            clear hpe heq
            go_wp2
            go_quiet (fail)
            go_wp2
            go_ret
            exact ⟨by rw [HF.out]; rfl, below_drewN hbw _⟩
        · have HF : Hid (bv = true) := Lib.hid (HBV.out.symm.trans <| decide_eq_true ⟨by simp, by
            have := HT.out
            rwa [List.take_of_length_le (by omega), List.take_of_length_le (by have := HL.out; omega)] at this⟩)
          go_wp2
          go_ret
          exact ⟨by rw [HF.out]; rfl, hbw⟩
    · have hb : ((es.length : Int) != (fs.length : Int)) = true := by simp; omega
      have HF : Hid (bv = false) := Lib.hid (HBV.out.symm.trans <| decide_eq_false (fun e => hlen (by rw [e.2])))
      clear hlen
      go_enter Tryd.func15, Tryd.ntmps15
      go_wp2
      go_ret
      exact ⟨by rw [HF.out]; rfl, ((Below.refl _ _).alloc (Nat.le_refl _) _).alloc (by simp) _⟩
  · have hb : (n != m) = true := by simp [hnm]
    have HF : Hid (bv = false) := Lib.hid (HBV.out.symm.trans <| decide_eq_false (fun e => hnm e.1))
    clear hnm
    go_enter Tryd.func15, Tryd.ntmps15
    go_wp2
    go_ret
    exact ⟨by rw [HF.out]; rfl, ((Below.refl _ _).alloc (Nat.le_refl _) _).alloc (by simp) _⟩
end Go.Proofs.Tg
