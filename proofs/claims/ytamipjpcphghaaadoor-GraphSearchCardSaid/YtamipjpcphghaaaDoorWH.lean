/- The neighbours ahead of each vertex of an order; cliques; the test for chordal graphs. -/
import Derived.Test.YtamipjpcphghaaaDoorWG
namespace Go.Gr
theorem earlierFrom_len (A : Nat → Nat) : ∀ (l : List Nat) (vis : Nat), (earlierFrom A vis l).length = l.length
  | [], _ => rfl
  | _ :: l, vis => by simp [earlierFrom, earlierFrom_len A l]
end Go.Gr
namespace Go.Proofs.Tg
open Go.RowKit Go.Gr
theorem set_info : (Tryd.prog.info? 54).map (fun i => (i.zero, i.size, i.bytes)) = some (some (.int .u64 0), 1, 8) := by kernel_rfl
theorem make_sets (n : Nat) (hn : n ≤ 1000000) (w : World) : (Instr.makeSlice 71 (.int .i64 (n : Int)) (.int .i64 (n : Int))).run Tryd.prog w = .ok (.slice (some ⟨w.heap.size, 0, none⟩) n n) (w.alloc (.cells (madeCells #[.int .u64 0] n) 54)) := by
  obtain ⟨i0, hi, hz0, hz1, hz2⟩ := info_parts set_info
  have hr := run_make (P := Tryd.prog) w 71 54 i0 (.int .u64 0) Tryd.underlying71 hi hz0 .i64 .i64 n n (by omega) (by omega) (by rw [hz2]; omega) (by omega)
  rw [hz1, Nat.mul_one, Int.toNat_natCast] at hr
  exact hr
def sarr (l : List Nat) : Array Value := (l.map vs).toArray
theorem sarr_made (n : Nat) : madeCells #[.int .u64 0] n = sarr (List.replicate n 0) := by
  apply Array.ext
  · simp [sarr, size_madeCells]
  · intro i h1 h2
    simp [madeCells, sarr, vs, Nat.mod_one]
theorem sarr_set (l : List Nat) (k s : Nat) : (sarr l).setIfInBounds k (.int .u64 s) = sarr (l.set k s) := by
  simp [sarr, List.map_set, vs]
theorem set_mid (l : List Nat) (m s k : Nat) (hk : l.length = k) (hm : 0 < m) : (l ++ List.replicate m 0).set k s = (l ++ [s]) ++ List.replicate (m - 1) 0 := by
  subst hk
  obtain ⟨m, rfl⟩ : ∃ q, m = q + 1 := ⟨m - 1, by omega⟩
  simp [List.replicate_succ]
theorem own_sarr {w : World} {b g n : Nat} {l : List Nat} (h : Blk w g 54 (sarr l)) (hb : b ≤ g) (hn : l.length = n) (hm : n ≤ 1000000) : w.ownsRow b 54 1 (.slice (some ⟨g, 0, none⟩) n n) n (l.map vs) :=
  ⟨by simp [hn], .inr ⟨g, n, _, rfl, hb, h, Nat.le_refl _, by simp only [maxLen]; omega, by simp [sarr, hn], by rw [← hn]; simp only [sarr, Nat.mul_one]; exact List.take_of_length_le (by simp)⟩⟩
set_option maxHeartbeats 1000000
set_option maxRecDepth 100000
theorem earlier_any (g : Nat) (A : Nat → Nat) (V : Option Addr) (c : Nat) (l : List Nat) (w : World) (hA : AdjAt w g A) (hS : Small A) (hV : Nats w V l) (hl : l.length ≤ 64) (hlt : ∀ v ∈ l, v < 64) :
    Calls Tryd.prog 50 #[.pointer (some ⟨g, 0, none⟩), .slice V l.length c] w (RetOwn 54 (earlier A l).length 1 ((earlier A l).map vs) w) := by
  have hgl := Blk.lt hA
  have hmk := fun W => make_sets l.length (by omega) W
  go_enter Tryd.func50, Tryd.ntmps50
  go_wp2
  clear hmk
  go_loopw [14, 6] (fun i s wr => ∃ (k vis : Nat) (d : List Nat), i = .int .i64 k ∧ k ≤ l.length ∧ s = .int .u64 vis ∧ vis < 18446744073709551616 ∧ d.length = k ∧ Blk wr w.heap.size 54 (sarr (d ++ List.replicate (l.length - k) 0)) ∧ Hid (earlier A l = d ++ earlierFrom A vis (l.drop k)) ∧ Below w.heap.size w wr) (fun i _ _ => l.length - (intOf i).toNat)
  case atStart =>
    refine ⟨0, 0, [], rfl, Nat.zero_le _, rfl, by simp, rfl, ?_, Lib.hid rfl, (Below.refl _ _).alloc (Nat.le_refl _) _⟩
    have := Blk.new w 54 (madeCells #[.int .u64 0] l.length)
    rw [sarr_made] at this
    rw [sarr_made]
    exact this
  case round =>
    obtain ⟨k, vis, d, rfl, hk, rfl, hvs, hd, hB, HE, hb⟩ := hrel
    by_cases hkl : k < l.length
    · obtain ⟨ad, rfl, hc⟩ := Nats.at (hV.keep hb) hkl
      have hv64 := hlt l[k] (List.getElem_mem _)
      have HD : Hid (l.drop k = l[k] :: l.drop (k + 1)) := Lib.hid (List.drop_eq_getElem_cons hkl)
      generalize l[k] = v at hc hv64 HD
      have hca := AdjAt.cell (hA.keep hb hgl) hv64
      have hand := u64_and_nat (A v) vis (hS v) hvs
      have hal := and_lt vis (hS v)
      have HE2 : Hid (earlier A l = (d ++ [A v &&& vis]) ++ earlierFrom A (bset vis v) (l.drop (k + 1))) := by
        refine Lib.hid ?_
        rw [HE.out, HD.out, earlierFrom, List.append_assoc]; rfl
      have hco : (sarr (d ++ List.replicate (l.length - k) 0))[k]? = some (.int .u64 0) := by
        have : (d ++ List.replicate (l.length - k) 0)[k]? = some 0 := by
          rw [List.getElem?_append_right (by omega), hd, Nat.sub_self, List.getElem?_replicate, if_pos (by omega)]
        rw [sarr, List.getElem?_toArray, List.getElem?_map, this]; rfl
      have hcb := (hB.cell k).trans hco
      have hfz := hB.frozen k
      have HDL := Lib.hid hd
      clear HE HD hco hd
      go_wp2_with (go_at_call 51; refine (with_any _ _ _ hvs hv64).mono ?_; rintro e w' ⟨rfl, rfl⟩)
      go_roundw
      case rel =>
        refine ⟨k + 1, bset vis v, d ++ [A v &&& vis], by go_num, by omega, rfl, bset_lt hvs hv64, by simp [HDL.out], ?_, HE2, hb.setCell (by simp) _⟩
        have := hB.set k (.int .u64 ((A v &&& vis : Nat) : Int))
        rw [sarr_set, set_mid _ _ _ _ HDL.out (by omega), Nat.sub_sub] at this
        exact this
      case measure => simp [intOf]; omega
    · obtain rfl : k = l.length := by omega
      have he : earlier A l = d := by rw [HE.out, List.drop_length]; simp [earlierFrom]
      rw [Nat.sub_self, List.replicate_zero, List.append_nil] at hB
      have HDL := Lib.hid hd
      have HE2 := Lib.hid he
      clear HE he hd
      go_wp2
      go_ret
      rw [HE2.out]
      refine ⟨some ⟨w.heap.size, 0, none⟩, l.length, ?_, by rw [HDL.out]; exact Nat.le_refl _, ?_, hb⟩
      · show Ending.returned (.slice (some ⟨w.heap.size, 0, none⟩) l.length l.length) = _
        rw [HDL.out]
      · rw [HDL.out]
        exact own_sarr hB (Nat.le_refl _) HDL.out (by omega)
theorem andn_zero_any {s : Nat} (a : Nat) (hs : s < 18446744073709551616) (ha : a < 18446744073709551616) : bits BinOp.andNot IntKind.u64 (s : Int) (a : Int) = ((andn s a : Nat) : Int) := u64_andNot_nat s a hs ha
theorem clique_any (g : Nat) (A : Nat → Nat) (s : Nat) (w : World) (hA : AdjAt w g A) (hS : Small A) (hs : s < 18446744073709551616) (hT : Tab w) :
    Calls Tryd.prog 68 #[.pointer (some ⟨g, 0, none⟩), .int .u64 s] w fun e w' => e = .returned (.bool (isClique A s)) ∧ Below w.heap.size w w' := by
  have hgl := Blk.lt hA
  go_enter Tryd.func68, Tryd.ntmps68
  go_wp2_with (go_at_call 54; refine (verts_any _ _ hs hT).mono ?_; rintro e w1 ⟨V, c, rfl, hVc, hV, hb1⟩)
  have hvb : ∀ x ∈ verts s, x < 64 := fun x hx => (mem_verts.1 hx).1
  have hvl : (verts s).length ≤ 64 := size_le s
  have HC : Hid (isClique A s = (verts s).all fun v => decide (andn (bclr s v) (A v) = 0)) := Lib.hid rfl
  have hVr := Sl.own hV
  generalize verts s = l at hV hvb hvl HC hVr ⊢
  go_loopw [10] (fun i wr => ∃ k : Nat, i = .int .i64 k ∧ k ≤ l.length ∧ Hid ((l.take k).all (fun v => decide (andn (bclr s v) (A v) = 0)) = true) ∧ Below w1.heap.size w1 wr) (fun i _ => l.length - (intOf i).toNat)
  case atStart => exact ⟨0, rfl, Nat.zero_le _, Lib.hid (by simp), Below.refl _ _⟩
  case round =>
    obtain ⟨k, rfl, hk, HA, hbr⟩ := hrel
    by_cases hkl : k < l.length
    · obtain ⟨ad, rfl, hc⟩ := Nats.at (hVr.keep hbr) hkl
      have hv64 := hvb l[k] (List.getElem_mem _)
      have HT : Hid (l.take (k + 1) = l.take k ++ [l[k]]) := Lib.hid (List.take_succ_eq_append_getElem hkl)
      have HM : Hid (l[k] ∈ l) := Lib.hid (List.getElem_mem _)
      generalize l[k] = v at hc hv64 HT HM
      have hca := AdjAt.cell ((hA.keep hb1 hgl).keep hbr (Nat.lt_of_lt_of_le hgl hb1.size)) hv64
      have hcl := bclr_lt v hs
      have han := andn_zero_any (A v) hcl (hS v)
      have hk0 : (0 : Int) ≤ (v : Int) := by omega
      have hk1 : (v : Int) < 64 := by omega
      have hwo := fun W => (without_any s v W hs hv64).mono (R' := fun e w' => e = .returned (.int .u64 (bclr s v : Nat)) ∧ w' = W) fun _ _ h => ⟨h.1, h.2.symm⟩
      have HW := Lib.hid hwo
      clear hwo
      by_cases hz : andn (bclr s v) (A v) = 0
      · have hzb : (((andn (bclr s v) (A v) : Nat) : Int) != 0) = false := by simp [hz]
        have HZ := Lib.hid hz
        clear hz
        generalize andn (bclr s v) (A v) = z at han hzb
        go_wp2
        go_quiet ((go_at_call 64; exact Calls.quiet_of_same (HW.out _)))
        go_wp2
        go_roundw
        case rel => exact ⟨k + 1, by go_num, by omega, Lib.hid (by rw [HT.out, List.all_append, HA.out]; simp [HZ.out]), below_drewN hbr _⟩
        case measure => simp [intOf]; omega
      · have hzb : (((andn (bclr s v) (A v) : Nat) : Int) != 0) = true := by simp [hz]
        have HF : Hid (isClique A s = false) := by
          refine Lib.hid ?_
          rw [HC.out, List.all_eq_false]
          exact ⟨v, HM.out, by simpa using hz⟩
        clear hz
        generalize andn (bclr s v) (A v) = z at han hzb
        go_wp2
        go_quiet ((go_at_call 64; exact Calls.quiet_of_same (HW.out _)))
        go_wp2
        go_ret
        exact ⟨by rw [HF.out]; rfl, below_drewN (hb1.trans (hbr.mono hb1.size)) _⟩
    · obtain rfl : k = l.length := by omega
      have HF : Hid (isClique A s = true) := Lib.hid (by rw [HC.out]; have := HA.out; rwa [List.take_length] at this)
      go_wp2
      go_ret
      exact ⟨by rw [HF.out]; rfl, hb1.trans (hbr.mono hb1.size)⟩
theorem sets_lt_earlier (A : Nat → Nat) (hS : Small A) : ∀ (l : List Nat) (vis : Nat), ∀ s ∈ earlierFrom A vis l, s < 18446744073709551616
  | [], _, s, h => by simp [earlierFrom] at h
  | v :: l, vis, s, h => by
    simp only [earlierFrom, List.mem_cons] at h
    rcases h with rfl | h
    · exact and_lt _ (hS v)
    · exact sets_lt_earlier A hS l _ s h
theorem chordalA_any (g n : Nat) (A : Nat → Nat) (w : World) (hA : AdjAt w g A) (hS : Small A) (hn : n ≤ 64) (hT : Tab w) :
    Calls Tryd.prog 48 #[.pointer (some ⟨g, 0, none⟩), .int .i64 n] w fun e w' => e = .returned (.bool (isChordal A n)) ∧ Below w.heap.size w w' := by
  have hgl := Blk.lt hA
  have hvis := visits (A := A) hn n (Nat.le_refl _)
  have hlen : (search A n).length ≤ 64 := by unfold search; rw [hvis.len]; exact hn
  have hlt : ∀ v ∈ search A n, v < 64 := fun v hv => by have := hvis.lt v hv; omega
  have HL := Lib.hid hlt
  clear hvis hlt
  go_enter Tryd.func48, Tryd.ntmps48
  go_wp2_with (first
    | (go_at_call 49; refine (search_any _ _ A _ hA hS hn).mono ?_; rintro e w1 ⟨V, c, rfl, hVc, hV, hb1⟩)
    | (go_at_call 50; refine (earlier_any _ A _ _ (search A n) _ (hA.keep hb1 hgl) hS (Sl.own hV) hlen HL.out).mono ?_; rintro e w2 ⟨V2, c2, rfl, hVc2, hV2, hb2⟩))
  have HC : Hid (isChordal A n = (earlier A (search A n)).all (isClique A)) := Lib.hid rfl
  have hsl : ∀ s ∈ earlier A (search A n), s < 18446744073709551616 := sets_lt_earlier A hS _ _
  have hll : (earlier A (search A n)).length ≤ 64 := by unfold earlier; rw [earlierFrom_len]; exact hlen
  have hVr := Sl.own hV2
  have hb12 : Below w.heap.size w w2 := below_all hb1 hb2
  clear hV2 hV hb1 hb2 hVc
  generalize earlier A (search A n) = l at HC hsl hll hVr hVc2 ⊢
  have HSL := Lib.hid hsl
  clear hsl
  go_loopw [13] (fun i wr => ∃ k : Nat, i = .int .i64 k ∧ k ≤ l.length ∧ Hid ((l.take k).all (isClique A) = true) ∧ Below w2.heap.size w2 wr) (fun i _ => l.length - (intOf i).toNat)
  case atStart => exact ⟨0, rfl, Nat.zero_le _, Lib.hid (by simp), Below.refl _ _⟩
  case round =>
    obtain ⟨k, rfl, hk, HA, hbr⟩ := hrel
    have hbw : Below w.heap.size w wr := below_all hb12 hbr
    by_cases hkl : k < l.length
    · obtain ⟨ad, rfl, hc⟩ := Sets.at (hVr.keep hbr) hkl
      have hs64 := HSL.out l[k] (List.getElem_mem _)
      have HT : Hid (l.take (k + 1) = l.take k ++ [l[k]]) := Lib.hid (List.take_succ_eq_append_getElem hkl)
      have HM : Hid (l[k] ∈ l) := Lib.hid (List.getElem_mem _)
      generalize l[k] = s at hc hs64 HT HM
      have hq := clique_any g A s wr (hA.keep hbw hgl) hS hs64 (hT.below hbw hT.1)
      cases hz : isClique A s
      · rw [hz] at hq
        have HQ := Lib.hid hq
        have HF : Hid (isChordal A n = false) := by
          refine Lib.hid ?_
          rw [HC.out, List.all_eq_false]
          exact ⟨s, HM.out, by simp [hz]⟩
        clear hq hz
        go_wp2_with (go_at_call 68; refine HQ.out.mono ?_; rintro e w3 ⟨rfl, hb3⟩)
        go_ret
        exact ⟨by rw [HF.out]; rfl, below_all hbw hb3⟩
      · rw [hz] at hq
        have HQ := Lib.hid hq
        have HZ := Lib.hid hz
        clear hq hz
        go_wp2_with (go_at_call 68; refine HQ.out.mono ?_; rintro e w3 ⟨rfl, hb3⟩)
        go_roundw
        case rel => exact ⟨k + 1, by go_num, by omega, Lib.hid (by rw [HT.out, List.all_append, HA.out]; simp [HZ.out]), below_all hbr hb3⟩
        case measure => simp [intOf]; omega
    · obtain rfl : k = l.length := by omega
      have HF : Hid (isChordal A n = true) := Lib.hid (by rw [HC.out]; have := HA.out; rwa [List.take_length] at this)
      go_wp2
      go_ret
      exact ⟨by rw [HF.out]; rfl, hbw⟩
end Go.Proofs.Tg
