/- Make. -/
import Derived.Test.YtamipjpcphghaaaDoorWI
namespace Go.Gr
def inR (n : Int) (e : Int × Int) : Prop := 0 ≤ e.1 ∧ e.1 < n ∧ 0 ≤ e.2 ∧ e.2 < n
def rangeOk (n : Int) (es : List (Int × Int)) : Prop := (0 ≤ n ∧ n ≤ 64) ∧ ∀ e ∈ es, inR n e
end Go.Gr
namespace Go.Proofs.Tg
open Go.RowKit Go.Gr
set_option maxHeartbeats 2000000
set_option maxRecDepth 100000
theorem results_g {fn : Func} {p q : Tmp} (h : fn.results = #[.cell p 25, .tmp q]) (tmps : Array Value) (w : World) (g : Nat) (a b : Value)
    (hp : tmps.getD p undef = .pointer (some ⟨g, 0, none⟩)) (hg : Blk w g 25 #[a, b]) :
    (results fn tmps).run Tryd.prog w = .ok (.tuple #[.agg #[a, b], tmps.getD q undef]) w := by
  have hp' : tmps[p]?.getD undef = .pointer (some ⟨g, 0, none⟩) := by simpa using hp
  have hi : (Tryd.prog.info? 25).map (·.size) = some (#[a, b] : Array Value).size := by
    show _ = some 2
    kernel_rfl
  simp [results, h, hp', asAddr, run_loadVar_row w g 25 25 #[a, b] (0, 0) _ hg Tryd.underlying25 rfl hi]
theorem blk_two {w : World} {g : Nat} {a b c d : Value} (h : Blk w g 25 #[a, b]) : Blk ((w.setCell ⟨g, 0, none⟩ c).setCell ⟨g, 1, none⟩ d) g 25 #[c, d] := by
  have := (h.set 0 c).set 1 d
  simpa using this
def zeroG : Value := .agg #[.int .i64 0, .slice none 0 0]
def RetMake (n : Int) (es : List (Int × Int)) (w : World) (e : Ending) (w' : World) : Prop :=
  (¬ rangeOk n es ∧ e = .returned (.tuple #[zeroG, .int .i64 3]) ∧ Below w.heap.size w w') ∨
  (rangeOk n es ∧ (∃ x ∈ es, x.1 = x.2) ∧ e = .returned (.tuple #[zeroG, .int .i64 1]) ∧ Below w.heap.size w w') ∨
  (rangeOk n es ∧ (∀ x ∈ es, x.1 ≠ x.2) ∧ ∃ F d, e = .returned (.tuple #[.agg #[.int .i64 n, .slice F (writeEdges (readAll es) n.toNat).length d], .int .i64 0]) ∧
    w'.ownsRow w.heap.size 46 2 (.slice F (writeEdges (readAll es) n.toNat).length d) (writeEdges (readAll es) n.toNat).length (ecells (writeEdges (readAll es) n.toNat)) ∧ Below w.heap.size w w')
theorem make_any (n : Int) (E : Option Addr) (c : Nat) (es : List (Int × Int)) (w : World) (hE : EdgesAt w E es) (hl : es.length ≤ 1000000) (hT : Tab w) :
    Calls Tryd.prog 13 #[.int .i64 n, .slice E es.length c] w (RetMake n es w) := by
  by_cases hn : 0 ≤ n ∧ n ≤ 64
  · have d1 : decide (n < 0) = false := by simp; omega
    have d2 : decide (64 < n) = false := by simp; omega
    obtain ⟨hn0, hn1⟩ := hn
    go_enter Tryd.func13, Tryd.ntmps13
    go_wp2
    go_loopw [20] (fun i wr => ∃ k : Nat, i = .int .i64 k ∧ k ≤ es.length ∧ Blk wr w.heap.size 25 #[.int .i64 0, .slice none 0 0] ∧ Hid (∀ e ∈ es.take k, inR n e) ∧ Below w.heap.size w wr) (fun i _ => es.length - (intOf i).toNat)
    case atStart => exact ⟨0, rfl, Nat.zero_le _, Blk.new _ _ _, Lib.hid (by simp), (Below.refl _ _).alloc (Nat.le_refl _) _⟩
    case round =>
      obtain ⟨k, rfl, hk, hB, HI, hb⟩ := hrel
      have hbl := hb.size
      by_cases hkl : k < es.length
      · obtain ⟨ad, rfl, hc1, hc2⟩ := EdgesAt.at (hE.keep hb) hkl
        have HM : Hid (es[k] ∈ es) := Lib.hid (List.getElem_mem _)
        have HT2 : Hid (es.take (k + 1) = es.take k ++ [es[k]]) := Lib.hid (List.take_succ_eq_append_getElem hkl)
        obtain ⟨x, y, hp⟩ : ∃ x y, es[k] = (x, y) := ⟨_, _, rfl⟩
        rw [hp] at hc1 hc2 HM HT2
        clear hp
        simp only at hc1 hc2
        have b0 := hB.cell 0
        have b1 := hB.cell 1
        have f0 := hB.frozen 0
        have f1 := hB.frozen 1
        simp at b0 b1
        have hlB := Blk.lt hB
        by_cases hin : inR n (x, y)
        · have HIN := Lib.hid hin
          obtain ⟨p1, p2, p3, p4⟩ := hin
          simp only at p1 p2 p3 p4
          rcases Int.lt_or_le x y with hxy | hxy
          all_goals go_wp2
          all_goals
            go_roundw
            case rel =>
              refine ⟨k + 1, by go_num, by omega, hB.alloc _, Lib.hid ?_, hb.alloc hbl _⟩
              rw [HT2.out]
              intro e he
              rcases List.mem_append.1 he with h | h
              · exact HI.out e h
              · simp at h; subst h; exact HIN.out
            case measure => simp [intOf]; omega
        · have HBAD : Hid (¬ rangeOk n es) := Lib.hid (fun h => hin (h.2 _ HM.out))
          have hcase : (x < y ∧ x < 0) ∨ (x < y ∧ 0 ≤ x ∧ n ≤ y) ∨ (y ≤ x ∧ y < 0) ∨ (y ≤ x ∧ 0 ≤ y ∧ n ≤ x) := by
            unfold inR at hin
            simp only at hin
            omega
          clear hin
          rcases hcase with ⟨p1, p2⟩ | ⟨p1, p2, p3⟩ | ⟨p1, p2⟩ | ⟨p1, p2, p3⟩
          all_goals go_wp2
          all_goals
            refine bodyPost_ret (v := .tuple #[zeroG, .int .i64 3]) (results_g (p := 4) (q := 5) rfl _ _ w.heap.size _ _ rfl ((blk_two hB).alloc _)) rfl ?_
            exact .inl ⟨HBAD.out, rfl, ((hb.setCell (by simp) _).setCell (by simp) _).alloc (by simpa [World.setCell] using hbl) _⟩
      · obtain rfl : k = es.length := by omega
        have HOK : Hid (rangeOk n es) := Lib.hid ⟨⟨hn0, hn1⟩, by have := HI.out; rwa [List.take_length] at this⟩
        clear HI
        obtain ⟨nn, rfl⟩ := Int.eq_ofNat_of_zero_le hn0
        have hnn : nn ≤ 64 := by omega
        obtain ⟨wo, rfl⟩ : ∃ wo : World, wo = wr := ⟨_, rfl⟩
        go_wp2_with (refine adj_alloc _ _ _ _ ?_)
        go_loopw [43] (fun i wr => ∃ (k : Nat) (A : Nat → Nat), i = .int .i64 k ∧ k ≤ es.length ∧ Blk wr w.heap.size 25 #[.int .i64 0, .slice none 0 0] ∧ AdjAt wr wo.heap.size A ∧ Small A ∧ Hid (A = readAll (es.take k)) ∧ Hid (∀ e ∈ es.take k, e.1 ≠ e.2) ∧ Below w.heap.size w wr) (fun i _ => es.length - (intOf i).toNat)
        case atStart => exact ⟨0, fun _ => 0, rfl, Nat.zero_le _, hB.alloc _, Blk.new _ _ _, Small.zero, Lib.hid (by simp [readAll]), Lib.hid (by simp), hb.alloc hbl _⟩
        case round =>
          have hlB := Blk.lt hB
          clear hB hb
          obtain ⟨k, A, rfl, hk, hB, hA, hS, HA, HI, hb⟩ := hrel
          have hbl2 := hb.size
          have hAl := Blk.lt hA
          have hlB2 := Blk.lt hB
          by_cases hkl : k < es.length
          · obtain ⟨ad, rfl, hc1, hc2⟩ := EdgesAt.at (hE.keep hb) hkl
            have HM : Hid (es[k] ∈ es) := Lib.hid (List.getElem_mem _)
            have HT2 : Hid (es.take (k + 1) = es.take k ++ [es[k]]) := Lib.hid (List.take_succ_eq_append_getElem hkl)
            have HA2 : Hid (readAll (es.take (k + 1)) = connect (readAll (es.take k)) es[k].1.toNat es[k].2.toNat) := Lib.hid (readAll_succ hkl)
            have hin := HOK.out.2 _ (List.getElem_mem hkl)
            obtain ⟨x, y, hp⟩ : ∃ x y, es[k] = (x, y) := ⟨_, _, rfl⟩
            rw [hp] at hc1 hc2 HM HT2 HA2 hin
            clear hp
            obtain ⟨p1, p2, p3, p4⟩ := hin
            simp only at hc1 hc2 p1 p2 p3 p4
            obtain ⟨i, rfl⟩ := Int.eq_ofNat_of_zero_le p1
            obtain ⟨j, rfl⟩ := Int.eq_ofNat_of_zero_le p3
            have b0 := hB.cell 0
            have b1 := hB.cell 1
            have f0 := hB.frozen 0
            have f1 := hB.frozen 1
            simp at b0 b1
            by_cases hij : i = j
            · subst hij
              have HBAD : Hid (∃ x ∈ es, x.1 = x.2) := Lib.hid ⟨_, HM.out, rfl⟩
              go_wp2
              refine bodyPost_ret (v := .tuple #[zeroG, .int .i64 1]) (results_g (p := 4) (q := 5) rfl _ _ w.heap.size _ _ rfl ((blk_two hB).alloc _)) rfl ?_
              exact .inr (.inl ⟨HOK.out, HBAD.out, rfl, ((hb.setCell (by simp) _).setCell (by simp) _).alloc (by simpa [World.setCell] using hbl2) _⟩)
            · have hbe : (((i : Nat) : Int) == ((j : Nat) : Int)) = false := by simp; omega
              have HIJ := Lib.hid hij
              have hA2 := Blk.alloc hA (.cells #[.int .i64 i, .int .i64 j] 46)
              have HC := Lib.hid (connect_any wo.heap.size i j A (wr.alloc (.cells #[.int .i64 i, .int .i64 j] 46)) hA2 hS (by omega) (by omega))
              clear hij hA2
              go_wp2_with (go_at_call 40; refine HC.out.mono ?_; rintro e w1 ⟨rfl, hA1, hg1⟩)
              go_roundw
              case rel =>
                refine ⟨k + 1, connect A i j, by go_num, by omega, (hB.alloc _).grown hg1 (fun h => by injection h with h; omega), hA1, hS.connect (by omega) (by omega), Lib.hid ?_, Lib.hid ?_, (hb.alloc hbl2 _).grown hg1 (by simp; omega) (fun q hq => by injection hq with hq; omega)⟩
                · rw [HA2.out, ← HA.out]; rfl
                · rw [HT2.out]
                  intro e he
                  rcases List.mem_append.1 he with h | h
                  · exact HI.out e h
                  · simp at h; subst h; have := HIJ.out; simp; omega
              case measure => simp [intOf]; omega
          · obtain rfl : k = es.length := by omega
            have HA2 : Hid (A = readAll es) := Lib.hid (by rw [HA.out, List.take_length])
            have HI2 : Hid (∀ e ∈ es, e.1 ≠ e.2) := Lib.hid (by have := HI.out; rwa [List.take_length] at this)
            have d0 := hB.cell 0
            have d1 := hB.cell 1
            have f0 := hB.frozen 0
            have f1 := hB.frozen 1
            simp at d0 d1
            clear HA HI
            go_wp2_with (go_at_call 41; refine (write_any wo.heap.size nn A wr hA hS hnn (hT.below hb hT.1)).mono ?_; rintro e w2 ⟨F, d, rfl, hFd, hF, hb2⟩
                         have e0 := keep_cell hb2 d0
                         have e1 := keep_cell hb2 d1
                         have g0 := (hb2.frozen (p := ⟨w.heap.size, 0, none⟩) (Blk.lt hB)).trans f0
                         have g1 := (hb2.frozen (p := ⟨w.heap.size, 1, none⟩) (Blk.lt hB)).trans f1)
            refine bodyPost_ret (v := .tuple #[.agg #[.int .i64 nn, .slice F (writeEdges A nn).length d], .int .i64 0]) (by simp [results, Tryd.results13, go_sem, e0, e1]) rfl ?_
            refine .inr (.inr ⟨HOK.out, HI2.out, F, d, ?_, ?_, ((below_all hb hb2).setCell (by simp) _).setCell (by simp) _⟩)
            · rw [← HA2.out]; rfl
            · rw [← HA2.out]
              have hlo : w.heap.size < wr.heap.size := Blk.lt hB
              exact own_base (ownsRow_setCell_below (ownsRow_setCell_below hF (by simpa using hlo) _) (by simpa using hlo) _) (by omega)
  · have HBAD : Hid (¬ rangeOk n es) := Lib.hid (fun h => hn h.1)
    by_cases h1 : n < 0
    · have d1 : decide (n < 0) = true := by simpa using h1
      clear hn
      go_enter Tryd.func13, Tryd.ntmps13
      go_wp2
      refine bodyPost_ret (v := .tuple #[zeroG, .int .i64 3]) (by simp [results, Tryd.results13, go_sem, zeroG]) rfl ?_
      exact .inl ⟨HBAD.out, rfl, (Below.refl _ _).alloc (Nat.le_refl _) _⟩
    · have d1 : decide (n < 0) = false := by simpa using h1
      have d2 : decide (64 < n) = true := by simp; omega
      clear hn
      go_enter Tryd.func13, Tryd.ntmps13
      go_wp2
      refine bodyPost_ret (v := .tuple #[zeroG, .int .i64 3]) (by simp [results, Tryd.results13, go_sem, zeroG]) rfl ?_
      exact .inl ⟨HBAD.out, rfl, (Below.refl _ _).alloc (Nat.le_refl _) _⟩
end Go.Proofs.Tg
