/- Parts of the proof: GWI, GWP, GXA, GXB, GXC, WC1, SM1, SM2, E1. -/
import Derived.Laws.CopyOwn
import Derived.Laws.IdiomCopy
import Derived.Maps.OwnSet
import Derived.WalkKit
import Derived.DeepKeys5
import Derived.Test.YtodapfjmgnekkaaGreatDoorMU0
import Derived.Test.YtodapfjmgnekkaaGreatDoorMU2
section
/- Chordal and Extend. -/
namespace Go.Gr
theorem readAll_small (es : List (Int × Int)) (n : Int) (h : valid n es) : Small (readAll es) ∧ Irr (readAll es) := by
  obtain ⟨_, hn, hv⟩ := h
  have : ∀ k, k ≤ es.length → Small (readAll (es.take k)) ∧ Irr (readAll (es.take k)) := by
    intro k
    induction k with
    | zero => exact fun _ => ⟨by simp [readAll]; exact Small.zero, by simp [readAll]; exact Irr.zero⟩
    | succ k ih =>
      intro hk
      obtain ⟨h1, h2⟩ := ih (by omega)
      obtain ⟨⟨g1, g2, g3⟩, _⟩ := hv k (by omega) (by omega)
      have e : readAll (es.take (k + 1)) = connect (readAll (es.take k)) es[k].1.toNat es[k].2.toNat := by
        unfold readAll
        rw [List.take_succ_eq_append_getElem (by omega), List.foldl_append]
        rfl
      rw [e]
      exact ⟨h1.connect (by omega) (by omega), h2.connect (by omega)⟩
  have := this es.length (Nat.le_refl _)
  rwa [List.take_length] at this
end Go.Gr
namespace Go.Proofs.Tg.Gx
open Go.RowKit Go.Gr
set_option maxHeartbeats 1000000
set_option maxRecDepth 100000
/-- A row that is stored whole into a new variable. -/
theorem blk_setRow {w : World} {g : Nat} {t : TypeId} {old : Array Value} (h : Blk w g t old) (cs : Array Value) : Blk (w.setRow g cs) g t cs := setRow_heap w g old cs t (0, 0) h
theorem blk_setRow_far {w : World} {g g' : Nat} {t : TypeId} {cs' : Array Value} (h : Blk w g t cs') (hne : g ≠ g') (cs : Array Value) : Blk (w.setRow g' cs) g t cs' := (setRow_other w g' g cs hne).trans h
end Go.Proofs.Tg.Gx
end
section
/- Make. -/
namespace Go.Gr
def inR (n : Int) (e : Int × Int) : Prop := 0 ≤ e.1 ∧ e.1 < n ∧ 0 ≤ e.2 ∧ e.2 < n
def rangeOk (n : Int) (es : List (Int × Int)) : Prop := (0 ≤ n ∧ n ≤ 64) ∧ ∀ e ∈ es, inR n e
end Go.Gr
namespace Go.Proofs.Tg.Gx
open Go.RowKit Go.Gr
set_option maxHeartbeats 2000000
set_option maxRecDepth 100000
theorem results_g {fn : Func} {p q : Tmp} (h : fn.results = #[.cell p 40, .tmp q]) (tmps : Array Value) (w : World) (g : Nat) (a b : Value)
    (hp : tmps.getD p undef = .pointer (some ⟨g, 0, none⟩)) (hg : Blk w g 40 #[a, b]) :
    (results fn tmps).run Tryz.prog w = .ok (.tuple #[.agg #[a, b], tmps.getD q undef]) w := by
  have hp' : tmps[p]?.getD undef = .pointer (some ⟨g, 0, none⟩) := by simpa using hp
  have hi : (Tryz.prog.info? 40).map (·.size) = some (#[a, b] : Array Value).size := by
    show _ = some 2
    kernel_rfl
  simp [results, h, hp', asAddr, run_loadVar_row w g 40 40 #[a, b] (0, 0) _ hg Tryz.underlying40 rfl hi]
theorem blk_two {w : World} {g : Nat} {a b c d : Value} (h : Blk w g 40 #[a, b]) : Blk ((w.setCell ⟨g, 0, none⟩ c).setCell ⟨g, 1, none⟩ d) g 40 #[c, d] := by
  have := (h.set 0 c).set 1 d
  simpa using this
def zeroG : Value := .agg #[.int .i64 0, .slice none 0 0]
def RetMake (n : Int) (es : List (Int × Int)) (w : World) (e : Ending) (w' : World) : Prop :=
  (¬ rangeOk n es ∧ e = .returned (.tuple #[zeroG, .int .i64 3]) ∧ Below w.heap.size w w') ∨
  (rangeOk n es ∧ (∃ x ∈ es, x.1 = x.2) ∧ e = .returned (.tuple #[zeroG, .int .i64 1]) ∧ Below w.heap.size w w') ∨
  (rangeOk n es ∧ (∀ x ∈ es, x.1 ≠ x.2) ∧ ∃ F d, e = .returned (.tuple #[.agg #[.int .i64 n, .slice F (writeEdges (readAll es) n.toNat).length d], .int .i64 0]) ∧
    w'.ownsRow w.heap.size 83 2 (.slice F (writeEdges (readAll es) n.toNat).length d) (writeEdges (readAll es) n.toNat).length (ecells (writeEdges (readAll es) n.toNat)) ∧ Below w.heap.size w w')
theorem make_any (n : Int) (E : Option Addr) (c : Nat) (es : List (Int × Int)) (w : World) (hE : EdgesAt w E es) (hl : es.length ≤ 1000000) (hT : Tab w) :
    Calls Tryz.prog 57 #[.int .i64 n, .slice E es.length c] w (RetMake n es w) := by
  by_cases hn : 0 ≤ n ∧ n ≤ 64
  · have d1 : decide (n < 0) = false := by simp; omega
    have d2 : decide (64 < n) = false := by simp; omega
    obtain ⟨hn0, hn1⟩ := hn
    go_enter Tryz.func57, Tryz.ntmps57
    go_wp2
    go_loopw [20] (fun i wr => ∃ k : Nat, i = .int .i64 k ∧ k ≤ es.length ∧ Blk wr w.heap.size 40 #[.int .i64 0, .slice none 0 0] ∧ Hid (∀ e ∈ es.take k, inR n e) ∧ Below w.heap.size w wr) (fun i _ => es.length - (intOf i).toNat)
    case atStart => exact ⟨0, rfl, Nat.zero_le _, Blk.new _ _ _, Lib.hid (by simp), (Below.refl _ _).alloc (Nat.le_refl _) _⟩
    case round =>
      obtain ⟨k, rfl, hk, hB, HI, hb⟩ := hrel
      have hbl := hb.size
      by_cases hkl : k < es.length
      · obtain ⟨ad, rfl, hc1, hc2⟩ := EdgesAt.at (hE.keep hb) hkl
        have HM : Hid (es[k] ∈ es) := Lib.hid (List.getElem_mem _)
        have HT2 : Hid (es.take (k + 1) = es.take k ++ [es[k]]) := Lib.hid (List.take_succ_eq_append_getElem hkl)
        obtain ⟨x, y, hp⟩ : ∃ x y, es[k] = (x, y) := ⟨_, _, rfl⟩
        rw [hp] at hc1 hc2 HM HT2
        clear hp
        simp only at hc1 hc2
        have b0 := hB.cell 0
        have b1 := hB.cell 1
        have f0 := hB.frozen 0
        have f1 := hB.frozen 1
        simp at b0 b1
        have hlB := Blk.lt hB
        by_cases hin : inR n (x, y)
        · have HIN := Lib.hid hin
          obtain ⟨p1, p2, p3, p4⟩ := hin
          simp only at p1 p2 p3 p4
          rcases Int.lt_or_le x y with hxy | hxy
          all_goals go_wp2
          all_goals
            go_roundw
            case rel =>
              refine ⟨k + 1, by go_num, by omega, hB.alloc _, Lib.hid ?_, hb.alloc hbl _⟩
              rw [HT2.out]
              intro e he
              rcases List.mem_append.1 he with h | h
              · exact HI.out e h
              · simp at h; subst h; exact HIN.out
            case measure => simp [intOf]; omega
        · have HBAD : Hid (¬ rangeOk n es) := Lib.hid (fun h => hin (h.2 _ HM.out))
          have hcase : (x < y ∧ x < 0) ∨ (x < y ∧ 0 ≤ x ∧ n ≤ y) ∨ (y ≤ x ∧ y < 0) ∨ (y ≤ x ∧ 0 ≤ y ∧ n ≤ x) := by
            unfold inR at hin
            simp only at hin
            omega
          clear hin
          rcases hcase with ⟨p1, p2⟩ | ⟨p1, p2, p3⟩ | ⟨p1, p2⟩ | ⟨p1, p2, p3⟩
          all_goals go_wp2
          all_goals
            refine bodyPost_ret (v := .tuple #[zeroG, .int .i64 3]) (results_g (p := 4) (q := 5) rfl _ _ w.heap.size _ _ rfl ((blk_two hB).alloc _)) rfl ?_
            exact .inl ⟨HBAD.out, rfl, ((hb.setCell (by simp) _).setCell (by simp) _).alloc (by simpa [World.setCell] using hbl) _⟩
      · obtain rfl : k = es.length := by omega
        have HOK : Hid (rangeOk n es) := Lib.hid ⟨⟨hn0, hn1⟩, by have := HI.out; rwa [List.take_length] at this⟩
        clear HI
        obtain ⟨nn, rfl⟩ := Int.eq_ofNat_of_zero_le hn0
        have hnn : nn ≤ 64 := by omega
        obtain ⟨wo, rfl⟩ : ∃ wo : World, wo = wr := ⟨_, rfl⟩
        go_wp2_with (refine adj_alloc _ _ _ _ ?_)
        go_loopw [43] (fun i wr => ∃ (k : Nat) (A : Nat → Nat), i = .int .i64 k ∧ k ≤ es.length ∧ Blk wr w.heap.size 40 #[.int .i64 0, .slice none 0 0] ∧ AdjAt wr wo.heap.size A ∧ Small A ∧ Hid (A = readAll (es.take k)) ∧ Hid (∀ e ∈ es.take k, e.1 ≠ e.2) ∧ Below w.heap.size w wr) (fun i _ => es.length - (intOf i).toNat)
        case atStart => exact ⟨0, fun _ => 0, rfl, Nat.zero_le _, hB.alloc _, Blk.new _ _ _, Small.zero, Lib.hid (by simp [readAll]), Lib.hid (by simp), hb.alloc hbl _⟩
        case round =>
          have hlB := Blk.lt hB
          clear hB hb
          obtain ⟨k, A, rfl, hk, hB, hA, hS, HA, HI, hb⟩ := hrel
          have hbl2 := hb.size
          have hAl := Blk.lt hA
          have hlB2 := Blk.lt hB
          by_cases hkl : k < es.length
          · obtain ⟨ad, rfl, hc1, hc2⟩ := EdgesAt.at (hE.keep hb) hkl
            have HM : Hid (es[k] ∈ es) := Lib.hid (List.getElem_mem _)
            have HT2 : Hid (es.take (k + 1) = es.take k ++ [es[k]]) := Lib.hid (List.take_succ_eq_append_getElem hkl)
            have HA2 : Hid (readAll (es.take (k + 1)) = connect (readAll (es.take k)) es[k].1.toNat es[k].2.toNat) := Lib.hid (readAll_succ hkl)
            have hin := HOK.out.2 _ (List.getElem_mem hkl)
            obtain ⟨x, y, hp⟩ : ∃ x y, es[k] = (x, y) := ⟨_, _, rfl⟩
            rw [hp] at hc1 hc2 HM HT2 HA2 hin
            clear hp
            obtain ⟨p1, p2, p3, p4⟩ := hin
            simp only at hc1 hc2 p1 p2 p3 p4
            obtain ⟨i, rfl⟩ := Int.eq_ofNat_of_zero_le p1
            obtain ⟨j, rfl⟩ := Int.eq_ofNat_of_zero_le p3
            have b0 := hB.cell 0
            have b1 := hB.cell 1
            have f0 := hB.frozen 0
            have f1 := hB.frozen 1
            simp at b0 b1
            by_cases hij : i = j
            · subst hij
              have HBAD : Hid (∃ x ∈ es, x.1 = x.2) := Lib.hid ⟨_, HM.out, rfl⟩
              go_wp2
              refine bodyPost_ret (v := .tuple #[zeroG, .int .i64 1]) (results_g (p := 4) (q := 5) rfl _ _ w.heap.size _ _ rfl ((blk_two hB).alloc _)) rfl ?_
              exact .inr (.inl ⟨HOK.out, HBAD.out, rfl, ((hb.setCell (by simp) _).setCell (by simp) _).alloc (by simpa [World.setCell] using hbl2) _⟩)
            · have hbe : (((i : Nat) : Int) == ((j : Nat) : Int)) = false := by simp; omega
              have HIJ := Lib.hid hij
              have hA2 := Blk.alloc hA (.cells #[.int .i64 i, .int .i64 j] 83)
              have HC := Lib.hid (connect_any wo.heap.size i j A (wr.alloc (.cells #[.int .i64 i, .int .i64 j] 83)) hA2 hS (by omega) (by omega))
              clear hij hA2
              go_wp2_with (go_at_call 74; refine HC.out.mono ?_; rintro e w1 ⟨rfl, hA1, hg1⟩)
              go_roundw
              case rel =>
                refine ⟨k + 1, connect A i j, by go_num, by omega, (hB.alloc _).grown hg1 (fun h => by injection h with h; omega), hA1, hS.connect (by omega) (by omega), Lib.hid ?_, Lib.hid ?_, (hb.alloc hbl2 _).grown hg1 (by simp; omega) (fun q hq => by injection hq with hq; omega)⟩
                · rw [HA2.out, ← HA.out]; rfl
                · rw [HT2.out]
                  intro e he
                  rcases List.mem_append.1 he with h | h
                  · exact HI.out e h
                  · simp at h; subst h; have := HIJ.out; simp; omega
              case measure => simp [intOf]; omega
          · obtain rfl : k = es.length := by omega
            have HA2 : Hid (A = readAll es) := Lib.hid (by rw [HA.out, List.take_length])
            have HI2 : Hid (∀ e ∈ es, e.1 ≠ e.2) := Lib.hid (by have := HI.out; rwa [List.take_length] at this)
            have d0 := hB.cell 0
            have d1 := hB.cell 1
            have f0 := hB.frozen 0
            have f1 := hB.frozen 1
            simp at d0 d1
            clear HA HI
            go_wp2_with (go_at_call 88; refine (write_any wo.heap.size nn A wr hA hS hnn (hT.below hb hT.1)).mono ?_; rintro e w2 ⟨F, d, rfl, hFd, hF, hb2⟩
                         have e0 := keep_cell hb2 d0
                         have e1 := keep_cell hb2 d1
                         have g0 := (hb2.frozen (p := ⟨w.heap.size, 0, none⟩) (Blk.lt hB)).trans f0
                         have g1 := (hb2.frozen (p := ⟨w.heap.size, 1, none⟩) (Blk.lt hB)).trans f1)
            refine bodyPost_ret (v := .tuple #[.agg #[.int .i64 nn, .slice F (writeEdges A nn).length d], .int .i64 0]) (by simp [results, Tryz.results57, go_sem, e0, e1]) rfl ?_
            refine .inr (.inr ⟨HOK.out, HI2.out, F, d, ?_, ?_, ((below_all hb hb2).setCell (by simp) _).setCell (by simp) _⟩)
            · rw [← HA2.out]; rfl
            · rw [← HA2.out]
              have hlo : w.heap.size < wr.heap.size := Blk.lt hB
              exact own_base (ownsRow_setCell_below (ownsRow_setCell_below hF (by simpa using hlo) _) (by simpa using hlo) _) (by omega)
  · have HBAD : Hid (¬ rangeOk n es) := Lib.hid (fun h => hn h.1)
    by_cases h1 : n < 0
    · have d1 : decide (n < 0) = true := by simpa using h1
      clear hn
      go_enter Tryz.func57, Tryz.ntmps57
      go_wp2
      refine bodyPost_ret (v := .tuple #[zeroG, .int .i64 3]) (by simp [results, Tryz.results57, go_sem, zeroG]) rfl ?_
      exact .inl ⟨HBAD.out, rfl, (Below.refl _ _).alloc (Nat.le_refl _) _⟩
    · have d1 : decide (n < 0) = false := by simpa using h1
      have d2 : decide (64 < n) = true := by simp; omega
      clear hn
      go_enter Tryz.func57, Tryz.ntmps57
      go_wp2
      refine bodyPost_ret (v := .tuple #[zeroG, .int .i64 3]) (by simp [results, Tryz.results57, go_sem, zeroG]) rfl ?_
      exact .inl ⟨HBAD.out, rfl, (Below.refl _ _).alloc (Nat.le_refl _) _⟩
end Go.Proofs.Tg.Gx
end
section
/- The reference's tables: a slice of rows of truth values, each row a block of its own. -/
namespace Go.Proofs.Tg.Gx
open Go.RowKit Go.Gr
/-- A row of n cells, told by a function. -/
def farr (n : Nat) (f : Nat → Value) : Array Value := ((List.range n).map f).toArray
theorem farr_size (n : Nat) (f : Nat → Value) : (farr n f).size = n := by simp [farr]
theorem farr_at (n : Nat) (f : Nat → Value) {i : Nat} (hi : i < n) : (farr n f)[i]? = some (f i) := by simp [farr, hi]
theorem farr_set (n : Nat) (f : Nat → Value) (i : Nat) (v : Value) : (farr n f).setIfInBounds i v = farr n (fun k => if k = i then v else f k) := by
  apply Array.ext
  · simp [farr]
  · intro k h1 h2
    rw [Array.getElem_setIfInBounds (by simpa using h1)]
    simp only [farr, List.getElem_toArray, List.getElem_map, List.getElem_range]
    by_cases hk : i = k
    · subst hk; simp
    · rw [if_neg hk, if_neg (fun e => hk e.symm)]
theorem farr_made (z : Value) (n : Nat) : madeCells #[z] n = farr n (fun _ => z) := by
  apply Array.ext
  · simp [farr, size_madeCells]
  · intro i h1 h2
    simp [madeCells, farr, Nat.mod_one]
theorem farr_congr {n : Nat} {f g : Nat → Value} (h : ∀ i, i < n → f i = g i) : farr n f = farr n g := by
  unfold farr
  rw [List.map_congr_left (fun i hi => h i (by simpa using hi))]
theorem brow_info : (Tryz.prog.info? 112).map (fun i => (i.zero, i.size, i.bytes)) = some (some (.slice none 0 0), 1, 24) := by kernel_rfl
theorem bool_info : (Tryz.prog.info? 4).map (fun i => (i.zero, i.size, i.bytes)) = some (some (.bool false), 1, 1) := by kernel_rfl
theorem make_table (n : Nat) (hn : n ≤ 1000000) (w : World) : (Instr.makeSlice 80 (.int .i64 (n : Int)) (.int .i64 (n : Int))).run Tryz.prog w = .ok (.slice (some ⟨w.heap.size, 0, none⟩) n n) (w.alloc (.cells (farr n fun _ => .slice none 0 0) 112)) := by
  obtain ⟨i0, hi, hz0, hz1, hz2⟩ := info_parts brow_info
  have hr := run_make (P := Tryz.prog) w 80 112 i0 (.slice none 0 0) Tryz.underlying80 hi hz0 .i64 .i64 n n (by omega) (by omega) (by rw [hz2]; omega) (by omega)
  rw [hz1, Nat.mul_one, Int.toNat_natCast, show (Value.slice none 0 0).cells = #[.slice none 0 0] from rfl, farr_made] at hr
  exact hr
theorem make_bools (n : Nat) (hn : n ≤ 1000000) (w : World) : (Instr.makeSlice 112 (.int .i64 (n : Int)) (.int .i64 (n : Int))).run Tryz.prog w = .ok (.slice (some ⟨w.heap.size, 0, none⟩) n n) (w.alloc (.cells (farr n fun _ => .bool false) 4)) := by
  obtain ⟨i0, hi, hz0, hz1, hz2⟩ := info_parts bool_info
  have hr := run_make (P := Tryz.prog) w 112 4 i0 (.bool false) Tryz.underlying112 hi hz0 .i64 .i64 n n (by omega) (by omega) (by rw [hz2]; omega) (by omega)
  rw [hz1, Nat.mul_one, Int.toNat_natCast, show (Value.bool false).cells = #[.bool false] from rfl, farr_made] at hr
  exact hr
def rowV (g n i : Nat) : Value := .slice (some ⟨g + 1 + i, 0, none⟩) n n
/-- The table at block g, its rows in the next n blocks. -/
structure TableAt (w : World) (g n : Nat) (t : Nat → Nat → Bool) : Prop where
  head : Blk w g 112 (farr n (rowV g n))
  row : ∀ i, i < n → Blk w (g + 1 + i) 4 (farr n fun j => .bool (t i j))
set_option maxHeartbeats 1000000
set_option maxRecDepth 100000
theorem blank_any (n : Nat) (w : World) (hn : n ≤ 1000000) :
    Calls Tryz.prog 59 #[.int .i64 n] w fun e w' => e = .returned (.slice (some ⟨w.heap.size, 0, none⟩) n n) ∧ TableAt w' w.heap.size n (fun _ _ => false) ∧ Below w.heap.size w w' := by
  have m1 := fun W => make_table n hn W
  have m2 := fun W => make_bools n hn W
  go_enter Tryz.func59, Tryz.ntmps59
  go_wp2
  go_loopw [4] (fun i wr => ∃ k : Nat, i = .int .i64 k ∧ k ≤ n ∧ Hid (wr.heap.size = w.heap.size + 1 + k) ∧ Blk wr w.heap.size 112 (farr n fun i => if i < k then rowV w.heap.size n i else .slice none 0 0) ∧ (∀ i, i < k → Blk wr (w.heap.size + 1 + i) 4 (farr n fun _ => .bool false)) ∧ Below w.heap.size w wr) (fun i _ => n - (intOf i).toNat)
  case atStart =>
    refine ⟨0, rfl, Nat.zero_le _, Lib.hid (by simp), ?_, fun i hi => by omega, (Below.refl _ _).alloc (Nat.le_refl _) _⟩
    have := Blk.new w 112 (farr n fun _ => .slice none 0 0)
    rw [show (farr n fun i => if i < 0 then rowV w.heap.size n i else .slice none 0 0) = farr n fun _ => .slice none 0 0 from farr_congr (fun i _ => by simp)]
    exact this
  case round =>
    obtain ⟨k, rfl, hk, HS, hB, hR, hb⟩ := hrel
    have HR := Lib.hid hR
    clear hR
    by_cases hkn : k < n
    · have ck := (hB.cell k).trans (farr_at n _ hkn)
      rw [if_neg (by omega)] at ck
      have fk := hB.frozen k
      have hlt := Blk.lt hB
      have hsz := hb.size
      go_wp2
      go_roundw
      case rel =>
        refine ⟨k + 1, by go_num, by omega, Lib.hid ?_, ?_, ?_, ?_⟩
        · simp [World.setCell]; have := HS.out; omega
        · have := (hB.set k (.slice (some ⟨wr.heap.size, 0, none⟩) n n))
          rw [farr_set, HS.out] at this
          rw [show (farr n fun i => if i < k + 1 then rowV w.heap.size n i else .slice none 0 0) = farr n (fun i => if i = k then .slice (some ⟨w.heap.size + 1 + k, 0, none⟩) n n else if i < k then rowV w.heap.size n i else .slice none 0 0) from farr_congr (fun i _ => by
            by_cases h1 : i = k
            · subst h1; simp [rowV]
            · by_cases h2 : i < k
              · simp [h1, h2]; omega
              · simp [h1, h2]; omega)]
          rw [HS.out]
          first | exact this.alloc _ | exact this
        · intro i hi
          by_cases h1 : i = k
          · subst h1
            have := Blk.new (wr.setCell ⟨w.heap.size, i, none⟩ (.slice (some ⟨wr.heap.size, 0, none⟩) n n)) 4 (farr n fun _ => .bool false)
            rw [show (wr.setCell ⟨w.heap.size, i, none⟩ (.slice (some ⟨wr.heap.size, 0, none⟩) n n)).heap.size = w.heap.size + 1 + i from by simp [World.setCell]; exact HS.out] at this
            exact this
          · exact ((HR.out i (by omega)).far (by simp; omega) _).alloc _
        · exact (hb.setCell (by simp) _).alloc (by simp [World.setCell]; omega) _
      case measure => simp [intOf]; omega
    · obtain rfl : k = n := by omega
      go_wp2
      go_ret
      refine ⟨rfl, ⟨?_, HR.out⟩, hb⟩
      rw [show farr k (rowV w.heap.size k) = farr k fun i => if i < k then rowV w.heap.size k i else .slice none 0 0 from farr_congr (fun i hi => by rw [if_pos hi])]
      exact hB
end Go.Proofs.Tg.Gx
end
section
/- The reference's Write. -/
namespace Go.Gr
/-- The edges of row i of a table to vertices from i + 1 to j - 1. -/
def rowT (t : Nat → Nat → Bool) (i j : Nat) : List (Int × Int) := ((List.range j).filter fun k => decide (i < k) && t i k).map fun k : Nat => ((i : Int), (k : Int))
def tableEdges (t : Nat → Nat → Bool) (n m : Nat) : List (Int × Int) := (List.range m).flatMap fun i => rowT t i n
theorem rowT_succ (t : Nat → Nat → Bool) (i j : Nat) : rowT t i (j + 1) = rowT t i j ++ if i < j ∧ t i j = true then [((i : Int), (j : Int))] else [] := by
  unfold rowT
  rw [List.range_succ, List.filter_append, List.map_append]
  by_cases h : i < j ∧ t i j = true
  · rw [if_pos h]; simp [h.1, h.2]
  · rw [if_neg h]
    congr 1
    have : (decide (i < j) && t i j) = false := by
      by_cases h1 : i < j
      · have : t i j = false := by
          cases hh : t i j
          · rfl
          · exact absurd ⟨h1, hh⟩ h
        simp [this]
      · simp [h1]
    simp [this]
theorem rowT_start (t : Nat → Nat → Bool) (i : Nat) : rowT t i (i + 1) = [] := by
  unfold rowT
  rw [List.map_eq_nil_iff, List.filter_eq_nil_iff]
  intro k hk
  have : k < i + 1 := by simpa using hk
  simp; intro h; omega
theorem tableEdges_succ (t : Nat → Nat → Bool) (n m : Nat) : tableEdges t n (m + 1) = tableEdges t n m ++ rowT t m n := by simp [tableEdges, List.range_succ]
end Go.Gr
namespace Go.Proofs.Tg.Gx
open Go.RowKit Go.Gr
set_option maxHeartbeats 2000000
set_option maxRecDepth 100000
theorem rwrite_any (g n : Nat) (t : Nat → Nat → Bool) (w : World) (hA : TableAt w g n t) (hn : n ≤ 64) :
    Calls Tryz.prog 41 #[.slice (some ⟨g, 0, none⟩) n n] w (RetGraph n (tableEdges t n n) w) := by
  obtain ⟨i0, hi, hz0, hz1, hz2⟩ := info_parts pair_info
  have hgl := Blk.lt hA.head
  go_enter Tryz.func41, Tryz.ntmps41
  go_wp2
  go_loopw [4] (fun i wr => ∃ (k : Nat) (E : Option Addr) (c : Nat) (es : List (Int × Int)), i = .int .i64 k ∧ k ≤ n ∧ Blk wr w.heap.size 40 #[.int .i64 0, .slice none 0 0] ∧ Blk wr (w.heap.size + 1) 40 #[.int .i64 n, .slice E es.length c] ∧
      wr.ownsRow (w.heap.size + 2) 83 2 (.slice E es.length c) es.length (ecells es) ∧ es.length ≤ c ∧ es.length ≤ 64 * k ∧ Hid (es = tableEdges t n k) ∧ Below w.heap.size w wr) (fun i _ => n - (intOf i).toNat)
  case atStart =>
    refine ⟨0, none, 0, [], rfl, Nat.zero_le _, ?_, ?_, World.ownsRow_nil _ _ _ _, by simp, by simp, Lib.hid (by simp [tableEdges]), ?_⟩
    · exact Blk.alloc (Blk.new _ _ _) _
    · have := Blk.new (w.alloc (Obj.cells #[Value.int IntKind.i64 0, Value.slice none 0 0] 40)) 40 #[Value.int IntKind.i64 ↑n, Value.slice none 0 0]
      simpa using this
    · exact ((Below.refl _ _).alloc (Nat.le_refl _) _).alloc (by simp) _
  case round =>
    obtain ⟨wo, rfl⟩ : ∃ wo : World, wo = wr := ⟨_, rfl⟩
    obtain ⟨k, E, c, es, rfl, hk, hb4, hb5, hown, hec, hel, HE, hb⟩ := hrel
    by_cases hlt : k < n
    · have hkb : decide ((k : Int) < (n : Int)) = true := by simp; omega
      have hrl := Blk.lt (hA.row k hlt)
      go_wp2
      go_loopw [5] (fun j wr => ∃ (i : Nat) (E2 : Option Addr) (c2 : Nat) (fs : List (Int × Int)), j = .int .i64 i ∧ k + 1 ≤ i ∧ i ≤ n ∧ Blk wr w.heap.size 40 #[.int .i64 0, .slice none 0 0] ∧ Blk wr (w.heap.size + 1) 40 #[.int .i64 n, .slice E2 fs.length c2] ∧
          wr.ownsRow (w.heap.size + 2) 83 2 (.slice E2 fs.length c2) fs.length (ecells fs) ∧ fs.length ≤ c2 ∧ fs.length + 1 ≤ 64 * k + i ∧ Hid (fs = es ++ rowT t k i) ∧ Below w.heap.size w wr) (fun j _ => n - (intOf j).toNat)
      case atStart => exact ⟨k + 1, E, c, es, by go_num, by omega, by omega, hb4, hb5, hown, hec, by omega, Lib.hid (by rw [rowT_start, List.append_nil]), hb⟩
      case round =>
        clear hb4 hb5 hown hb
        obtain ⟨i, E2, c2, fs, rfl, hi1, hi2, hb4, hb5, hown, hfc, hfl, HF, hb⟩ := hrel
        by_cases hil : i < n
        · have hib : decide ((i : Int) < (n : Int)) = true := by simp; omega
          have hck := ((hA.head.keep hb hgl).cell k).trans (farr_at n _ hlt)
          have hci := (((hA.row k hlt).keep hb hrl).cell i).trans (farr_at n _ hil)
          unfold rowV at hck
          have HS := Lib.hid (rowT_succ t k i)
          have h51 := hb5.cell 1
          have f51 := hb5.frozen 1
          simp at h51
          have hszx := hb.size
          have hl5 := hb5.lt
          cases hti : t k i
          · rw [hti] at hci
            have HF2 : Hid (fs = es ++ rowT t k (i + 1)) := Lib.hid (by rw [HS.out, if_neg (by simp [hti]), List.append_nil]; exact HF.out)
            clear HF HS hti
            go_wp2
            go_roundw
            case rel => exact ⟨i + 1, E2, c2, fs, by go_num, by omega, by omega, hb4, hb5, hown, hfc, by omega, HF2, hb⟩
            case measure => simp [intOf]; omega
          · rw [hti] at hci
            have HF2 : Hid (fs ++ [((k : Int), (i : Int))] = es ++ rowT t k (i + 1)) := Lib.hid (by rw [HS.out, if_pos ⟨by omega, hti⟩, ← List.append_assoc, ← HF.out])
            clear HF HS hti
            have hne := own_blk_ne hown hb5 (by decide)
            have hne4 := own_blk_ne hown hb4 (by decide)
            have HB := Lib.hid (And.intro hb4 hb5)
            go_wp2_with (at_builtin; refine wpList_append_own_at _ rfl _ _ 38 rfl (w.heap.size + 2) 83 i0 (.agg #[.int .i64 0, .int .i64 0]) 2 16 Tryz.underlying38 hi hz0 hz1 hz2 rfl (by decide) (.slice E2 fs.length c2) _ _ rfl (hown.alloc _) ⟨wr.heap.size, 0, none⟩ 1 1 [.int .i64 k, .int .i64 i] rfl rfl ?c1 ?c2 ?c3 ?c4 ?c5 ?_
                         case c1 => exact cell_two_new' _ _ _ _
                         case c2 => simp [Value.oneCell']
                         case c3 => simp only [maxLen]; omega
                         case c4 => omega
                         case c5 => simp; omega
                         intro v' w1 hown1 hg1 _ _
                         obtain ⟨E3, c3, hv, hle3, _⟩ := Sl.of_own hown1
                         subst hv
                         have k51 := (Blk.grown (Blk.alloc HB.out.2 _) hg1 hne).cell 1
                         have g51 := (Blk.grown (Blk.alloc HB.out.2 _) hg1 hne).frozen 1
                         simp at k51)
            have hlen : (fs ++ [((k : Int), (i : Int))]).length = fs.length + 1 := by simp
            have B5 := Blk.grown (Blk.alloc HB.out.2 _) hg1 hne
            have B4 := Blk.grown (Blk.alloc HB.out.1 _) hg1 hne4
            go_roundw
            case rel =>
              refine ⟨i + 1, E3, c3, fs ++ [((k : Int), (i : Int))], by go_num, by omega, by omega, B4.far (by simp) _, ?_, ?_, by rw [hlen]; exact hle3, by rw [hlen]; omega, HF2, ?_⟩
              · have := B5.set 1 (.slice E3 (fs.length + 1) c3)
                rw [hlen]
                simpa using this
              · rw [hlen, ecells_app]
                exact own_far hown1 (own_blk_ne hown1 B5 (by decide)) _
              · exact ((hb.alloc hb.size _).grown hg1 (by simp; omega) (fun j hj => by have := (hown.lt j hj).1; omega)).setCell (by simp) _
            case measure => simp [intOf]; omega
        · have hib : decide ((i : Int) < (n : Int)) = false := by simp; omega
          obtain rfl : i = n := by omega
          go_wp2
          go_roundw
          case rel => exact ⟨k + 1, E2, c2, fs, by go_num, by omega, hb4, hb5, hown, hfc, by omega, Lib.hid (by rw [HF.out, tableEdges_succ, HE.out]), hb⟩
          case measure => simp [intOf]; omega
    · obtain rfl : k = n := by omega
      have h40 := hb4.cell 0
      have h41 := hb4.cell 1
      have f40 := hb4.frozen 0
      have f41 := hb4.frozen 1
      have h50 := hb5.cell 0
      have h51 := hb5.cell 1
      simp at h40 h41 h50 h51
      go_wp2
      refine bodyPost_ret (v := .agg #[.int .i64 k, .slice E es.length c]) (by simp [results, Tryz.results41, go_sem, h40, h41]) rfl ?_
      rw [← HE.out]
      exact ⟨E, c, rfl, hec, own_base (ownsRow_setCell_below (ownsRow_setCell_below hown (by simp) _) (by simp) _) (by omega), (hb.setCell (by simp) _).setCell (by simp) _⟩
end Go.Proofs.Tg.Gx
end
section
/- The reference's Make. -/
namespace Go.Gr
def setT (t : Nat → Nat → Bool) (a b : Nat) : Nat → Nat → Bool := fun i j => if i = a ∧ j = b then true else t i j
def joinT (t : Nat → Nat → Bool) (a b : Nat) : Nat → Nat → Bool := setT (setT t a b) b a
def readT (es : List (Int × Int)) : Nat → Nat → Bool := es.foldl (fun t e => joinT t e.1.toNat e.2.toNat) (fun _ _ => false)
theorem readT_succ {es : List (Int × Int)} {k : Nat} (hk : k < es.length) : readT (es.take (k + 1)) = joinT (readT (es.take k)) es[k].1.toNat es[k].2.toNat := by
  unfold readT
  rw [List.take_succ_eq_append_getElem hk, List.foldl_append]
  rfl
end Go.Gr
namespace Go.Proofs.Tg.Gx
open Go.RowKit Go.Gr
set_option maxHeartbeats 2000000
set_option maxRecDepth 100000
theorem TableAt.keep {w w' : World} {g n B : Nat} {t : Nat → Nat → Bool} (h : TableAt w g n t) (hb : Below B w w') (hB : w.heap.size ≤ B) : TableAt w' g n t :=
  ⟨h.head.keep hb (Nat.lt_of_lt_of_le h.head.lt hB), fun i hi => (h.row i hi).keep hb (Nat.lt_of_lt_of_le (h.row i hi).lt hB)⟩
theorem TableAt.drew {w : World} {g n : Nat} {t : Nat → Nat → Bool} (h : TableAt w g n t) : TableAt w.drew g n t := ⟨h.head, h.row⟩
theorem TableAt.drewN {w : World} {g n : Nat} {t : Nat → Nat → Bool} (h : TableAt w g n t) (k : Nat) : TableAt (w.drewN k) g n t := ⟨h.head, h.row⟩
theorem TableAt.set {w : World} {g n : Nat} {t : Nat → Nat → Bool} (h : TableAt w g n t) {a b : Nat} (ha : a < n) : TableAt (w.setCell ⟨g + 1 + a, b, none⟩ (.bool true)) g n (setT t a b) := by
  refine ⟨h.head.far (by simp; omega) _, fun i hi => ?_⟩
  by_cases e : i = a
  · subst e
    have := (h.row i hi).set b (.bool true)
    rw [farr_set] at this
    rw [show (farr n fun j => Value.bool (setT t i b i j)) = farr n (fun k => if k = b then Value.bool true else Value.bool (t i k)) from farr_congr (fun j _ => by unfold setT; by_cases hj : j = b <;> simp [hj])]
    exact this
  · have := (h.row i hi).far (p := ⟨g + 1 + a, b, none⟩) (by simp; omega) (.bool true)
    rw [show (farr n fun j => Value.bool (setT t a b i j)) = farr n (fun j => Value.bool (t i j)) from farr_congr (fun j _ => by unfold setT; simp [e])]
    exact this
def RetRMake (n : Int) (es : List (Int × Int)) (w : World) (e : Ending) (w' : World) : Prop :=
  (¬ rangeOk n es ∧ e = .returned (.tuple #[zeroG, .int .i64 3]) ∧ Below w.heap.size w w') ∨
  (rangeOk n es ∧ (∃ x ∈ es, x.1 = x.2) ∧ e = .returned (.tuple #[zeroG, .int .i64 1]) ∧ Below w.heap.size w w') ∨
  (rangeOk n es ∧ (∀ x ∈ es, x.1 ≠ x.2) ∧ ∃ F d, e = .returned (.tuple #[.agg #[.int .i64 n, .slice F (tableEdges (readT es) n.toNat n.toNat).length d], .int .i64 0]) ∧
    w'.ownsRow w.heap.size 83 2 (.slice F (tableEdges (readT es) n.toNat n.toNat).length d) (tableEdges (readT es) n.toNat n.toNat).length (ecells (tableEdges (readT es) n.toNat n.toNat)) ∧ Below w.heap.size w w')
end Go.Proofs.Tg.Gx
end
section
/- The built-in copy of at most six numbers into an array at a block's head. -/
namespace Go.Proofs.Tg
open Go.RowKit
theorem int_sz : (Tryz.prog.info? 3).map (·.size) = some 1 := by kernel_rfl
/-- Another world that differs in block g alone. -/
structure But (g : Nat) (W W' : World) : Prop where
  below : ∀ (B : Nat) (w0 : World), Below B w0 W → B ≤ g → Below B w0 W'
  blk : ∀ (g' : Nat) (t : TypeId) (cs : Array Value), g' ≠ g → Blk W g' t cs → Blk W' g' t cs
theorem wpList_copy6 {ops : Array Oper} {rest : List Oper} {o : Oper} {a : Act} {Q : Exit → Act → World → Prop} {W : World} (hgd : o.guard = none) (d s : Operand)
    (ho : o.op = .call { callee := .builtin .copy, args := #[d, s], argTypes := #[36, 36] }) (g : Nat) (t : TypeId) (A : Option Addr) (c : Nat) (el : List Int) (z : List Value)
    (hd : a.eval d = .slice (some ⟨g, 0, none⟩) 6 6) (hs : a.eval s = .slice A el.length c) (hA : Ints W A el) (hl : el.length ≤ 6)
    (hB : Blk W g t ([Value.int .i64 0, Value.int .i64 0, Value.int .i64 0, Value.int .i64 0, Value.int .i64 0, Value.int .i64 0] ++ z).toArray)
    (h : ∀ W', Blk W' g t ([Value.int .i64 (el.getD 0 0), Value.int .i64 (el.getD 1 0), Value.int .i64 (el.getD 2 0), Value.int .i64 (el.getD 3 0), Value.int .i64 (el.getD 4 0), Value.int .i64 (el.getD 5 0)] ++ z).toArray → But g W W' → wpList Tryz.prog ops Q rest (a.put o.dst (goInt el.length)) W') :
    wpList Tryz.prog ops Q (o :: rest) a W := by
  by_cases h0 : el = []
  · subst h0
    refine wpList_plain hgd fun K hK => ?_
    have hrun := run_copy_none (P := Tryz.prog) W 36 36 o.type 3 (some ⟨g, 0, none⟩) A 6 6 0 c Tryz.underlying36 int_sz rfl
    have hs' : a.eval s = .slice A 0 c := hs
    unfold Oper.wp
    simp [execOp, ho, resolve, invoke, builtin, hd, hs', hrun, Result.andThen]
    exact hK _ _ (h W hB ⟨fun _ _ h _ => h, fun _ _ _ _ h => h⟩)
  · have hp : 0 < el.length := List.length_pos_iff.2 h0
    obtain ⟨ad, rfl, _, hc⟩ := hA.lies hp
    refine wpList_copy_own hgd d s 36 36 ho 3 Tryz.underlying36 int_sz g 0 6 6 ad el.length c hd hs _ t hB (el.map vi) (by rw [List.length_map]; exact (Nat.min_eq_left hl).symm) hc (by simp; omega) (by simp [vi, Value.oneCell']) ?_
    have key : (([Value.int .i64 0, Value.int .i64 0, Value.int .i64 0, Value.int .i64 0, Value.int .i64 0, Value.int .i64 0] ++ z).toArray.toList.take 0 ++ (el.map vi ++ ([Value.int .i64 0, Value.int .i64 0, Value.int .i64 0, Value.int .i64 0, Value.int .i64 0, Value.int .i64 0] ++ z).toArray.toList.drop (0 + (el.map vi).length))).toArray
        = ([Value.int .i64 (el.getD 0 0), Value.int .i64 (el.getD 1 0), Value.int .i64 (el.getD 2 0), Value.int .i64 (el.getD 3 0), Value.int .i64 (el.getD 4 0), Value.int .i64 (el.getD 5 0)] ++ z).toArray := by
      match el, hl with
      | [], _ => exact absurd rfl h0
      | [_], _ => simp [vi]
      | [_, _], _ => simp [vi]
      | [_, _, _], _ => simp [vi]
      | [_, _, _, _], _ => simp [vi]
      | [_, _, _, _, _], _ => simp [vi]
      | [_, _, _, _, _, _], _ => simp [vi]
      | _ :: _ :: _ :: _ :: _ :: _ :: _ :: l, hl => simp at hl
    rw [key]
    have hlen : (goInt ((el.map vi).length)) = goInt el.length := by simp
    rw [hlen]
    refine h _ ?_ ⟨fun B w0 hb hg => below_setRow hb hg _, fun g' t' cs hne hb => ?_⟩
    · exact setRow_heap W g _ _ t _ hB
    · exact (setRow_other W g g' _ hne).trans hb
end Go.Proofs.Tg
end
section
/- A map to bools that the call itself has made, as a set of keys: the look-up, the store. -/
namespace Go.Proofs.Tg
open Go.RowKit Go.Maps Go.WideShapes
theorem plainElem_bool_inv {H : Type} {P : Program} {e : TypeId} (he : P.underlying e = some .bool) {v : Value} {z : DataW H × List MemPlace} (h : plainElem P e v = some z) : ∃ a, v = .bool a ∧ z = (.lit (.bool a), []) := by
  unfold plainElem at h
  rw [he] at h
  cases v <;> simp at h
  exact ⟨_, rfl, h.symm⟩
/-- The look-up in a map to bools, at the operation. -/
theorem wpList_look_bool {H : Type} {P : Program} (w : World) {ops : Array Oper} {rest : List Oper} {o : Oper} {a : Act} {Q : Exit → Act → World → Prop}
    (hg : o.guard = none) (m x : Operand) (t : TypeId) (hop : o.op = Op.lookup t m x false)
    (k e : TypeId) (K : Keyed P k) (ht : P.underlying t = some (.map k e)) (he : P.underlying e = some .bool) (hz : (zeroValue e).run P w = .ok (.bool false) w) (b n : Nat) (D : DataW H)
    (hm : a.eval m = .map (some b)) (hown : w.ownsMap P k (plainElem P e) b n D) (key : Value) (kl : Lit) (hx : a.eval x = key) (hkey : keyOf P k key = some kl) (c : Bool) (hc : D.atKey kl (.lit (.bool false)) = .lit (.bool c))
    (hK : wpList P ops Q rest (a.put o.dst (.bool c)) w) :
    wpList P ops Q (o :: rest) a w := by
  refine wpList_plain hg fun K' hK' => ?_
  obtain ⟨v, ps, hrun, hv⟩ := hown.lookup K ht hz (plainElem_bool he false) hkey
  obtain ⟨c', rfl, hv2⟩ := plainElem_bool_inv he hv
  rw [hc] at hv2
  injection hv2 with hv2 _
  injection hv2 with hv2
  injection hv2 with hv2
  subst hv2
  unfold Oper.wp
  simp [execOp, hop, hm, hx, hrun, Result.andThen]
  exact hK' _ _ hK
/-- The map holds true at just the keys of the list. -/
structure SetOK {α : Type} [DecidableEq α] (kl : α → Lit) (dom : α → Prop) (S : List α) (D : DataW Unit) : Prop where
  isMap : Maps.IsMap D
  at' : ∀ v, dom v → D.atKey (kl v) (.lit (.bool false)) = .lit (.bool (decide (v ∈ S)))
theorem SetOK.nil {α : Type} [DecidableEq α] (kl : α → Lit) (dom : α → Prop) : SetOK kl dom [] (.map []) := ⟨Maps.isMap_empty, fun v _ => by simp [DataW.atKey]⟩
theorem SetOK.put {α : Type} [DecidableEq α] {kl : α → Lit} {dom : α → Prop} {S : List α} {D : DataW Unit} (h : SetOK kl dom S D) (hk : ∀ v, dom v → WideAt.IsKeyLit (kl v)) (hi : ∀ u v, dom u → dom v → kl u = kl v → u = v) {x : α} (hx : dom x) :
    SetOK kl dom (x :: S) (D.put (kl x) (.lit (.bool true))) := by
  refine ⟨h.isMap.put _ _, fun v hv => ?_⟩
  by_cases he : v = x
  · subst he
    rw [Maps.atKey_put_same h.isMap (hk v hv)]
    simp
  · rw [Maps.atKey_put_other (fun e => he (hi v x hv hx e)), h.at' v hv]
    simp [he]
/-- The same set, told by another list. -/
theorem SetOK.congr {α : Type} [DecidableEq α] {kl : α → Lit} {dom : α → Prop} {S S' : List α} {D : DataW Unit} (h : SetOK kl dom S D) (hs : ∀ v, dom v → (v ∈ S ↔ v ∈ S')) : SetOK kl dom S' D :=
  ⟨h.isMap, fun v hv => by rw [h.at' v hv, decide_eq_decide.2 (hs v hv)]⟩
end Go.Proofs.Tg
end
section
/- What an array of six numbers reads as where it is the key of a map. -/
namespace Go.Proofs.Tg
open Go.RowKit Go.Maps Go.WideShapes
/-- The literal of a key. -/
def kl6 (l : List Int) : Lit := .string (keyBytes (l.map fun x => Lit.int .i64 x))
theorem wf_small {x : Int} (h : -1000000 ≤ x ∧ x ≤ 1000000) : (Lit.int .i64 x).wf = true := by
  have e1 : IntKind.i64.min = -9223372036854775808 := rfl
  have e2 : IntKind.i64.max = 9223372036854775807 := rfl
  simp only [Lit.wf, Bool.and_eq_true, decide_eq_true_eq]
  omega
theorem keyOf_six {P : Program} {T I : TypeId} (hT : P.underlying T = some (.array 6 I)) (hI : P.underlying I = some (.int .i64)) (hk : P.keyType T = true) (c1 : P.cellsOf I = 1) (c6 : P.cellsOf T = 6) {s : Nat} (hs : P.types.size = s + 1)
    (l : List Int) (hl : l.length = 6) (hw : ∀ x ∈ l, -1000000 ≤ x ∧ x ≤ 1000000) : keyOf P T (.agg (l.map fun x => Value.int .i64 x).toArray) = some (kl6 l) := by
  match l, hl with
  | [a, b, c, d, e, f], _ =>
    have ha := wf_small (hw a (by simp))
    have hb := wf_small (hw b (by simp))
    have hc := wf_small (hw c (by simp))
    have hd := wf_small (hw d (by simp))
    have he := wf_small (hw e (by simp))
    have hf := wf_small (hw f (by simp))
    have hr : List.range 6 = [0, 1, 2, 3, 4, 5] := rfl
    unfold keyOf
    simp [hT, hk, Value.formed, c6, Value.cells, hs, Program.keyLits, hI, c1, hr, ha, hb, hc, hd, he, hf, kl6]
end Go.Proofs.Tg
end
section
/- Vectors of bits: the reduced row echelon form of a space is the list of its reduced vectors. Plain numbers. -/
namespace Go.Ev
/-- Sums of elements of a list. -/
inductive Span (vs : List Nat) : Nat → Prop
  | zero : Span vs 0
  | add {x v : Nat} : Span vs x → v ∈ vs → Span vs (x ^^^ v)
theorem Span.mem {vs : List Nat} {v : Nat} (h : v ∈ vs) : Span vs v := by
  have := Span.add (Span.zero (vs := vs)) h
  rwa [Nat.zero_xor] at this
theorem Span.xor {vs : List Nat} {x y : Nat} (hx : Span vs x) (hy : Span vs y) : Span vs (x ^^^ y) := by
  induction hy with
  | zero => rwa [Nat.xor_zero]
  | add _ hv ih => rw [← Nat.xor_assoc]; exact ih.add hv
theorem Span.sub {vs us : List Nat} (h : ∀ v ∈ vs, Span us v) {x : Nat} (hx : Span vs x) : Span us x := by
  induction hx with
  | zero => exact .zero
  | add _ hv ih => exact ih.xor (h _ hv)
structure Space (V : Nat → Prop) (n : Nat) : Prop where
  lt : ∀ x, V x → x < 2 ^ n
  xor : ∀ x y, V x → V y → V (x ^^^ y)
/-- The state of the elimination before column i: r rows are done, row j has its first bit at p j. -/
structure EInv (V : Nat → Prop) (i : Nat) (vs : List Nat) (r : Nat) (p : Nat → Nat) : Prop where
  hr : r ≤ vs.length
  hV : ∀ v ∈ vs, V v
  span : ∀ x, V x → Span vs x
  lt : ∀ j, j < r → p j < i
  mono : ∀ j k, j < k → k < r → p j < p k
  bit : ∀ j k, j < r → k < vs.length → (vs.getD k 0).testBit (p j) = decide (k = j)
  low : ∀ j, j < r → ∀ b, b < p j → (vs.getD j 0).testBit b = false
  zero : ∀ k, r ≤ k → k < vs.length → ∀ b, b < i → (vs.getD k 0).testBit b = false
theorem EInv.start {V : Nat → Prop} {vs : List Nat} (hV : ∀ v ∈ vs, V v) (hs : ∀ x, V x → Span vs x) : EInv V 0 vs 0 (fun _ => 0) :=
  ⟨Nat.zero_le _, hV, hs, fun j h => absurd h (by omega), fun j k _ h => absurd h (by omega), fun j k h => absurd h (by omega), fun j h => absurd h (by omega), fun k _ _ b h => absurd h (by omega)⟩
theorem EInv.skip {V : Nat → Prop} {i r : Nat} {vs : List Nat} {p : Nat → Nat} (h : EInv V i vs r p) (hz : ∀ k, r ≤ k → k < vs.length → (vs.getD k 0).testBit i = false) : EInv V (i + 1) vs r p := by
  refine ⟨h.hr, h.hV, h.span, fun j hj => by have := h.lt j hj; omega, h.mono, h.bit, h.low, fun k hk hl b hb => ?_⟩
  by_cases e : b = i
  · subst e; exact hz k hk hl
  · exact h.zero k hk hl b (by omega)
/-- Two rows are exchanged. -/
def swp (vs : List Nat) (r q : Nat) : List Nat := (vs.set r (vs.getD q 0)).set q (vs.getD r 0)
theorem getD_set (vs : List Nat) (i k : Nat) (x : Nat) (hi : i < vs.length) : (vs.set i x).getD k 0 = if k = i then x else vs.getD k 0 := by
  simp only [List.getD_eq_getElem?_getD, List.getElem?_set]
  by_cases h : i = k
  · subst h; simp [hi]
  · simp [h, Ne.symm h]
theorem swp_get (vs : List Nat) {r q : Nat} (hr : r < vs.length) (hq : q < vs.length) (k : Nat) : (swp vs r q).getD k 0 = vs.getD (if k = q then r else if k = r then q else k) 0 := by
  unfold swp
  rw [getD_set _ _ _ _ (by simpa using hq), getD_set _ _ _ _ hr]
  by_cases h1 : k = q
  · simp [h1]
  · rw [if_neg h1, if_neg h1]
    by_cases h2 : k = r
    · rw [if_pos h2, if_pos h2]
    · rw [if_neg h2, if_neg h2]
theorem swp_len (vs : List Nat) (r q : Nat) : (swp vs r q).length = vs.length := by simp [swp]
theorem mem_getD {vs : List Nat} {v : Nat} : v ∈ vs ↔ ∃ k, k < vs.length ∧ vs.getD k 0 = v := by
  rw [List.mem_iff_getElem]
  constructor
  · rintro ⟨k, hk, e⟩
    exact ⟨k, hk, by rw [List.getD_eq_getElem?_getD, List.getElem?_eq_getElem hk, Option.getD_some]; exact e⟩
  · rintro ⟨k, hk, e⟩
    exact ⟨k, hk, by rw [List.getD_eq_getElem?_getD, List.getElem?_eq_getElem hk, Option.getD_some] at e; exact e⟩
theorem EInv.swap {V : Nat → Prop} {i r q : Nat} {vs : List Nat} {p : Nat → Nat} (h : EInv V i vs r p) (hrq : r ≤ q) (hq : q < vs.length) : EInv V i (swp vs r q) r p := by
  have hrl : r < vs.length := by omega
  have hg := swp_get vs hrl hq
  have hsw : ∀ k, k < vs.length → (if k = q then r else if k = r then q else k) < vs.length := by intro k hk; split; exact hrl; split; exact hq; exact hk
  refine ⟨by rw [swp_len]; exact h.hr, ?_, ?_, h.lt, h.mono, ?_, ?_, ?_⟩
  · intro v hv
    obtain ⟨k, hk, rfl⟩ := mem_getD.1 hv
    rw [swp_len] at hk
    rw [hg]
    exact h.hV _ (mem_getD.2 ⟨_, hsw k hk, rfl⟩)
  · intro x hx
    refine Span.sub (fun v hv => ?_) (h.span x hx)
    obtain ⟨k, hk, rfl⟩ := mem_getD.1 hv
    refine Span.mem (mem_getD.2 ⟨_, by rw [swp_len]; exact hsw k hk, ?_⟩)
    rw [hg]
    congr 1
    by_cases h1 : k = q
    · subst h1; by_cases h2 : r = k <;> simp [h2]
    · by_cases h2 : k = r <;> simp [h1, h2]
  · intro j k hj hk
    rw [swp_len] at hk
    rw [hg, h.bit j _ hj (hsw k hk)]
    by_cases h1 : k = q
    · subst h1; simp; omega
    · by_cases h2 : k = r
      · subst h2; simp [h1]; omega
      · simp [h1, h2]
  · intro j hj b hb
    rw [hg, if_neg (by omega), if_neg (by omega)]
    exact h.low j hj b hb
  · intro k hk hl b hb
    rw [swp_len] at hl
    rw [hg]
    refine h.zero _ ?_ (hsw k hl) b hb
    split
    · exact Nat.le_refl _
    · split <;> omega
/-- The rows before k but r have lost the bit i. -/
def elim (vs : List Nat) (i r k : Nat) : List Nat := (List.range vs.length).map fun j => if j < k ∧ j ≠ r ∧ (vs.getD j 0).testBit i = true then vs.getD j 0 ^^^ vs.getD r 0 else vs.getD j 0
theorem elim_len (vs : List Nat) (i r k : Nat) : (elim vs i r k).length = vs.length := by simp [elim]
theorem elim_get (vs : List Nat) (i r k j : Nat) (hj : j < vs.length) : (elim vs i r k).getD j 0 = if j < k ∧ j ≠ r ∧ (vs.getD j 0).testBit i = true then vs.getD j 0 ^^^ vs.getD r 0 else vs.getD j 0 := by
  unfold elim
  rw [List.getD_eq_getElem?_getD, List.getElem?_map, List.getElem?_range hj]; rfl
theorem ext_getD {a b : List Nat} (hl : a.length = b.length) (h : ∀ j, j < a.length → a.getD j 0 = b.getD j 0) : a = b := by
  refine List.ext_getElem hl fun j h1 h2 => ?_
  have := h j h1
  rwa [List.getD_eq_getElem?_getD, List.getD_eq_getElem?_getD, List.getElem?_eq_getElem h1, List.getElem?_eq_getElem h2] at this
theorem elim_zero (vs : List Nat) (i r : Nat) : elim vs i r 0 = vs :=
  ext_getD (elim_len _ _ _ _) fun j hj => by rw [elim_len] at hj; rw [elim_get _ _ _ _ _ hj, if_neg (by omega)]
theorem elim_skip (vs : List Nat) (i r k : Nat) (h : ¬ (k ≠ r ∧ (vs.getD k 0).testBit i = true)) : elim vs i r (k + 1) = elim vs i r k :=
  ext_getD (by rw [elim_len, elim_len]) fun j hj => by
    rw [elim_len] at hj
    rw [elim_get _ _ _ _ _ hj, elim_get _ _ _ _ _ hj]
    by_cases e : j = k
    · subst e; rw [if_neg (fun h' => h h'.2), if_neg (by omega)]
    · by_cases h2 : j < k
      · simp [h2, show j < k + 1 by omega]
      · simp [h2, show ¬ j < k + 1 by omega]
theorem elim_put (vs : List Nat) (i r k : Nat) (hk : k < vs.length) (h : k ≠ r ∧ (vs.getD k 0).testBit i = true) : elim vs i r (k + 1) = (elim vs i r k).set k (vs.getD k 0 ^^^ vs.getD r 0) :=
  ext_getD (by rw [List.length_set, elim_len, elim_len]) fun j hj => by
    rw [elim_len] at hj
    rw [getD_set _ _ _ _ (by rw [elim_len]; exact hk), elim_get _ _ _ _ _ hj, elim_get _ _ _ _ _ hj]
    by_cases e : j = k
    · subst e; rw [if_pos ⟨by omega, h⟩, if_pos rfl]
    · by_cases h2 : j < k
      · simp [h2, e, show j < k + 1 by omega]
      · simp [h2, e, show ¬ j < k + 1 by omega]
theorem elim_self (vs : List Nat) (i r k : Nat) (hr : r < vs.length) : (elim vs i r k).getD r 0 = vs.getD r 0 := by
  rw [elim_get _ _ _ _ _ hr, if_neg (fun h => h.2.1 rfl)]
theorem EInv.elim {V : Nat → Prop} {n i r : Nat} {vs : List Nat} {p : Nat → Nat} (hS : Space V n) (h : EInv V i vs r p) (hr : r < vs.length) (hb : (vs.getD r 0).testBit i = true) :
    EInv V (i + 1) (Ev.elim vs i r vs.length) (r + 1) (fun j => if j = r then i else p j) := by
  have hg : ∀ k, k < vs.length → (Ev.elim vs i r vs.length).getD k 0 = if k ≠ r ∧ (vs.getD k 0).testBit i = true then vs.getD k 0 ^^^ vs.getD r 0 else vs.getD k 0 := by
    intro k hk
    rw [elim_get _ _ _ _ _ hk]
    simp [hk]
  have hbi : ∀ k, k < vs.length → ((Ev.elim vs i r vs.length).getD k 0).testBit i = decide (k = r) := by
    intro k hk
    rw [hg k hk]
    by_cases e : k = r
    · subst e; simpa using hb
    · by_cases e2 : (vs.getD k 0).testBit i = true
      · rw [if_pos ⟨e, e2⟩, Nat.testBit_xor, e2, hb]; simp [e]
      · rw [if_neg (fun h => e2 h.2)]; simp [e]; simpa using e2
  have hlow : ∀ k, k < vs.length → ∀ b, b < i → ((Ev.elim vs i r vs.length).getD k 0).testBit b = (vs.getD k 0).testBit b := by
    intro k hk b hbi'
    rw [hg k hk]
    split
    · rw [Nat.testBit_xor, h.zero r (Nat.le_refl _) hr b hbi']; simp
    · rfl
  refine ⟨by rw [elim_len]; omega, ?_, ?_, ?_, ?_, ?_, ?_, ?_⟩
  · intro v hv
    obtain ⟨k, hk, rfl⟩ := mem_getD.1 hv
    rw [elim_len] at hk
    rw [hg k hk]
    split
    · exact hS.xor _ _ (h.hV _ (mem_getD.2 ⟨k, hk, rfl⟩)) (h.hV _ (mem_getD.2 ⟨r, hr, rfl⟩))
    · exact h.hV _ (mem_getD.2 ⟨k, hk, rfl⟩)
  · intro x hx
    refine Span.sub (fun v hv => ?_) (h.span x hx)
    obtain ⟨k, hk, rfl⟩ := mem_getD.1 hv
    have hm : ∀ k, k < vs.length → Span (Ev.elim vs i r vs.length) ((Ev.elim vs i r vs.length).getD k 0) := fun k hk => Span.mem (mem_getD.2 ⟨k, by rw [elim_len]; exact hk, rfl⟩)
    have h1 := hm k hk
    have h2 := hm r hr
    rw [elim_self _ _ _ _ hr] at h2
    rw [hg k hk] at h1
    split at h1
    · have := h1.xor h2
      rwa [Nat.xor_assoc, Nat.xor_self, Nat.xor_zero] at this
    · exact h1
  · intro j hj
    show (if j = r then i else p j) < i + 1
    split
    · omega
    · have := h.lt j (by omega); omega
  · intro j k hjk hk
    show (if j = r then i else p j) < (if k = r then i else p k)
    rw [if_neg (by omega)]
    split
    · exact h.lt j (by omega)
    · exact h.mono j k hjk (by omega)
  · intro j k hj hk
    rw [elim_len] at hk
    show ((Ev.elim vs i r vs.length).getD k 0).testBit (if j = r then i else p j) = decide (k = j)
    split
    · rename_i e; rw [hbi k hk, e]
    · rw [hlow k hk _ (h.lt j (by omega)), h.bit j k (by omega) hk]
  · intro j hj b hbj
    have hbj : b < (if j = r then i else p j) := hbj
    by_cases e : j = r
    · subst e
      rw [if_pos rfl] at hbj
      rw [hlow j hr b hbj]
      exact h.zero j (Nat.le_refl _) hr b hbj
    · rw [if_neg e] at hbj
      have := h.lt j (by omega)
      rw [hlow j (by omega) b (by omega)]
      exact h.low j (by omega) b hbj
  · intro k hk hl b hbk
    rw [elim_len] at hl
    by_cases e : b = i
    · subst e; rw [hbi k hl]; simp; omega
    · rw [hlow k hl b (by omega)]
      exact h.zero k (by omega) hl b (by omega)
/-! What the last state says. -/
def Lead (x k : Nat) : Prop := x.testBit k = true ∧ ∀ b, b < k → x.testBit b = false
/-- The sum of the first m rows, row j taken where x has the bit p j. -/
def comb (vs : List Nat) (p : Nat → Nat) (x : Nat) : Nat → Nat
  | 0 => 0
  | m + 1 => comb vs p x m ^^^ (if x.testBit (p m) = true then vs.getD m 0 else 0)
theorem comb_zero (vs : List Nat) (p : Nat → Nat) : ∀ m, comb vs p 0 m = 0
  | 0 => rfl
  | m + 1 => by simp [comb, comb_zero vs p m]
theorem zero_of_bits {n x : Nat} (hx : x < 2 ^ n) (h : ∀ b, b < n → x.testBit b = false) : x = 0 := by
  refine Nat.eq_of_testBit_eq fun b => ?_
  rw [Nat.zero_testBit]
  by_cases hb : b < n
  · exact h b hb
  · exact Nat.testBit_lt_two_pow (Nat.lt_of_lt_of_le hx (Nat.pow_le_pow_right (by omega) (by omega)))
theorem comb_add {V : Nat → Prop} {n r : Nat} {vs : List Nat} {p : Nat → Nat} (h : EInv V n vs r p) (hS : Space V n) (x k : Nat) (hk : k < vs.length) :
    ∀ m, m ≤ r → comb vs p (x ^^^ vs.getD k 0) m = comb vs p x m ^^^ (if k < m then vs.getD k 0 else 0)
  | 0, _ => by simp [comb]
  | m + 1, hm => by
    have ih := comb_add h hS x k hk m (by omega)
    simp only [comb, ih, Nat.testBit_xor, h.bit m k (by omega) hk]
    by_cases e : k = m
    · subst e
      simp
      cases hx : x.testBit (p k)
      · simp
      · simp [Nat.xor_assoc]
    · by_cases hl : k < m
      · simp only [e, hl, show k < m + 1 by omega, decide_false, Bool.xor_false, if_true]
        rw [Nat.xor_assoc, Nat.xor_assoc, Nat.xor_comm (vs.getD k 0)]
      · simp [e, hl, show ¬ k < m + 1 by omega]
theorem comb_eq {V : Nat → Prop} {n r : Nat} {vs : List Nat} {p : Nat → Nat} (h : EInv V n vs r p) (hS : Space V n) {x : Nat} (hx : V x) : comb vs p x r = x := by
  have : ∀ y, Span vs y → comb vs p y r = y := by
    intro y hy
    induction hy with
    | zero => exact comb_zero _ _ _
    | add _ hv ih =>
      obtain ⟨k, hk, rfl⟩ := mem_getD.1 hv
      rw [comb_add h hS _ k hk r (Nat.le_refl _), ih]
      by_cases hl : k < r
      · rw [if_pos hl]
      · rw [if_neg hl, zero_of_bits (hS.lt _ (h.hV _ hv)) (h.zero k (by omega) hk)]
  exact this x (h.span x hx)
theorem comb_low {V : Nat → Prop} {n r : Nat} {vs : List Nat} {p : Nat → Nat} (h : EInv V n vs r p) (x b : Nat) : ∀ m, m ≤ r → (∀ j, j < m → x.testBit (p j) = true → b < p j) → (comb vs p x m).testBit b = false
  | 0, _, _ => by simp [comb]
  | m + 1, hm, hj => by
    rw [comb, Nat.testBit_xor, comb_low h x b m (by omega) (fun j h1 => hj j (by omega))]
    split
    · rename_i e
      rw [h.low m (by omega) b (hj m (by omega) e)]; rfl
    · simp
theorem exists_least {P : Nat → Prop} : ∀ {r : Nat}, (∃ j, j < r ∧ P j) → ∃ j, j < r ∧ P j ∧ ∀ k, k < j → ¬ P k
  | 0, ⟨j, h, _⟩ => absurd h (by omega)
  | r + 1, ⟨j, h, hp⟩ => by
    by_cases h2 : ∃ j, j < r ∧ P j
    · obtain ⟨k, h3, h4⟩ := exists_least h2
      exact ⟨k, by omega, h4⟩
    · have : j = r := by
        rcases Nat.lt_or_ge j r with h3 | h3
        · exact absurd ⟨j, h3, hp⟩ h2
        · omega
      subst this
      exact ⟨j, h, hp, fun k hk hpk => h2 ⟨k, hk, hpk⟩⟩
/-- Every vector of the space but 0 has its first bit where a row has. -/
theorem lead_of {V : Nat → Prop} {n r : Nat} {vs : List Nat} {p : Nat → Nat} (h : EInv V n vs r p) (hS : Space V n) {x : Nat} (hx : V x) (h0 : x ≠ 0) : ∃ j, j < r ∧ Lead x (p j) := by
  have hc := comb_eq h hS hx
  have hex : ∃ j, j < r ∧ x.testBit (p j) = true := by
    apply Classical.byContradiction
    intro hno
    apply h0
    rw [← hc]
    refine Nat.eq_of_testBit_eq fun b => ?_
    rw [Nat.zero_testBit]
    exact comb_low h x b r (Nat.le_refl _) (fun j h1 h2 => absurd ⟨j, h1, h2⟩ hno)
  obtain ⟨j, h1, h2, h3⟩ := exists_least hex
  refine ⟨j, h1, h2, fun b hb => ?_⟩
  rw [← hc]
  refine comb_low h x b r (Nat.le_refl _) (fun k hk hk2 => ?_)
  rcases Nat.lt_trichotomy k j with e | e | e
  · exact absurd hk2 (by simpa using h3 k e)
  · subst e; exact hb
  · have := h.mono j k e hk; omega
theorem row_lead {V : Nat → Prop} {n r : Nat} {vs : List Nat} {p : Nat → Nat} (h : EInv V n vs r p) {j : Nat} (hj : j < r) : Lead (vs.getD j 0) (p j) :=
  ⟨by rw [h.bit j j hj (by have := h.hr; omega)]; simp, h.low j hj⟩
theorem Lead.inj {x a b : Nat} (ha : Lead x a) (hb : Lead x b) : a = b := by
  rcases Nat.lt_trichotomy a b with h | h | h
  · have := hb.2 a h; rw [ha.1] at this; cases this
  · exact h
  · have := ha.2 b h; rw [hb.1] at this; cases this
/-- A vector that is 0 wherever another vector of the space has its first bit behind its own first bit. -/
def Red (V : Nat → Prop) (x : Nat) : Prop := ∀ t k l, V t → Lead t k → Lead x l → l < k → x.testBit k = false
theorem row_red {V : Nat → Prop} {n r : Nat} {vs : List Nat} {p : Nat → Nat} (h : EInv V n vs r p) (hS : Space V n) {j : Nat} (hj : j < r) : Red V (vs.getD j 0) := by
  intro t k l ht hk hl hlk
  have e := (row_lead h hj).inj hl
  subst e
  have h0 : t ≠ 0 := by rintro rfl; have := hk.1; simp at this
  obtain ⟨m, hm, hml⟩ := lead_of h hS ht h0
  have e2 := hml.inj hk
  subst e2
  rw [h.bit m j hm (by have := h.hr; omega)]
  have : j ≠ m := by rintro rfl; omega
  simp [this]
theorem xor_zero {x y : Nat} (h : x ^^^ y = 0) : x = y := by
  have : x ^^^ y ^^^ y = y := by rw [h, Nat.zero_xor]
  rwa [Nat.xor_assoc, Nat.xor_self, Nat.xor_zero] at this
theorem lt_bits {x y i : Nat} (hx : x.testBit i = false) (hy : y.testBit i = true) (h : ∀ j, i < j → x.testBit j = y.testBit j) : x < y := by
  rw [Nat.testBit_eq_decide_div_mod_eq, decide_eq_false_iff_not] at hx
  rw [Nat.testBit_eq_decide_div_mod_eq, decide_eq_true_eq] at hy
  have e : x / 2 ^ i / 2 = y / 2 ^ i / 2 := by
    refine Nat.eq_of_testBit_eq fun j => ?_
    have := h (i + 1 + j) (by omega)
    rw [Nat.div_div_eq_div_mul, Nat.div_div_eq_div_mul, ← Nat.pow_succ, Nat.testBit_div_two_pow, Nat.testBit_div_two_pow]
    rwa [show j + i.succ = i + 1 + j by omega]
  have hlt : x / 2 ^ i < y / 2 ^ i := by omega
  rcases Nat.lt_or_ge x y with h1 | h1
  · exact h1
  · have := Nat.div_le_div_right (c := 2 ^ i) h1
    omega
theorem red_row {V : Nat → Prop} {n r : Nat} {vs : List Nat} {p : Nat → Nat} (h : EInv V n vs r p) (hS : Space V n) {x : Nat} (hx : V x) (h0 : x ≠ 0) (hr : Red V x) : ∃ j, j < r ∧ x = vs.getD j 0 := by
  obtain ⟨j, hj, hl⟩ := lead_of h hS hx h0
  refine ⟨j, hj, ?_⟩
  have hjl : j < vs.length := by have := h.hr; omega
  have hrow := row_lead h hj
  have hVr := h.hV _ (mem_getD.2 ⟨j, hjl, rfl⟩)
  apply Classical.byContradiction
  intro hne
  have hd : x ^^^ vs.getD j 0 ≠ 0 := fun e => hne (xor_zero e)
  have hVd := hS.xor _ _ hx hVr
  obtain ⟨m, hm, hml⟩ := lead_of h hS hVd hd
  have hlt : p j < p m := by
    rcases Nat.lt_trichotomy (p m) (p j) with e | e | e
    · have := hml.1
      rw [Nat.testBit_xor, hl.2 _ e, hrow.2 _ e] at this; cases this
    · have := hml.1
      rw [e, Nat.testBit_xor, hl.1, hrow.1] at this; cases this
    · exact e
  have a1 := hr _ _ _ hVd hml hl hlt
  have a2 := row_red h hS hj _ _ _ hVd hml hrow hlt
  have := hml.1
  rw [Nat.testBit_xor, a1, a2] at this; cases this
/-! The reference goes through all vectors, the greatest first when the first position counts most. -/
def rev (n v : Nat) : Nat := (List.range n).foldl (fun x i => if v.testBit (n - 1 - i) = true then x ||| 2 ^ i else x) 0
theorem rev_fold (n v m b : Nat) : ((List.range m).foldl (fun x i => if v.testBit (n - 1 - i) = true then x ||| 2 ^ i else x) 0).testBit b = (decide (b < m) && v.testBit (n - 1 - b)) := by
  induction m with
  | zero => simp
  | succ m ih =>
    rw [List.range_succ, List.foldl_append]
    simp only [List.foldl_cons, List.foldl_nil]
    split
    · rename_i h
      rw [Nat.testBit_or, ih, Nat.testBit_two_pow]
      by_cases e : b = m
      · subst e; simp [h]
      · simp [Ne.symm e]
        by_cases h1 : b < m
        · simp [h1, show b < m + 1 by omega]
        · simp [h1, show ¬ b < m + 1 by omega]
    · rename_i h
      rw [ih]
      by_cases e : b = m
      · subst e; simp; simpa using h
      · by_cases h1 : b < m
        · simp [h1, show b < m + 1 by omega]
        · simp [h1, show ¬ b < m + 1 by omega]
theorem rev_bit (n v b : Nat) : (rev n v).testBit b = (decide (b < n) && v.testBit (n - 1 - b)) := rev_fold n v n b
theorem rev_lt (n v : Nat) : rev n v < 2 ^ n := by
  apply Nat.lt_pow_two_of_testBit
  intro i hi
  rw [rev_bit]; simp; omega
theorem rev_rev {n v : Nat} (hv : v < 2 ^ n) : rev n (rev n v) = v := by
  refine Nat.eq_of_testBit_eq fun b => ?_
  rw [rev_bit, rev_bit]
  by_cases hb : b < n
  · simp [hb, show n - 1 - b < n by omega, show n - 1 - (n - 1 - b) = b by omega]
  · simp [hb]
    exact (Nat.testBit_lt_two_pow (Nat.lt_of_lt_of_le hv (Nat.pow_le_pow_right (n := 2) (by omega) (by omega : n ≤ b))))
theorem rev_zero {n v : Nat} (hv : v < 2 ^ n) : rev n v = 0 ↔ v = 0 := by
  constructor
  · intro h
    rw [← rev_rev hv, h]
    refine Nat.eq_of_testBit_eq fun b => ?_
    rw [rev_bit]; simp
  · rintro rfl
    refine Nat.eq_of_testBit_eq fun b => ?_
    rw [rev_bit]; simp
theorem lead_exists {x : Nat} (h : x ≠ 0) : ∃ k, Lead x k := by
  obtain ⟨b, hb⟩ := Nat.exists_testBit_of_ne_zero h
  obtain ⟨j, _, h2, h3⟩ := exists_least (P := fun j => x.testBit j = true) (r := b + 1) ⟨b, by omega, hb⟩
  exact ⟨j, h2, fun k hk => by simpa using h3 k hk⟩
theorem lead_lt {n x k : Nat} (hx : x < 2 ^ n) (h : Lead x k) : k < n := by
  rcases Nat.lt_or_ge k n with h1 | h1
  · exact h1
  · have := Nat.testBit_lt_two_pow (Nat.lt_of_lt_of_le hx (Nat.pow_le_pow_right (by omega) h1))
    rw [h.1] at this; cases this
theorem rev_order {n x y a b : Nat} (hx : x < 2 ^ n) (hxl : Lead x a) (hyl : Lead y b) (h : a < b) : rev n y < rev n x := by
  have ha := lead_lt hx hxl
  refine lt_bits (i := n - 1 - a) ?_ ?_ fun j hj => ?_
  · rw [rev_bit, show n - 1 - (n - 1 - a) = a by omega, hyl.2 a h]; simp
  · rw [rev_bit, show n - 1 - (n - 1 - a) = a by omega, hxl.1]; simp; omega
  · rw [rev_bit, rev_bit]
    by_cases hjn : j < n
    · rw [hxl.2 (n - 1 - j) (by omega), hyl.2 (n - 1 - j) (by omega)]
    · simp [hjn]
theorem sorted_eq {R : Nat → Nat → Prop} (irr : ∀ a, ¬ R a a) (asy : ∀ a b, R a b → ¬ R b a) : ∀ (l m : List Nat), l.Pairwise R → m.Pairwise R → (∀ x, x ∈ l ↔ x ∈ m) → l = m
  | [], [], _, _, _ => rfl
  | [], y :: m, _, _, h => absurd ((h y).2 (by simp)) (by simp)
  | x :: l, [], _, _, h => absurd ((h x).1 (by simp)) (by simp)
  | x :: l, y :: m, hl, hm, h => by
    obtain ⟨l1, l2⟩ := List.pairwise_cons.1 hl
    obtain ⟨m1, m2⟩ := List.pairwise_cons.1 hm
    have e : x = y := by
      apply Classical.byContradiction
      intro ne
      have hx : x ∈ m := by
        rcases List.mem_cons.1 ((h x).1 (by simp)) with e | e
        · exact absurd e ne
        · exact e
      have hy : y ∈ l := by
        rcases List.mem_cons.1 ((h y).2 (by simp)) with e | e
        · exact absurd e.symm ne
        · exact e
      exact asy _ _ (m1 x hx) (l1 y hy)
    subst e
    congr 1
    refine sorted_eq irr asy l m l2 m2 fun z => ?_
    constructor
    · intro hz
      rcases List.mem_cons.1 ((h z).1 (List.mem_cons_of_mem _ hz)) with e | e
      · subst e; exact absurd (l1 _ hz) (irr _)
      · exact e
    · intro hz
      rcases List.mem_cons.1 ((h z).2 (List.mem_cons_of_mem _ hz)) with e | e
      · subst e; exact absurd (m1 _ hz) (irr _)
      · exact e
/-- The vectors that the reference keeps out of the first k that it looks at. -/
def kern (keep : Nat → Bool) (n k : Nat) : List Nat := (((List.range k).map fun t => rev n (2 ^ n - 1 - t)).filter keep)
theorem kern_succ (keep : Nat → Bool) (n k : Nat) : kern keep n (k + 1) = kern keep n k ++ (if keep (rev n (2 ^ n - 1 - k)) = true then [rev n (2 ^ n - 1 - k)] else []) := by
  unfold kern
  rw [List.range_succ, List.map_append, List.filter_append]
  congr 1
  simp only [List.map_cons, List.map_nil, List.filter_cons, List.filter_nil]
/-- The rows of the elimination are what the reference keeps. -/
theorem rows_kern {V : Nat → Prop} {n r : Nat} {vs : List Nat} {p : Nat → Nat} (h : EInv V n vs r p) (hS : Space V n) (keep : Nat → Bool) (hk : ∀ x, x ≠ 0 → x < 2 ^ n → (keep x = true ↔ V x ∧ Red V x)) :
    vs.take r = kern keep n (2 ^ n - 1) := by
  have hpos : 0 < 2 ^ n := Nat.two_pow_pos n
  have hrl := h.hr
  have hgd : ∀ j (hj : j < (vs.take r).length), (vs.take r)[j] = vs.getD j 0 := by
    intro j hj
    have hj' : j < vs.length := by simp at hj; omega
    rw [List.getElem_take, List.getD_eq_getElem?_getD, List.getElem?_eq_getElem hj', Option.getD_some]
  have hVr : ∀ j, j < r → V (vs.getD j 0) := fun j hj => h.hV _ (mem_getD.2 ⟨j, by omega, rfl⟩)
  refine sorted_eq (R := fun x y => rev n y < rev n x) (fun a => Nat.lt_irrefl _) (fun a b h1 h2 => by omega) _ _ ?_ ?_ ?_
  · rw [List.pairwise_iff_getElem]
    intro i j hi hj hij
    rw [hgd i hi, hgd j hj]
    have hj' : j < r := by simp at hj; omega
    exact rev_order (hS.lt _ (hVr i (by omega))) (row_lead h (by omega)) (row_lead h hj') (h.mono i j hij hj')
  · unfold kern
    refine List.Pairwise.filter _ ?_
    rw [List.pairwise_map]
    refine List.Pairwise.imp_of_mem ?_ (List.pairwise_lt_range (n := 2 ^ n - 1))
    intro a b ha hb hab
    have ha := List.mem_range.1 ha
    have hb := List.mem_range.1 hb
    rw [rev_rev (by omega), rev_rev (by omega)]
    omega
  · intro x
    constructor
    · intro hx
      obtain ⟨j, hj, e⟩ := List.mem_iff_getElem.1 hx
      rw [hgd j hj] at e
      have hj' : j < r := by simp at hj; omega
      subst e
      have hlt := hS.lt _ (hVr j hj')
      have h0 : vs.getD j 0 ≠ 0 := by intro e; have := (row_lead h hj').1; rw [e] at this; simp at this
      unfold kern
      refine List.mem_filter.2 ⟨List.mem_map.2 ⟨2 ^ n - 1 - rev n (vs.getD j 0), List.mem_range.2 ?_, ?_⟩, (hk _ h0 hlt).2 ⟨hVr j hj', row_red h hS hj'⟩⟩
      · have : rev n (vs.getD j 0) ≠ 0 := fun e => h0 ((rev_zero hlt).1 e)
        have := rev_lt n (vs.getD j 0)
        omega
      · have := rev_lt n (vs.getD j 0)
        rw [show 2 ^ n - 1 - (2 ^ n - 1 - rev n (vs.getD j 0)) = rev n (vs.getD j 0) by omega, rev_rev hlt]
    · intro hx
      obtain ⟨h1, h2⟩ := List.mem_filter.1 hx
      obtain ⟨t, ht, rfl⟩ := List.mem_map.1 h1
      have ht := List.mem_range.1 ht
      have hlt := rev_lt n (2 ^ n - 1 - t)
      have h0 : rev n (2 ^ n - 1 - t) ≠ 0 := fun e => by have := (rev_zero (n := n) (by omega)).1 e; omega
      obtain ⟨h3, h4⟩ := (hk _ h0 hlt).1 h2
      obtain ⟨j, hj, e⟩ := red_row h hS h3 h0 h4
      rw [e]
      refine List.mem_iff_getElem.2 ⟨j, by simp; omega, ?_⟩
      rw [hgd j (by simp; omega)]
end Go.Ev
end
