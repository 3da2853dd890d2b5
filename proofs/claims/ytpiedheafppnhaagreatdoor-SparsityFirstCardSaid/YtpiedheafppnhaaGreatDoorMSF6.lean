/- Parts of the proof: GWQ, GWR, GXF, GXK, GXN, GXL, GChordal, GPD, GPE. -/
import Derived.Laws.CopyOwn
import Derived.StillTailTactics
import Derived.Test.YtpiedheafppnhaaGreatDoorMSF4
import Derived.Test.YtpiedheafppnhaaGreatDoorMSF5
section
/- Comparisons of lists in the statements. -/
namespace Go.Proofs.Tg.Gx
open Go.RowKit Go.Gr
set_option maxHeartbeats 1000000
set_option maxRecDepth 100000
/-- The world has turned in draws alone. -/
def Dr (w w' : World) : Prop := ∃ n, w' = w.drewN n
theorem Dr.refl (w : World) : Dr w w := ⟨0, rfl⟩
theorem Dr.below {w w' : World} (h : Dr w w') : Below w.heap.size w w' := by
  obtain ⟨n, rfl⟩ := h
  exact below_drewN (Below.refl _ _) n
theorem Dr.drewN {w w' : World} (h : Dr w w') (k : Nat) : Dr w (w'.drewN k) := by
  obtain ⟨n, rfl⟩ := h
  exact ⟨n + k, by rw [World.drewN_drewN]⟩
theorem ints_any (A B : Option Addr) (xs ys : List Int) (c d : Nat) (w : World) (hx : Ints w A xs) (hy : Ints w B ys) (hn : xs.length ≤ 1000000) :
    Calls Tryz.prog 14 #[.slice A xs.length c, .slice B ys.length d] w fun e w' => e = .returned (.bool (decide (xs = ys))) ∧ Dr w w' := by
  by_cases hl : xs.length = ys.length
  · have hb : ((xs.length : Int) != (ys.length : Int)) = false := by simp [hl]
    have HL := Lib.hid hl; clear hl
    go_enter Tryz.func14, Tryz.ntmps14
    go_wp2
    go_loopw [5] (fun i wr => ∃ k : Nat, k ≤ xs.length ∧ i = .int .i64 k ∧ Hid (xs.take k = ys.take k) ∧ Dr w wr) (fun i _ => xs.length - (intOf i).toNat)
    case atStart => exact ⟨0, Nat.zero_le _, rfl, Lib.hid (by simp), Dr.refl _⟩
    case round =>
      obtain ⟨k, hk, rfl, HT, hbw⟩ := hrel
      by_cases hlt : k < xs.length
      · have hky : k < ys.length := by have := HL.out; omega
        obtain ⟨ad, rfl, hc⟩ := Ints.at (hx.keep hbw.below) hlt
        obtain ⟨bd, rfl, hd⟩ := Ints.at (hy.keep hbw.below) hky
        have HX : Hid (xs.take (k + 1) = xs.take k ++ [xs[k]]) := Lib.hid (List.take_succ_eq_append_getElem hlt)
        have HY : Hid (ys.take (k + 1) = ys.take k ++ [ys[k]]) := Lib.hid (List.take_succ_eq_append_getElem hky)
        have HNE : Hid (xs = ys → xs[k] = ys[k]) := Lib.hid (fun e => by subst e; rfl)
        clear hx hy
        generalize xs[k] = x at hc HX HNE
        generalize ys[k] = y at hd HY HNE
        by_cases heq : x = y
        · have hbb : (x != y) = false := by simp [heq]
          have HE := Lib.hid heq; clear heq
          go_wp2
          go_quiet (fail)
          go_wp2
          go_roundw
          case rel => exact ⟨k + 1, by omega, by go_num, Lib.hid (by rw [HX.out, HY.out, HT.out, HE.out]), hbw.drewN _⟩
          case measure => simp [intOf]; omega
        · have hbb : (x != y) = true := by simp [heq]
          have HF : Hid (decide (xs = ys) = false) := Lib.hid (decide_eq_false (fun e => heq (HNE.out e)))
          clear heq
          go_wp2
          go_quiet (fail)
          go_wp2
          go_ret
          exact ⟨by rw [HF.out]; rfl, hbw.drewN _⟩
      · have HF : Hid (decide (xs = ys) = true) := Lib.hid (decide_eq_true (by
          have := HT.out
          rwa [List.take_of_length_le (by omega), List.take_of_length_le (by have := HL.out; omega)] at this))
        go_wp2
        go_ret
        exact ⟨by rw [HF.out]; rfl, hbw⟩
  · have hb : ((xs.length : Int) != (ys.length : Int)) = true := by simp; omega
    have HF : Hid (decide (xs = ys) = false) := Lib.hid (decide_eq_false (fun e => hl (by rw [e])))
    clear hl
    go_enter Tryz.func14, Tryz.ntmps14
    go_wp2
    go_ret
    exact ⟨by rw [HF.out]; rfl, Dr.refl _⟩
theorem lists_any (A B : Option Addr) (xs ys : List (List Int)) (c d : Nat) (w : World) (hx : Lists w A xs) (hy : Lists w B ys) (hn : xs.length ≤ 1000000) (hi : ∀ l ∈ xs, l.length ≤ 1000000) :
    Calls Tryz.prog 11 #[.slice A xs.length c, .slice B ys.length d] w fun e w' => e = .returned (.bool (decide (xs = ys))) ∧ Dr w w' := by
  have HI := Lib.hid hi
  clear hi
  by_cases hl : xs.length = ys.length
  · have hb : ((xs.length : Int) != (ys.length : Int)) = false := by simp [hl]
    have HL := Lib.hid hl; clear hl
    go_enter Tryz.func11, Tryz.ntmps11
    go_wp2
    go_loopw [5] (fun i wr => ∃ k : Nat, k ≤ xs.length ∧ i = .int .i64 k ∧ Hid (xs.take k = ys.take k) ∧ Dr w wr) (fun i _ => xs.length - (intOf i).toNat)
    case atStart => exact ⟨0, Nat.zero_le _, rfl, Lib.hid (by simp), Dr.refl _⟩
    case round =>
      obtain ⟨k, hk, rfl, HT, hbw⟩ := hrel
      by_cases hlt : k < xs.length
      · have hky : k < ys.length := by have := HL.out; omega
        obtain ⟨ad, A1, c1, rfl, hc, hA1⟩ := Lists.at (hx.keep hbw.below) hlt
        obtain ⟨bd, B1, d1, rfl, hd, hB1⟩ := Lists.at (hy.keep hbw.below) hky
        have HX : Hid (xs.take (k + 1) = xs.take k ++ [xs[k]]) := Lib.hid (List.take_succ_eq_append_getElem hlt)
        have HY : Hid (ys.take (k + 1) = ys.take k ++ [ys[k]]) := Lib.hid (List.take_succ_eq_append_getElem hky)
        have HNE : Hid (xs = ys → xs[k] = ys[k]) := Lib.hid (fun e => by subst e; rfl)
        have hlen := HI.out xs[k] (List.getElem_mem _)
        clear hx hy
        generalize xs[k] = x at hc HX HNE hA1 hlen
        generalize ys[k] = y at hd HY HNE hB1
        have hq := fun W (h : Dr wr W) => ints_any A1 B1 x y c1 d1 W (hA1.keep h.below) (hB1.keep h.below) hlen
        by_cases heq : x = y
        · have HQ : Hid (∀ W, Dr wr W → Calls Tryz.prog 14 #[.slice A1 x.length c1, .slice B1 y.length d1] W fun e w' => e = .returned (.bool true) ∧ ∃ m, w' = W.drewN m) := Lib.hid (fun W h => (hq W h).mono fun e w' h2 => ⟨by rw [h2.1, decide_eq_true heq], h2.2⟩)
          have HE := Lib.hid heq; clear heq hq
          go_wp2
          go_quiet ((go_at_call 14; exact Calls.quiet_of (HQ.out _ ⟨_, rfl⟩)))
          go_wp2
          go_roundw
          case rel => exact ⟨k + 1, by omega, by go_num, Lib.hid (by rw [HX.out, HY.out, HT.out, HE.out]), hbw.drewN _⟩
          case measure => simp [intOf]; omega
        · have HF : Hid (decide (xs = ys) = false) := Lib.hid (decide_eq_false (fun e => heq (HNE.out e)))
          have HQ : Hid (∀ W, Dr wr W → Calls Tryz.prog 14 #[.slice A1 x.length c1, .slice B1 y.length d1] W fun e w' => e = .returned (.bool false) ∧ ∃ m, w' = W.drewN m) := Lib.hid (fun W h => (hq W h).mono fun e w' h2 => ⟨by rw [h2.1, decide_eq_false heq], h2.2⟩)
          clear heq hq
          go_wp2
          go_quiet ((go_at_call 14; exact Calls.quiet_of (HQ.out _ ⟨_, rfl⟩)))
          go_wp2
          go_ret
          exact ⟨by rw [HF.out]; rfl, hbw.drewN _⟩
      · have HF : Hid (decide (xs = ys) = true) := Lib.hid (decide_eq_true (by
          have := HT.out
          rwa [List.take_of_length_le (by omega), List.take_of_length_le (by have := HL.out; omega)] at this))
        go_wp2
        go_ret
        exact ⟨by rw [HF.out]; rfl, hbw⟩
  · have hb : ((xs.length : Int) != (ys.length : Int)) = true := by simp; omega
    have HF : Hid (decide (xs = ys) = false) := Lib.hid (decide_eq_false (fun e => hl (by rw [e])))
    clear hl
    go_enter Tryz.func11, Tryz.ntmps11
    go_wp2
    go_ret
    exact ⟨by rw [HF.out]; rfl, Dr.refl _⟩
end Go.Proofs.Tg.Gx
end
section
/- The statements' sanity check: the chapter's first two examples. -/
namespace Go.Gr
def es0 : List (Int × Int) := [(0, 1), (2, 1), (2, 3), (3, 0), (0, 1)]
def es1 : List (Int × Int) := [(0, 1), (0, 3), (1, 2), (2, 3)]
def es2 : List (Int × Int) := [(0, 1), (0, 3), (1, 2), (1, 3), (2, 3)]
theorem w1 : writeEdges (readAll es0) 4 = es1 := by decide +kernel
theorem w2 : writeEdges (extend (readAll es1) 4) 4 = es2 := by decide +kernel
theorem ch1 : isChordal (readAll es1) 4 = false := by decide +kernel
theorem ch2 : isChordal (readAll es2) 4 = true := by decide +kernel
theorem cl2 : (keepLast (cands (readAll es2) 4)).map vertsI = [[0, 1, 3], [1, 2, 3]] := by decide +kernel
theorem tr2 : tree ([[0, 1, 3], [1, 2, 3]].map setOf) = [-1, 0] := by decide +kernel
theorem v1 : valid 4 es1 := by
  refine ⟨by omega, by omega, fun i hi _ => ?_⟩
  have h4 : i < 4 := hi
  have : i = 0 ∨ i = 1 ∨ i = 2 ∨ i = 3 := by omega
  rcases this with rfl | rfl | rfl | rfl <;> exact ⟨⟨by simp [es1], by simp [es1], by simp [es1]⟩, fun h0 => by first | exact absurd h0 (by omega) | simp [es1, cmpE, orI, cmpI]⟩
theorem v2 : valid 4 es2 := by
  refine ⟨by omega, by omega, fun i hi _ => ?_⟩
  have h4 : i < 5 := hi
  have : i = 0 ∨ i = 1 ∨ i = 2 ∨ i = 3 ∨ i = 4 := by omega
  rcases this with rfl | rfl | rfl | rfl | rfl <;> exact ⟨⟨by simp [es2], by simp [es2], by simp [es2]⟩, fun h0 => by first | exact absurd h0 (by omega) | simp [es2, cmpE, orI, cmpI]⟩
theorem r0 : rangeOk 4 es0 ∧ ∀ x ∈ es0, x.1 ≠ x.2 := by
  refine ⟨⟨by omega, fun e he => ?_⟩, by decide⟩
  simp only [es0, List.mem_cons, List.not_mem_nil, or_false] at he
  rcases he with rfl | rfl | rfl | rfl | rfl <;> exact ⟨by decide, by decide, by decide, by decide⟩
theorem two_sorted {ls : List (List Int)} (hp : ls.Perm [[0, 1, 3], [1, 2, 3]]) (hs : Go.Proofs.Tg.Gx.sortedL ls) : ls = [[0, 1, 3], [1, 2, 3]] := by
  have hl := hp.length_eq
  match ls, hl with
  | [x, y], _ =>
    have hx : x = [0, 1, 3] ∨ x = [1, 2, 3] := by have := hp.mem_iff.1 (show x ∈ [x, y] by simp); simpa using this
    have hy : y = [0, 1, 3] ∨ y = [1, 2, 3] := by have := hp.mem_iff.1 (show y ∈ [x, y] by simp); simpa using this
    have h0 := hs 0 1 (by omega) (by simp)
    have m1 : [0, 1, 3] ∈ [x, y] := hp.mem_iff.2 (by simp)
    have m2 : [1, 2, 3] ∈ [x, y] := hp.mem_iff.2 (by simp)
    rcases hx with rfl | rfl <;> rcases hy with rfl | rfl
    · exact absurd m2 (by decide)
    · rfl
    · exact absurd h0 (by decide)
    · exact absurd m1 (by decide)
end Go.Gr
namespace Go.Proofs.Tg.Gx
open Go.RowKit Go.Gr
set_option maxHeartbeats 1000000
set_option maxRecDepth 100000
theorem sl_blk {w : World} {g n sz : Nat} {t : TypeId} {xs : List Value} (h : Blk w g t xs.toArray) (hl : xs.length = n * sz) : Sl w (some ⟨g, 0, none⟩) n sz xs :=
  ⟨hl, fun _ => ⟨_, rfl, h.lt, fun j u hu => by rw [add_lit, Nat.zero_add, h.cell j, List.getElem?_toArray]; exact hu⟩⟩
theorem aw_make (W : World) (g : Nat) (hB : Blk W g 94 (ecells es0).toArray) (hT : Tab W) :
    Calls Tryz.prog 40 #[.int .i64 4, .slice (some ⟨g, 0, none⟩) 5 5] W fun e w' => ∃ F d, e = .returned (.tuple #[.agg #[.int .i64 4, .slice F 4 d], .int .i64 0]) ∧ EdgesAt w' F es1 ∧ Below W.heap.size W w' := by
  refine (make_any 4 (some ⟨g, 0, none⟩) 5 es0 W (sl_blk hB rfl) (by decide) hT).mono fun e w' h => ?_
  rcases h with ⟨h1, _⟩ | ⟨_, ⟨x, hx, he⟩, _⟩ | ⟨_, _, F, d, h1, h2, h3⟩
  · exact absurd r0.1 h1
  · exact absurd he (r0.2 x hx)
  · have e1 : writeEdges (readAll es0) (4 : Int).toNat = es1 := w1
    rw [e1] at h1 h2
    exact ⟨F, d, h1, Sl.own h2, h3⟩
theorem aw_lists (W : World) (V : Option Addr) (c g1 g2 g3 : Nat) (hV : Lists W V [[0, 1, 3], [1, 2, 3]]) (h1 : Blk W g1 3 #[.int .i64 0, .int .i64 1, .int .i64 3]) (h2 : Blk W g2 3 #[.int .i64 1, .int .i64 2, .int .i64 3])
    (h3 : Blk W g3 50 #[.slice (some ⟨g1, 0, none⟩) 3 3, .slice (some ⟨g2, 0, none⟩) 3 3]) :
    Calls Tryz.prog 11 #[.slice V 2 c, .slice (some ⟨g3, 0, none⟩) 2 2] W fun e w' => e = .returned (.bool true) ∧ Below W.heap.size W w' := by
  have hL : Lists W (some ⟨g3, 0, none⟩) [[0, 1, 3], [1, 2, 3]] := by
    refine ⟨fun i => if i = 0 then (some ⟨g1, 0, none⟩, 3) else (some ⟨g2, 0, none⟩, 3), sl_blk h3 rfl, fun i hi => ?_⟩
    have : i = 0 ∨ i = 1 := by simp at hi; omega
    rcases this with rfl | rfl
    · exact sl_blk h1 rfl
    · exact sl_blk h2 rfl
  exact (lists_any V _ [[0, 1, 3], [1, 2, 3]] [[0, 1, 3], [1, 2, 3]] c 2 W hV hL (by decide) (by simp)).mono fun e w' h => ⟨by rw [h.1]; rfl, h.2.below⟩
theorem aw_ints (W : World) (A : Option Addr) (c g : Nat) (hA : Ints W A [-1, 0]) (h : Blk W g 3 #[.int .i64 (-1), .int .i64 0]) :
    Calls Tryz.prog 14 #[.slice A 2 c, .slice (some ⟨g, 0, none⟩) 2 2] W fun e w' => e = .returned (.bool true) ∧ Below W.heap.size W w' :=
  (ints_any A _ [-1, 0] [-1, 0] c 2 W hA (sl_blk h rfl) (by decide)).mono fun e w' h => ⟨by rw [h.1]; rfl, h.2.below⟩
end Go.Proofs.Tg.Gx
end
section
/- The reference's Tree. -/
namespace Go.Proofs.Tg.Gx
open Go.RowKit Go.Gr
set_option maxHeartbeats 2000000
set_option maxRecDepth 100000
def goodLs (ls : List (List Int)) : Prop := ∀ l ∈ ls, 0 < l.length ∧ asc l
def RetRTree (ls : List (List Int)) (w : World) (e : Ending) (w' : World) : Prop :=
  (¬ goodLs ls ∧ e = .returned (.tuple #[.slice none 0 0, .int .i64 1]) ∧ Below w.heap.size w w') ∨
  (goodLs ls ∧ ∃ A c, e = .returned (.tuple #[.slice A ls.length c, .int .i64 0]) ∧ Ints w' A ((List.range ls.length).map (rtree ls ls.length).2) ∧ Below w.heap.size w w')
theorem farr_upd {n : Nat} {α : Type} (g : α → Value) (f : Nat → α) (i : Nat) (x : α) : (farr n fun k => g (f k)).setIfInBounds i (g x) = farr n fun k => g (updF f i x k) := by
  rw [farr_set]
  apply farr_congr
  intro k _
  unfold updF
  by_cases h : k = i <;> simp [h]
theorem Lists.two {w : World} {V : Option Addr} {ls : List (List Int)} (h : Lists w V ls) {j q : Nat} (hj : j < ls.length) (hq : q < ls.length) :
    ∃ ad A c B d, V = some ad ∧ w.cell? (ad.add j) = some (.slice A ls[j].length c) ∧ Ints w A ls[j] ∧ w.cell? (ad.add q) = some (.slice B ls[q].length d) ∧ Ints w B ls[q] := by
  obtain ⟨ad, A, c, rfl, h1, h2⟩ := Lists.at h hj
  obtain ⟨ad', B, d, e, h3, h4⟩ := Lists.at h hq
  injection e with e
  subst e
  exact ⟨ad, A, c, B, d, rfl, h1, h2, h3, h4⟩
end Go.Proofs.Tg.Gx
end
section
/- The reference's simplicial and Triangulated. -/
namespace Go.Gr
def okp (t : Nat → Nat → Bool) (gone : Nat → Bool) (i a b : Nat) : Bool := !(!gone a && !gone b && t i a && t i b && !t a b)
def simpB (t : Nat → Nat → Bool) (n : Nat) (gone : Nat → Bool) (i : Nat) : Bool := (List.range n).all fun a => (List.range a).all fun b => okp t gone i a b
theorem simpB_iff {t : Nat → Nat → Bool} {n : Nat} {gone : Nat → Bool} {i : Nat} : simpB t n gone i = true ↔ ∀ a, a < n → ∀ b, b < a → okp t gone i a b = true := by
  unfold simpB
  simp only [List.all_eq_true, List.mem_range]
def okV (t : Nat → Nat → Bool) (n : Nat) (gone : Nat → Bool) (i : Nat) : Bool := !gone i && simpB t n gone i
/-- The vertices that are gone after r steps, if there is one to go at each. -/
def triTo (t : Nat → Nat → Bool) (n : Nat) : Nat → Option (Nat → Bool)
  | 0 => some fun _ => false
  | r + 1 => match triTo t n r with
    | none => none
    | some gone => match (List.range n).find? (okV t n gone) with
      | none => none
      | some i => some (updF gone i true)
def triang (t : Nat → Nat → Bool) (n : Nat) : Bool := (triTo t n n).isSome
theorem find_first {p : Nat → Bool} {n j : Nat} (hj : j < n) (hp : p j = true) (hf : ∀ i, i < j → p i = false) : (List.range n).find? p = some j := by
  rw [List.find?_eq_some_iff_getElem]
  refine ⟨hp, j, by simpa using hj, by simp, fun i hi => ?_⟩
  simp [hf i hi]
theorem find_no {p : Nat → Bool} {n : Nat} (hf : ∀ i, i < n → p i = false) : (List.range n).find? p = none := by
  rw [List.find?_eq_none]
  intro i hi
  rw [hf i (by simpa using hi)]; simp
theorem triTo_none {t : Nat → Nat → Bool} {n r : Nat} (h : triTo t n r = none) : ∀ d, triTo t n (r + d) = none
  | 0 => h
  | d + 1 => by
    show (match triTo t n (r + d) with | none => none | some gone => _) = none
    rw [triTo_none h d]
end Go.Gr
namespace Go.Proofs.Tg.Gx
open Go.RowKit Go.Gr
set_option maxHeartbeats 4000000
set_option maxRecDepth 100000
end Go.Proofs.Tg.Gx
end
section
/- The reference's Fill. -/
namespace Go.Gr
def cntR (t : Nat → Nat → Bool) (gone : Nat → Bool) (i k : Nat) : Nat := ((List.range k).filter fun j => t i j && !gone j).length
theorem cntR_succ (t : Nat → Nat → Bool) (gone : Nat → Bool) (i k : Nat) : cntR t gone i (k + 1) = cntR t gone i k + if (t i k && !gone k) = true then 1 else 0 := by
  unfold cntR
  rw [List.range_succ, List.filter_append, List.length_append]
  cases h : (t i k && !gone k) <;> simp [h]
theorem cntR_le (t : Nat → Nat → Bool) (gone : Nat → Bool) (i k : Nat) : cntR t gone i k ≤ k := by
  unfold cntR
  exact Nat.le_trans (List.length_filter_le _ _) (by simp)
def minStepR (t : Nat → Nat → Bool) (n : Nat) (gone : Nat → Bool) (bm : Int × Int) (i : Nat) : Int × Int := if gone i = false ∧ ((cntR t gone i n : Nat) : Int) < bm.2 then ((i : Int), ((cntR t gone i n : Nat) : Int)) else bm
def minR (t : Nat → Nat → Bool) (n : Nat) (gone : Nat → Bool) (k : Nat) : Int × Int := (List.range k).foldl (minStepR t n gone) (-1, (n : Int) + 1)
theorem minR_succ (t : Nat → Nat → Bool) (n : Nat) (gone : Nat → Bool) (k : Nat) : minR t n gone (k + 1) = minStepR t n gone (minR t n gone k) k := by simp [minR, List.range_succ]
/-- What the choice comes to: the first of those with the fewest. -/
theorem minR_spec (t : Nat → Nat → Bool) (n : Nat) (gone : Nat → Bool) : ∀ k, (minR t n gone k = (-1, (n : Int) + 1) ∧ ∀ j, j < k → gone j = true) ∨
    ∃ i, i < k ∧ gone i = false ∧ minR t n gone k = ((i : Int), ((cntR t gone i n : Nat) : Int)) ∧ (∀ j, j < k → gone j = false → cntR t gone i n ≤ cntR t gone j n) ∧ (∀ j, j < i → gone j = false → cntR t gone i n < cntR t gone j n)
  | 0 => .inl ⟨rfl, fun j h => by omega⟩
  | k + 1 => by
    rw [minR_succ]
    rcases minR_spec t n gone k with ⟨h1, h2⟩ | ⟨i, hi, hg, he, hm, hf⟩
    · rw [h1]
      cases hk : gone k
      · right
        refine ⟨k, by omega, hk, ?_, fun j hj hgj => ?_, fun j hj hgj => ?_⟩
        · unfold minStepR
          rw [if_pos ⟨hk, by have := cntR_le t gone k n; simp; omega⟩]
        · by_cases e : j = k
          · rw [e]; exact Nat.le_refl _
          · rw [h2 j (by omega)] at hgj; cases hgj
        · rw [h2 j hj] at hgj; cases hgj
      · left
        refine ⟨by unfold minStepR; rw [if_neg (by rw [hk]; simp)], fun j hj => ?_⟩
        by_cases e : j = k
        · rw [e]; exact hk
        · exact h2 j (by omega)
    · right
      rw [he]
      by_cases hc : gone k = false ∧ cntR t gone k n < cntR t gone i n
      · refine ⟨k, by omega, hc.1, ?_, fun j hj hgj => ?_, fun j hj hgj => ?_⟩
        · unfold minStepR; rw [if_pos ⟨hc.1, by simp; omega⟩]
        · by_cases e : j = k
          · rw [e]; exact Nat.le_refl _
          · have := hm j (by omega) hgj; omega
        · have := hm j hj hgj; omega
      · refine ⟨i, by omega, hg, ?_, fun j hj hgj => ?_, hf⟩
        · unfold minStepR; rw [if_neg (fun h => hc ⟨h.1, by have := h.2; simp at this; omega⟩)]
        · by_cases e : j = k
          · subst e
            by_cases hlt : cntR t gone j n < cntR t gone i n
            · exact absurd ⟨hgj, hlt⟩ hc
            · omega
          · exact hm j (by omega) hgj
def stepF (gone : Nat → Bool) (best a : Nat) (t : Nat → Nat → Bool) (b : Nat) : Nat → Nat → Bool := if (!gone a && !gone b && t best a && t best b) = true then joinT t a b else t
def rowF (gone : Nat → Bool) (best a : Nat) (t : Nat → Nat → Bool) (k : Nat) : Nat → Nat → Bool := (List.range k).foldl (stepF gone best a) t
theorem rowF_succ (gone : Nat → Bool) (best a : Nat) (t : Nat → Nat → Bool) (k : Nat) : rowF gone best a t (k + 1) = stepF gone best a (rowF gone best a t k) k := by simp [rowF, List.range_succ]
def allF (gone : Nat → Bool) (best : Nat) (t : Nat → Nat → Bool) (k : Nat) : Nat → Nat → Bool := (List.range k).foldl (fun t a => rowF gone best a t a) t
theorem allF_succ (gone : Nat → Bool) (best : Nat) (t : Nat → Nat → Bool) (k : Nat) : allF gone best t (k + 1) = rowF gone best k (allF gone best t k) k := by simp [allF, List.range_succ]
/-- The table, and what is gone, after r steps. -/
def fillTo (t : Nat → Nat → Bool) (n : Nat) : Nat → (Nat → Nat → Bool) × (Nat → Bool)
  | 0 => (t, fun _ => false)
  | r + 1 => (allF (fillTo t n r).2 (minR (fillTo t n r).1 n (fillTo t n r).2 n).1.toNat (fillTo t n r).1 n, updF (fillTo t n r).2 (minR (fillTo t n r).1 n (fillTo t n r).2 n).1.toNat true)
theorem fill_left {t : Nat → Nat → Bool} {n : Nat} : ∀ r, r ≤ n → ∃ l : List Nat, l.length = r ∧ ∀ v, (fillTo t n r).2 v = true → v ∈ l
  | 0, _ => ⟨[], rfl, fun v h => by cases h⟩
  | r + 1, hr => by
    obtain ⟨l, h1, h2⟩ := fill_left (t := t) (n := n) r (by omega)
    refine ⟨(minR (fillTo t n r).1 n (fillTo t n r).2 n).1.toNat :: l, by simp [h1], fun v hv => ?_⟩
    have hv : updF (fillTo t n r).2 (minR (fillTo t n r).1 n (fillTo t n r).2 n).1.toNat true v = true := hv
    unfold updF at hv
    by_cases e : v = (minR (fillTo t n r).1 n (fillTo t n r).2 n).1.toNat
    · simp [e]
    · rw [if_neg e] at hv
      simp [h2 v hv]
theorem fill_best {t : Nat → Nat → Bool} {n r : Nat} (hr : r < n) : ∃ i c : Nat, i < n ∧ minR (fillTo t n r).1 n (fillTo t n r).2 n = ((i : Int), (c : Int)) := by
  rcases minR_spec (fillTo t n r).1 n (fillTo t n r).2 n with ⟨_, h2⟩ | ⟨i, hi, _, he, _⟩
  · exfalso
    obtain ⟨l, h3, h4⟩ := fill_left (t := t) (n := n) r (by omega)
    have := cover_le n l (fun v hv => h4 v (h2 v hv))
    omega
  · exact ⟨i, _, hi, he⟩
end Go.Gr
namespace Go.Proofs.Tg.Gx
open Go.RowKit Go.Gr
set_option maxHeartbeats 4000000
set_option maxRecDepth 100000
theorem TableAt.far {w : World} {g n : Nat} {t : Nat → Nat → Bool} (h : TableAt w g n t) {p : Addr} (h0 : p.block ≠ g) (h1 : ∀ i, i < n → p.block ≠ g + 1 + i) (u : Value) : TableAt (w.setCell p u) g n t :=
  ⟨h.head.far (fun e => h0 e.symm) u, fun i hi => (h.row i hi).far (fun e => h1 i hi e.symm) u⟩
theorem TableAt.setRow {w : World} {g n k : Nat} {t : Nat → Nat → Bool} (h : TableAt w g n t) (hk : k < n) (f : Nat → Bool) : TableAt (w.setRow (g + 1 + k) (farr n fun j => .bool (f j))) g n (fun i j => if i = k then f j else t i j) := by
  refine ⟨blk_setRow_far h.head (by omega) _, fun i hi => ?_⟩
  by_cases e : i = k
  · subst e
    have := blk_setRow (h.row i hi) (farr n fun j => .bool (f j))
    simpa using this
  · have := blk_setRow_far (h.row i hi) (g' := g + 1 + k) (by omega) (farr n fun j => .bool (f j))
    simpa [e] using this
theorem bool_size : (Tryz.prog.info? 4).map (·.size) = some 1 := by kernel_rfl
end Go.Proofs.Tg.Gx
end
section
/- The reference's subset and Less. -/
namespace Go.Gr
theorem cmpL_drop {a b : List Int} {k : Nat} (ha : k < a.length) (hb : k < b.length) : cmpL (a.drop k) (b.drop k) = if a[k] < b[k] then -1 else if b[k] < a[k] then 1 else cmpL (a.drop (k + 1)) (b.drop (k + 1)) := by
  rw [List.drop_eq_getElem_cons ha, List.drop_eq_getElem_cons hb]
  rfl
theorem cmpL_short {a b : List Int} (h : a = [] ∨ b = []) : cmpL a b < 0 ↔ a.length < b.length := by
  cases a <;> cases b <;> simp_all [cmpL]
end Go.Gr
namespace Go.Proofs.Tg.Gx
open Go.RowKit Go.Gr
set_option maxHeartbeats 4000000
set_option maxRecDepth 100000
end Go.Proofs.Tg.Gx
end
section
/- Plain mathematics of chordal graphs: a graph with a perfect elimination order has the order of every maximum cardinality search as one. No program in sight. -/
namespace Go.Chordal

/-- A list of vertices, the first one eliminated first: the later neighbours of each vertex are pairwise adjacent. -/
def Peo (adj : Nat → Nat → Prop) : List Nat → Prop
  | [] => True
  | v :: post => (∀ a ∈ post, ∀ b ∈ post, adj v a → adj v b → a ≠ b → adj a b) ∧ Peo adj post

/-- A path p 0 .. p j without chords. -/
structure Path (adj : Nat → Nat → Prop) (p : Nat → Nat) (j : Nat) : Prop where
  inj : ∀ a b, a < b → b ≤ j → p a ≠ p b
  step : ∀ a, a < j → adj (p a) (p (a + 1))
  free : ∀ a b, a + 1 < b → b ≤ j → ¬ adj (p a) (p b)

theorem Path.rev {adj : Nat → Nat → Prop} (sym : ∀ a b, adj a b → adj b a) {p : Nat → Nat} {j : Nat} (h : Path adj p j) : Path adj (fun k => p (j - k)) j where
  inj a b hab hb := fun e => h.inj (j - b) (j - a) (by omega) (by omega) e.symm
  step a ha := by
    have := h.step (j - (a + 1)) (by omega)
    rw [show j - (a + 1) + 1 = j - a from by omega] at this
    exact sym _ _ this
  free a b hab hb := fun e => h.free (j - b) (j - a) (by omega) (by omega) (sym _ _ e)

theorem Path.take {adj : Nat → Nat → Prop} {p : Nat → Nat} {j i : Nat} (h : Path adj p j) (hi : i ≤ j) : Path adj p i where
  inj a b hab hb := h.inj a b hab (by omega)
  step a ha := h.step a (by omega)
  free a b hab hb := h.free a b hab (by omega)

/-- In a graph with a perfect elimination order a vertex that is adjacent to both ends of a path without chords is adjacent to one inside it. -/
theorem peo_inside {adj : Nat → Nat → Prop} (sym : ∀ a b, adj a b → adj b a) : ∀ (l : List Nat), Peo adj l → ∀ (p : Nat → Nat) (j z : Nat), 2 ≤ j → Path adj p j → (∀ k, k ≤ j → p k ∈ l) → z ∈ l → (∀ k, k ≤ j → z ≠ p k) →
    adj z (p 0) → adj z (p j) → ∃ k, 0 < k ∧ k < j ∧ adj z (p k)
  | [], _, p, j, z, _, _, hp, _, _, _, _ => by have := hp 0 (by omega); simp at this
  | v :: post, ⟨hv, hpost⟩, p, j, z, hj, hpath, hp, hz, hne, h0, hJ => by
    by_cases hvz : v = z
    · subst hvz
      have m0 : p 0 ∈ post := by
        rcases List.mem_cons.1 (hp 0 (by omega)) with e | e
        · exact absurd e.symm (hne 0 (by omega))
        · exact e
      have mJ : p j ∈ post := by
        rcases List.mem_cons.1 (hp j (by omega)) with e | e
        · exact absurd e.symm (hne j (by omega))
        · exact e
      exact absurd (hv _ m0 _ mJ h0 hJ (hpath.inj 0 j (by omega) (by omega))) (hpath.free 0 j (by omega) (by omega))
    · have mz : z ∈ post := by
        rcases List.mem_cons.1 hz with e | e
        · exact absurd e.symm hvz
        · exact e
      by_cases hin : ∃ i, i ≤ j ∧ p i = v
      · obtain ⟨i, hi, rfl⟩ := hin
        have mem : ∀ k, k ≤ j → k ≠ i → p k ∈ post := by
          intro k hk hki
          rcases List.mem_cons.1 (hp k hk) with e | e
          · rcases Nat.lt_or_gt_of_ne hki with h | h
            · exact absurd e (hpath.inj k i h hi)
            · exact absurd e.symm (hpath.inj i k h hk)
          · exact e
        by_cases hi0 : i = 0
        · subst hi0
          refine ⟨1, by omega, by omega, ?_⟩
          exact hv _ mz _ (mem 1 (by omega) (by omega)) (sym _ _ h0) (hpath.step 0 (by omega)) (hne 1 (by omega))
        · by_cases hij : i = j
          · subst hij
            refine ⟨i - 1, by omega, by omega, ?_⟩
            have hs := hpath.step (i - 1) (by omega)
            rw [show i - 1 + 1 = i from by omega] at hs
            exact hv _ mz _ (mem (i - 1) (by omega) (by omega)) (sym _ _ hJ) (sym _ _ hs) (hne (i - 1) (by omega))
          · have hs := hpath.step (i - 1) (by omega)
            rw [show i - 1 + 1 = i from by omega] at hs
            exact absurd (hv _ (mem (i - 1) (by omega) (by omega)) _ (mem (i + 1) (by omega) (by omega)) (sym _ _ hs) (hpath.step i (by omega)) (hpath.inj (i - 1) (i + 1) (by omega) (by omega)))
              (hpath.free (i - 1) (i + 1) (by omega) (by omega))
      · have mem : ∀ k, k ≤ j → p k ∈ post := by
          intro k hk
          rcases List.mem_cons.1 (hp k hk) with e | e
          · exact absurd ⟨k, hk, e⟩ hin
          · exact e
        exact peo_inside sym post hpost p j z hj hpath mem mz hne h0 hJ

/-- How many of o 0 .. o (y - 1) are adjacent to v. -/
def cnt (adj : Nat → Nat → Bool) (o : Nat → Nat) (y v : Nat) : Nat := ((List.range y).filter fun k => adj v (o k)).length

theorem filter_len_lt {α : Type} (l : List α) (p q : α → Bool) (hpq : ∀ x ∈ l, p x = true → q x = true) (x : α) (hx : x ∈ l) (h1 : q x = true) (h2 : p x = false) : (l.filter p).length < (l.filter q).length := by
  induction l with
  | nil => simp at hx
  | cons y l ih =>
    have hle : ∀ (l : List α), (∀ x ∈ l, p x = true → q x = true) → (l.filter p).length ≤ (l.filter q).length := by
      intro l
      induction l with
      | nil => simp
      | cons z l ih2 =>
        intro h
        have h3 := ih2 (fun x hx => h x (by simp [hx]))
        by_cases hpz : p z = true
        · have := h z (by simp) hpz
          simp [hpz, this]; omega
        · by_cases hqz : q z = true <;> simp [hpz, hqz] <;> omega
    rcases List.mem_cons.1 hx with e | e
    · subst e
      have := hle l (fun x hx => hpq x (by simp [hx]))
      simp [h1, h2]; omega
    · have h3 := ih (fun x hx => hpq x (by simp [hx])) e
      by_cases hpz : p y = true
      · have := hpq y (by simp) hpz
        simp [hpz, this]; omega
      · by_cases hqz : q y = true <;> simp [hpz, hqz] <;> omega

/-- If one has a neighbour among the first y that the other has not, and is not ahead in number, the other has one that it has not. -/
theorem cnt_other {adj : Nat → Nat → Bool} {o : Nat → Nat} {y u v x : Nat} (hle : cnt adj o y u ≤ cnt adj o y v) (hx : x < y) (hu : adj u (o x) = true) (hv : adj v (o x) = false) :
    ∃ z, z < y ∧ adj v (o z) = true ∧ adj u (o z) = false := by
  by_cases h : ∃ z, z < y ∧ adj v (o z) = true ∧ adj u (o z) = false
  · exact h
  · exfalso
    have : cnt adj o y v < cnt adj o y u := by
      unfold cnt
      refine filter_len_lt _ _ _ ?_ x (by simpa using hx) hu hv
      intro z hz hvz
      by_cases hc : adj u (o z) = true
      · exact hc
      · exact absurd ⟨z, by simpa using hz, hvz, by simpa using hc⟩ h
    omega

theorem least_true (P : Nat → Prop) [DecidablePred P] : ∀ (n : Nat), P n → ∃ i, i ≤ n ∧ P i ∧ ∀ k, k < i → ¬ P k
  | 0, h => ⟨0, by omega, h, by omega⟩
  | n + 1, h => by
    by_cases h2 : ∃ k, k ≤ n ∧ P k
    · obtain ⟨k, hk, pk⟩ := h2
      have : ∀ m, m ≤ n → P m → ∃ i, i ≤ m ∧ P i ∧ ∀ k, k < i → ¬ P k := fun m hm pm => by
        induction m using Nat.strongRecOn with
        | _ m ih =>
          by_cases h3 : ∃ q, q < m ∧ P q
          · obtain ⟨q, hq, pq⟩ := h3
            obtain ⟨i, hi, pi, hall⟩ := ih q hq (by omega) pq
            exact ⟨i, by omega, pi, hall⟩
          · exact ⟨m, by omega, pm, fun k hk pk => h3 ⟨k, hk, pk⟩⟩
      obtain ⟨i, hi, pi, hall⟩ := this k hk pk
      exact ⟨i, by omega, pi, hall⟩
    · exact ⟨n + 1, by omega, h, fun k hk pk => h2 ⟨k, by omega, pk⟩⟩

/-- o 0 .. o (n - 1) is an order in which each vertex has, among those that are left, the most neighbours ahead of it. -/
structure Mcs (adj : Nat → Nat → Bool) (o : Nat → Nat) (n : Nat) : Prop where
  inj : ∀ a b, a < b → b < n → o a ≠ o b
  most : ∀ y u, y ≤ u → u < n → cnt adj o y (o u) ≤ cnt adj o y (o y)

theorem mcs_no_path {adj : Nat → Nat → Bool} (sym : ∀ a b, adj a b = true → adj b a = true) {o : Nat → Nat} {n : Nat} (hm : Mcs adj o n) {l : List Nat} (hl : Peo (fun a b => adj a b = true) l)
    (hmem : ∀ k, k < n → o k ∈ l) : ∀ (m : Nat) (q : Nat → Nat) (j : Nat), 2 ≤ j → q 0 ≤ m → q j ≤ m → m < n → (∀ k, k ≤ j → q k < n) → (∀ k, 0 < k → k < j → q 0 < q k ∧ q j < q k) →
    Path (fun a b => adj a b = true) (fun k => o (q k)) j → False := by
  intro m
  induction m using Nat.strongRecOn with
  | _ m ih =>
    -- the path with its greater end last
    have main : ∀ (q : Nat → Nat) (j : Nat), 2 ≤ j → q 0 < q j → q j ≤ m → m < n → (∀ k, k ≤ j → q k < n) → (∀ k, 0 < k → k < j → q 0 < q k ∧ q j < q k) →
        Path (fun a b => adj a b = true) (fun k => o (q k)) j → False := by
      intro q j hj h0j hjm hmn hq hin hpath
      have hx : adj (o (q 1)) (o (q 0)) = true := sym _ _ (hpath.step 0 (by omega))
      have hy : adj (o (q j)) (o (q 0)) = false := by
        have := hpath.free 0 j (by omega) (by omega)
        cases h : adj (o (q j)) (o (q 0))
        · rfl
        · exact absurd (sym _ _ h) this
      have h1 := (hin 1 (by omega) (by omega)).2
      obtain ⟨z, hz, hzy, hz1⟩ := cnt_other (hm.most (q j) (q 1) (by omega) (hq 1 (by omega))) h0j hx hy
      -- the first vertex of the path behind p 0 to which o z is adjacent
      obtain ⟨i', hi', pi', hall⟩ := least_true (fun k => adj (o z) (o (q (k + 1))) = true) (j - 1) (by rw [show j - 1 + 1 = j from by omega]; exact sym _ _ hzy)
      obtain ⟨i, rfl⟩ : ∃ i, i = i' + 1 := ⟨_, rfl⟩
      have hi1 : i' ≠ 0 := by
        rintro rfl
        rw [sym _ _ pi'] at hz1
        cases hz1
      have hzne : ∀ k, k ≤ i' + 1 → o z ≠ o (q k) := by
        intro k hk e
        have hzk : z ≠ q k := by
          by_cases hk0 : k = 0
          · subst hk0
            intro e2
            rw [← e2, hzy] at hy
            cases hy
          · by_cases hkj : k = j
            · rw [hkj]; omega
            · have := hin k (by omega) (by omega); omega
        rcases Nat.lt_or_gt_of_ne hzk with h | h
        · exact hm.inj _ _ h (hq k (by omega)) e
        · exact hm.inj _ _ h (by omega) e.symm
      by_cases hzx : adj (o z) (o (q 0)) = true
      · obtain ⟨k, hk0, hk, hzk⟩ := peo_inside sym l hl (fun k => o (q k)) (i' + 1) (o z) (by omega) (hpath.take (by omega)) (fun k hk => hmem _ (hq k (by omega))) (hmem _ (by omega)) hzne hzx pi'
        have := hall (k - 1) (by omega)
        rw [show k - 1 + 1 = k from by omega] at this
        exact this hzk
      · -- a path from q 0 to z whose ends come earlier
        have hz0 : z ≠ q 0 := fun e => hzne 0 (by omega) (by rw [e])
        refine ih (max (q 0) z) (by omega) (fun k => if k ≤ i' + 1 then q k else z) (i' + 2) (by omega) (by simp; omega) (by simp; omega) (by omega) ?_ ?_ ?_
        · intro k hk
          by_cases h : k ≤ i' + 1
          · simp only [h, if_true]; exact hq k (by omega)
          · simp only [h, if_false]; omega
        · intro k hk0 hk
          simp only [show k ≤ i' + 1 from by omega, if_true, Nat.zero_le, show ¬ (i' + 2 ≤ i' + 1) from by omega, if_false]
          by_cases hkj : k = j
          · subst hkj; exact ⟨h0j, hz⟩
          · have := hin k hk0 (by omega); omega
        · constructor
          · intro a b hab hb
            by_cases h : b ≤ i' + 1
            · simp only [h, show a ≤ i' + 1 from by omega, if_true]
              exact hpath.inj a b hab (by omega)
            · simp only [h, show a ≤ i' + 1 from by omega, if_true, if_false]
              exact fun e => hzne a (by omega) e.symm
          · intro a ha
            by_cases h : a + 1 ≤ i' + 1
            · simp only [h, show a ≤ i' + 1 from by omega, if_true]
              exact hpath.step a (by omega)
            · simp only [h, show a ≤ i' + 1 from by omega, if_true, if_false]
              rw [show a = i' + 1 from by omega]
              exact sym _ _ pi'
          · intro a b hab hb
            by_cases h : b ≤ i' + 1
            · simp only [h, show a ≤ i' + 1 from by omega, if_true]
              exact hpath.free a b hab (by omega)
            · simp only [h, show a ≤ i' + 1 from by omega, if_true, if_false]
              intro e
              by_cases ha0 : a = 0
              · subst ha0; exact hzx (sym _ _ e)
              · have := hall (a - 1) (by omega)
                rw [show a - 1 + 1 = a from by omega] at this
                exact this (sym _ _ e)
    intro q j hj h0m hjm hmn hq hin hpath
    have hne : q 0 ≠ q j := fun e => hpath.inj 0 j (by omega) (by omega) (by simp [e])
    rcases Nat.lt_or_gt_of_ne hne with h | h
    · exact main q j hj h hjm hmn hq hin hpath
    · refine main (fun k => q (j - k)) j hj (by simpa using h) (by simpa using h0m) hmn (fun k hk => hq _ (by omega)) ?_ (hpath.rev sym)
      intro k hk0 hk
      have := hin (j - k) (by omega) (by omega)
      simp only [Nat.sub_zero, Nat.sub_self]
      exact ⟨this.2, this.1⟩

/-- The neighbours that come ahead of a vertex in such an order are pairwise adjacent, if the graph has a perfect elimination order. -/
theorem mcs_clique {adj : Nat → Nat → Bool} (sym : ∀ a b, adj a b = true → adj b a = true) {o : Nat → Nat} {n : Nat} (hm : Mcs adj o n) {l : List Nat} (hl : Peo (fun a b => adj a b = true) l)
    (hmem : ∀ k, k < n → o k ∈ l) {k a b : Nat} (hk : k < n) (ha : a < k) (hb : b < k) (hab : a ≠ b) (h1 : adj (o k) (o a) = true) (h2 : adj (o k) (o b) = true) : adj (o a) (o b) = true := by
  by_cases h : adj (o a) (o b) = true
  · exact h
  · exfalso
    refine mcs_no_path sym hm hl hmem (max a b) (fun i => if i = 0 then a else if i = 1 then k else b) 2 (by omega) (by simp; omega) (by simp; omega) (by omega) ?_ ?_ ?_
    · intro i hi
      show (if i = 0 then a else if i = 1 then k else b) < n
      split
      · omega
      · split <;> omega
    · intro i h0 h2
      obtain rfl : i = 1 := by omega
      simp; omega
    · constructor
      · intro i j hij hj
        have : (i = 0 ∧ j = 1) ∨ (i = 0 ∧ j = 2) ∨ (i = 1 ∧ j = 2) := by omega
        rcases this with ⟨rfl, rfl⟩ | ⟨rfl, rfl⟩ | ⟨rfl, rfl⟩
        · simpa using hm.inj a k ha hk
        · simp only [if_true]
          rcases Nat.lt_or_gt_of_ne hab with h | h
          · simpa using hm.inj a b h (by omega)
          · simpa using fun e => hm.inj b a h (by omega) (Eq.symm e)
        · simpa using fun e => hm.inj b k hb hk (Eq.symm e)
      · intro i hi
        have : i = 0 ∨ i = 1 := by omega
        rcases this with rfl | rfl
        · simpa using sym _ _ h1
        · simpa using h2
      · intro i j hij hj
        obtain ⟨rfl, rfl⟩ : i = 0 ∧ j = 2 := by omega
        simpa using h

end Go.Chordal
end
section
/- Plain law of Extend: what it adds; its order of elimination is perfect. -/
namespace Go.Gr
open Go.Chordal
def bt (A : Nat → Nat) (i j : Nat) : Bool := (A i).testBit j
theorem bt_lt {A : Nat → Nat} (hS : Small A) {i j : Nat} (h : bt A i j = true) : j < 64 := by
  by_cases hj : j < 64
  · exact hj
  · have := high_bit (hS i) (show 64 ≤ j by omega)
    unfold bt at h
    rw [this] at h
    cases h
theorem fill_bit (ar : Nat) : ∀ (l : List Nat) (A : Nat → Nat), (∀ v ∈ l, v < 64) → l.Nodup → ∀ v j, (fill ar l A v).testBit j = ((A v).testBit j || (decide (v ∈ l) && (bclr ar v).testBit j))
  | [], A, _, _, v, j => by simp [fill]
  | x :: l, A, hl, hn, v, j => by
    rw [List.nodup_cons] at hn
    have e : fill ar (x :: l) A = fill ar l (fillStep ar A x) := by simp [fill]
    rw [e, fill_bit ar l _ (fun u hu => hl u (by simp [hu])) hn.2]
    by_cases h : v = x
    · subst h
      unfold fillStep
      rw [upd_same, Nat.testBit_or]
      simp [hn.1]
    · unfold fillStep
      rw [upd_other _ _ h]
      simp [h]
theorem verts_nodup (s : Nat) : (verts s).Nodup := by
  unfold verts
  exact List.Pairwise.filter _ List.nodup_range
theorem verts_empty {s : Nat} (hs : s < 18446744073709551616) (h : verts s = []) : s = 0 := by
  apply Nat.eq_of_testBit_eq
  intro i
  rw [Nat.zero_testBit]
  by_cases hi : i < 64
  · cases hb : s.testBit i with
    | false => rfl
    | true =>
      have : i ∈ verts s := mem_verts.2 ⟨hi, hb⟩
      rw [h] at this
      simp at this
  · exact high_bit hs (by omega)
theorem elim_at {A : Nat → Nat} {rest : Nat} (hI : Irr A) (hr : rest < 18446744073709551616) (h0 : rest ≠ 0) :
    ∃ b, b < 64 ∧ rest.testBit b = true ∧ elim A rest = (fill (A b &&& rest) (verts (A b &&& rest)) A, bclr rest b) ∧ (∀ u, u < 64 → rest.testBit u = true → size (A b &&& rest) ≤ size (A u &&& rest)) ∧
      (∀ u, u < b → rest.testBit u = true → size (A b &&& rest) < size (A u &&& rest)) := by
  rcases minOf_spec A rest hI (verts rest).reverse (verts rest) (fun v hv => (mem_verts.1 hv).1) rfl with h | ⟨b, l, m, hlm, hm, h1, h2⟩
  · exact absurd (verts_empty hr h) h0
  · have hb : b ∈ verts rest := by rw [hlm]; simp
    have hasc : (verts rest).Pairwise (· < ·) := by unfold verts; exact List.Pairwise.filter _ List.pairwise_lt_range
    refine ⟨b, (mem_verts.1 hb).1, (mem_verts.1 hb).2, by unfold elim; rw [hm]; rfl, fun u hu hub => ?_, fun u hu hub => ?_⟩
    · have hmem : u ∈ verts rest := mem_verts.2 ⟨hu, hub⟩
      rw [hlm] at hmem
      rcases List.mem_append.1 hmem with h | h
      · have := h1 u h; omega
      · rcases List.mem_cons.1 h with rfl | h
        · exact Nat.le_refl _
        · exact h2 u h
    · have hmem : u ∈ verts rest := mem_verts.2 ⟨by have := (mem_verts.1 hb).1; omega, hub⟩
      rw [hlm] at hmem hasc
      rw [List.pairwise_append, List.pairwise_cons] at hasc
      rcases List.mem_append.1 hmem with h | h
      · exact h1 u h
      · rcases List.mem_cons.1 h with rfl | h
        · omega
        · have := hasc.2.1.1 u h; omega
def SymA (A : Nat → Nat) : Prop := ∀ i j, i < 64 → j < 64 → (A i).testBit j = (A j).testBit i
structure Ext (A B : Nat → Nat) (rest : Nat) : Prop where
  mono : ∀ v j, (A v).testBit j = true → (B v).testBit j = true
  new : ∀ v j, (B v).testBit j = true → (A v).testBit j = true ∨ (v < 64 ∧ j < 64 ∧ rest.testBit v = true ∧ rest.testBit j = true ∧ v ≠ j)
  sym : SymA A → SymA B
  small : Small B
  peo : ∃ l, (∀ v, v ∈ l ↔ v < 64 ∧ rest.testBit v = true) ∧ l.Nodup ∧ Peo (fun a b => (B a).testBit b = true) l
theorem extFrom_spec : ∀ (f : Nat) (A : Nat → Nat) (rest : Nat), size rest < f → Irr A → Small A → rest < 18446744073709551616 → Ext A (extFrom f A rest) rest
  | 0, _, _, h, _, _, _ => by omega
  | f + 1, A, rest, h, hI, hS, hr => by
    unfold extFrom
    by_cases h0 : rest = 0
    · rw [if_pos h0]
      refine ⟨fun _ _ h => h, fun _ _ h => .inl h, fun h => h, hS, [], ?_, by simp, trivial⟩
      intro v; subst h0; simp
    · rw [if_neg h0]
      obtain ⟨b, hb64, hbr, he, _, _⟩ := elim_at hI hr h0
      rw [he]
      have har : (A b &&& rest) < 18446744073709551616 := and_lt rest (hS b)
      have hlt : ∀ v ∈ verts (A b &&& rest), v < 64 := fun v hv => (mem_verts.1 hv).1
      have hbit := fill_bit (A b &&& rest) (verts (A b &&& rest)) A hlt (verts_nodup _)
      have hI1 : Irr (fill (A b &&& rest) (verts (A b &&& rest)) A) := fill_irr _ hlt hI
      have hS1 : Small (fill (A b &&& rest) (verts (A b &&& rest)) A) := fill_small har _ hS
      have hr1 : bclr rest b < 18446744073709551616 := bclr_lt b hr
      have ih := extFrom_spec f _ (bclr rest b) (by have := (bclr_less hb64 hbr).2; omega) hI1 hS1 hr1
      have hsub : ∀ j, j < 64 → ((bclr rest b).testBit j = true ↔ rest.testBit j = true ∧ b ≠ j) := by
        intro j hj; rw [bclr_bit _ _ _ hb64 hj]; simp
      have hab : ∀ v j, v < 64 → j < 64 → ((bclr (A b &&& rest) v).testBit j = true ↔ (A b &&& rest).testBit j = true ∧ v ≠ j) := by
        intro v j hv hj; rw [bclr_bit _ _ _ hv hj]; simp
      generalize hA1 : fill (A b &&& rest) (verts (A b &&& rest)) A = A1 at *
      have hnew1 : ∀ v j, (A1 v).testBit j = true → (A v).testBit j = true ∨ (v < 64 ∧ j < 64 ∧ (A b &&& rest).testBit v = true ∧ (A b &&& rest).testBit j = true ∧ v ≠ j) := by
        intro v j hj
        have hj64 : j < 64 := bt_lt hS1 hj
        rw [hbit] at hj
        simp only [Bool.or_eq_true, Bool.and_eq_true, decide_eq_true_eq] at hj
        rcases hj with hj | ⟨hv, hj⟩
        · exact .inl hj
        · have hv2 := mem_verts.1 hv
          rw [hab v j hv2.1 hj64] at hj
          exact .inr ⟨hv2.1, hj64, hv2.2, hj.1, hj.2⟩
      have hmono1 : ∀ v j, (A v).testBit j = true → (A1 v).testBit j = true := by
        intro v j hj; rw [hbit, hj]; rfl
      have hadd1 : ∀ v j, v < 64 → j < 64 → (A b &&& rest).testBit v = true → (A b &&& rest).testBit j = true → v ≠ j → (A1 v).testBit j = true := by
        intro v j hv hj h1 h2 h3
        rw [hbit]
        have : (bclr (A b &&& rest) v).testBit j = true := (hab v j hv hj).2 ⟨h2, h3⟩
        rw [this]
        simp [mem_verts, hv, h1]
      have hsym1 : SymA A → SymA A1 := by
        intro hs i j hi hj
        rw [Bool.eq_iff_iff]
        have half : ∀ i j, i < 64 → j < 64 → (A1 i).testBit j = true → (A1 j).testBit i = true := by
          intro i j hi hj h
          rcases hnew1 i j h with h | ⟨_, _, h1, h2, h3⟩
          · exact hmono1 j i (by rw [← hs i j hi hj]; exact h)
          · exact hadd1 j i hj hi h2 h1 (fun e => h3 e.symm)
        exact ⟨half i j hi hj, half j i hj hi⟩
      refine ⟨fun v j hj => ih.mono v j (hmono1 v j hj), fun v j hj => ?_, fun hs => ih.sym (hsym1 hs), ih.small, ?_⟩
      · rcases ih.new v j hj with hj | ⟨h1, h2, h3, h4, h5⟩
        · rcases hnew1 v j hj with hj | ⟨h1, h2, h3, h4, h5⟩
          · exact .inl hj
          · rw [Nat.testBit_and] at h3 h4
            simp only [Bool.and_eq_true] at h3 h4
            exact .inr ⟨h1, h2, h3.2, h4.2, h5⟩
        · exact .inr ⟨h1, h2, ((hsub v h1).1 h3).1, ((hsub j h2).1 h4).1, h5⟩
      · obtain ⟨l, hl1, hl2, hl3⟩ := ih.peo
        have hbl : b ∉ l := fun hm => ((hsub b hb64).1 ((hl1 b).1 hm).2).2 rfl
        refine ⟨b :: l, fun v => ?_, List.nodup_cons.2 ⟨hbl, hl2⟩, ?_, hl3⟩
        · rw [List.mem_cons, hl1]
          constructor
          · rintro (rfl | ⟨h1, h2⟩)
            · exact ⟨hb64, hbr⟩
            · exact ⟨h1, ((hsub v h1).1 h2).1⟩
          · rintro ⟨h1, h2⟩
            by_cases e : v = b
            · exact .inl e
            · exact .inr ⟨h1, (hsub v h1).2 ⟨h2, fun e2 => e e2.symm⟩⟩
        · have key : ∀ a ∈ l, (extFrom f A1 (bclr rest b) b).testBit a = true → a < 64 ∧ (A b &&& rest).testBit a = true := by
            intro a ha h1
            have ha2 := (hl1 a).1 ha
            refine ⟨ha2.1, ?_⟩
            have hra := ((hsub a ha2.1).1 ha2.2).1
            have hA : (A b).testBit a = true := by
              rcases ih.new b a h1 with h | ⟨_, _, h, _, _⟩
              · rcases hnew1 b a h with h | ⟨_, _, h, _, _⟩
                · exact h
                · rw [Nat.testBit_and, hI b hb64] at h; cases h
              · exact absurd rfl ((hsub b hb64).1 h).2
            rw [Nat.testBit_and, hA, hra]; rfl
          intro a ha c hc h1 h2 hne
          have k1 := key a ha h1
          have k2 := key c hc h2
          exact ih.mono a c (hadd1 a c k1.1 k2.1 k1.2 k2.2 hne)
end Go.Gr
end
section
/- Plain law of isChordal: exactly the graphs with a perfect elimination order. -/
namespace Go.Gr
open Go.Chordal
theorem searchTo_take {A : Nat → Nat} {n : Nat} (hn : n ≤ 64) : ∀ d r, r + d = n → (searchTo A n r).2 = (search A n).take r := by
  intro d
  induction d with
  | zero =>
    intro r hr
    have hr : r = n := by omega
    subst hr
    have := (visits (A := A) hn r (Nat.le_refl _)).len
    unfold search
    rw [List.take_of_length_le (by omega)]
  | succ d ih =>
    intro r hr
    have h1 := ih (r + 1) (by omega)
    have h2 : (searchTo A n (r + 1)).2 = (searchTo A n r).2 ++ [(best A (searchTo A n r).1 n).1.toNat] := rfl
    have hl := (visits (A := A) hn r (by omega)).len
    rw [h2] at h1
    have h3 := congrArg (List.take r) h1
    rw [List.take_append_of_le_length (by omega), List.take_of_length_le (by omega), List.take_take, Nat.min_eq_left (by omega)] at h3
    exact h3
def ord (A : Nat → Nat) (n k : Nat) : Nat := (search A n).getD k 0
theorem searchTo_ord {A : Nat → Nat} {n r : Nat} (hn : n ≤ 64) (hr : r ≤ n) : (searchTo A n r).2 = (List.range r).map (ord A n) := by
  have hl : (search A n).length = n := (visits (A := A) hn n (Nat.le_refl _)).len
  rw [searchTo_take hn (n - r) r (by omega)]
  apply List.ext_getElem
  · simp; omega
  · intro i h1 h2
    have hi : i < r := by simpa using h2
    simp [ord, List.getElem?_eq_getElem (show i < (search A n).length by omega)]
theorem search_ord {A : Nat → Nat} {n : Nat} (hn : n ≤ 64) : search A n = (List.range n).map (ord A n) := searchTo_ord hn (Nat.le_refl _)
theorem vis_bit {A : Nat → Nat} {n r : Nat} (hn : n ≤ 64) (hr : r ≤ n) (i : Nat) : (searchTo A n r).1.testBit i = true ↔ ∃ k, k < r ∧ ord A n k = i := by
  rw [(visits hn r hr).bits, searchTo_ord hn hr]
  simp
theorem ord_lt {A : Nat → Nat} {n k : Nat} (hn : n ≤ 64) (hk : k < n) : ord A n k < n := by
  refine (visits (A := A) hn n (Nat.le_refl _)).lt _ ?_
  rw [searchTo_ord hn (Nat.le_refl _)]
  exact List.mem_map.2 ⟨k, by simpa using hk, rfl⟩
theorem ord_inj {A : Nat → Nat} {n a b : Nat} (hn : n ≤ 64) (hab : a < b) (hb : b < n) : ord A n a ≠ ord A n b := by
  have hnd := (visits (A := A) hn n (Nat.le_refl _)).nodup
  rw [searchTo_ord hn (Nat.le_refl _)] at hnd
  have := List.pairwise_iff_getElem.1 hnd a b (by simp; omega) (by simpa using hb) hab
  simpa using this
theorem ord_onto {A : Nat → Nat} {n v : Nat} (hn : n ≤ 64) (hv : v < n) : ∃ k, k < n ∧ ord A n k = v := by
  by_cases h : v ∈ (searchTo A n n).2
  · rw [searchTo_ord hn (Nat.le_refl _)] at h
    obtain ⟨k, hk, e⟩ := List.mem_map.1 h
    exact ⟨k, by simpa using hk, e⟩
  · exfalso
    have hV := visits (A := A) hn n (Nat.le_refl _)
    have hlen : n + 1 ≤ (v :: (searchTo A n n).2).length := by simp [hV.len]
    have hnd : (v :: (searchTo A n n).2).Nodup := List.nodup_cons.2 ⟨h, hV.nodup⟩
    have hsub : ∀ x ∈ v :: (searchTo A n n).2, x < n := by
      intro x hx
      rcases List.mem_cons.1 hx with rfl | hx
      · exact hv
      · exact hV.lt x hx
    have : ∀ (m : Nat) (l : List Nat), l.Nodup → (∀ x ∈ l, x < m) → l.length ≤ m := by
      intro m
      induction m with
      | zero => intro l _ h; cases l with
        | nil => simp
        | cons x l => have := h x (by simp); omega
      | succ m ih =>
        intro l hl h
        have h1 := ih (l.erase m) (hl.erase m) (fun x hx => by
          have h2 := h x (List.mem_of_mem_erase hx)
          have h3 : x ≠ m := fun e => by subst e; exact (List.Nodup.not_mem_erase hl) hx
          omega)
        have := List.length_erase_le (a := m) (l := l)
        have h4 : l.length ≤ (l.erase m).length + 1 := by
          by_cases hm : m ∈ l
          · rw [List.length_erase_of_mem hm]; omega
          · rw [List.erase_of_not_mem hm]; omega
        omega
    have := this n _ hnd hsub
    omega
theorem cnt_size {A : Nat → Nat} (hS : Small A) {n r v : Nat} (hn : n ≤ 64) (hr : r ≤ n) : cnt (bt A) (ord A n) r v = size (A v &&& (searchTo A n r).1) := by
  unfold cnt size
  have h1 : (((List.range r).filter fun k => bt A v (ord A n k)).map (ord A n)).Perm (verts (A v &&& (searchTo A n r).1)) := by
    rw [List.perm_ext_iff_of_nodup]
    · intro x
      rw [mem_verts, Nat.testBit_and, List.mem_map]
      simp only [List.mem_filter, List.mem_range, Bool.and_eq_true]
      constructor
      · rintro ⟨k, ⟨hk, hb⟩, rfl⟩
        exact ⟨bt_lt hS hb, hb, (vis_bit hn hr _).2 ⟨k, hk, rfl⟩⟩
      · rintro ⟨_, hb, hv⟩
        obtain ⟨k, hk, rfl⟩ := (vis_bit hn hr _).1 hv
        exact ⟨k, ⟨hk, hb⟩, rfl⟩
    · rw [List.nodup_iff_pairwise_ne, List.pairwise_map]
      refine List.Pairwise.filter _ ?_
      rw [List.pairwise_iff_getElem]
      intro i j hi hj hij
      simp only [List.length_range] at hi hj
      simp only [List.getElem_range]
      exact ord_inj hn hij (by omega)
    · exact verts_nodup _
  have := h1.length_eq
  rwa [List.length_map] at this
theorem mcs {A : Nat → Nat} (hS : Small A) {n : Nat} (hn : n ≤ 64) : Mcs (bt A) (ord A n) n where
  inj a b hab hb := ord_inj hn hab hb
  most y u hyu hu := by
    rw [cnt_size hS hn (by omega), cnt_size hS hn (by omega)]
    obtain ⟨v, hv, hf, he, hm, _⟩ := best_of (visits (A := A) hn y (by omega)) (by omega)
    have e1 : ord A n y = v := by
      have h1 := searchTo_ord (A := A) (r := y + 1) hn (by omega)
      have h2 : (searchTo A n (y + 1)).2 = (searchTo A n y).2 ++ [(best A (searchTo A n y).1 n).1.toNat] := rfl
      rw [h2, he, searchTo_ord hn (by omega), List.range_succ, List.map_append] at h1
      have := List.append_cancel_left h1
      simpa using this.symm
    rw [e1]
    refine hm _ (ord_lt hn hu) ?_
    cases hb : (searchTo A n y).1.testBit (ord A n u) with
    | false => rfl
    | true =>
      obtain ⟨k, hk, e⟩ := (vis_bit hn (by omega) _).1 hb
      exact absurd e (ord_inj hn (by omega) hu)
theorem isClique_iff {A : Nat → Nat} (hS : Small A) {s : Nat} (hs : s < 18446744073709551616) : isClique A s = true ↔ ∀ u v, s.testBit u = true → s.testBit v = true → u ≠ v → bt A v u = true := by
  unfold isClique
  rw [List.all_eq_true]
  have key : ∀ v, v < 64 → s.testBit v = true → (andn (bclr s v) (A v) = 0 ↔ ∀ u, s.testBit u = true → u ≠ v → bt A v u = true) := by
    intro v hv hsv
    constructor
    · intro h u hu hne
      have hu64 : u < 64 := by
        by_cases h64 : u < 64
        · exact h64
        · rw [high_bit hs (by omega)] at hu; cases hu
      have := congrArg (fun x => x.testBit u) h
      simp only [andn_bit _ _ _ (hS v) hu64, bclr_bit _ _ _ hv hu64, hu, Nat.zero_testBit] at this
      have hne2 : ¬ v = u := fun e => hne e.symm
      simp [hne2] at this
      exact this
    · intro h
      apply Nat.eq_of_testBit_eq
      intro u
      rw [Nat.zero_testBit]
      have hlt : andn (bclr s v) (A v) < 18446744073709551616 := by
        unfold andn
        exact and_lt _ (bclr_lt v hs)
      by_cases hu64 : u < 64
      · rw [andn_bit _ _ _ (hS v) hu64, bclr_bit _ _ _ hv hu64]
        cases hu : s.testBit u
        · simp
        · by_cases e : v = u
          · simp [e]
          · have := h u hu (fun e2 => e e2.symm)
            unfold bt at this
            simp [this]
      · exact high_bit hlt (by omega)
  constructor
  · intro h u v hu hv hne
    have hv64 : v < 64 := by
      by_cases h64 : v < 64
      · exact h64
      · rw [high_bit hs (by omega)] at hv; cases hv
    have := h v (mem_verts.2 ⟨hv64, hv⟩)
    rw [decide_eq_true_eq] at this
    exact (key v hv64 hv).1 this u hu hne
  · intro h v hv
    obtain ⟨h1, h2⟩ := mem_verts.1 hv
    rw [decide_eq_true_eq]
    exact (key v h1 h2).2 (fun u hu hne => h u v hu h2 hne)
theorem earlierFrom_at (A : Nat → Nat) : ∀ (l : List Nat) (vis k : Nat) (hk : k < l.length), (earlierFrom A vis l)[k]? = some (A l[k] &&& (l.take k).foldl bset vis)
  | v :: l, vis, 0, _ => by simp [earlierFrom]
  | v :: l, vis, k + 1, hk => by
    have := earlierFrom_at A l (bset vis v) k (by simpa using hk)
    simp only [earlierFrom, List.getElem?_cons_succ, List.getElem_cons_succ, List.take_succ_cons, List.foldl_cons]
    exact this
theorem vis_fold {A : Nat → Nat} {n : Nat} : ∀ r, (searchTo A n r).1 = (searchTo A n r).2.foldl bset 0
  | 0 => rfl
  | r + 1 => by
    show bset (searchTo A n r).1 _ = ((searchTo A n r).2 ++ [_]).foldl bset 0
    rw [List.foldl_append, ← vis_fold r]; rfl
theorem earlier_len (A : Nat → Nat) : ∀ (l : List Nat) (vis : Nat), (earlierFrom A vis l).length = l.length
  | [], _ => rfl
  | _ :: l, vis => by simp [earlierFrom, earlier_len A l]
theorem earlier_at {A : Nat → Nat} {n k : Nat} (hn : n ≤ 64) (hk : k < n) : (earlier A (search A n))[k]? = some (A (ord A n k) &&& (searchTo A n k).1) := by
  have hl : (search A n).length = n := (visits (A := A) hn n (Nat.le_refl _)).len
  have := earlierFrom_at A (search A n) 0 k (by omega)
  unfold earlier
  rw [this, vis_fold, searchTo_take hn (n - k) k (by omega)]
  congr 3
  simp [ord, List.getElem?_eq_getElem (show k < (search A n).length by omega)]
/-- isChordal: the neighbours ahead of each vertex of the search are pairwise adjacent. -/
theorem chordal_iff {A : Nat → Nat} (hS : Small A) {n : Nat} (hn : n ≤ 64) : isChordal A n = true ↔
    ∀ k a b, k < n → a < k → b < k → a ≠ b → bt A (ord A n k) (ord A n a) = true → bt A (ord A n k) (ord A n b) = true → bt A (ord A n a) (ord A n b) = true := by
  unfold isChordal
  rw [List.all_eq_true]
  have hl : (search A n).length = n := (visits (A := A) hn n (Nat.le_refl _)).len
  have hlt : ∀ k, (A (ord A n k) &&& (searchTo A n k).1) < 18446744073709551616 := fun k => and_lt _ (hS _)
  constructor
  · intro h k a b hk ha hb hab h1 h2
    have hm := h _ (List.mem_of_getElem? (earlier_at hn hk))
    rw [isClique_iff hS (hlt k)] at hm
    refine hm (ord A n b) (ord A n a) ?_ ?_ ?_
    · rw [Nat.testBit_and]
      simp only [Bool.and_eq_true]
      exact ⟨h2, (vis_bit hn (by omega) _).2 ⟨b, hb, rfl⟩⟩
    · rw [Nat.testBit_and]
      simp only [Bool.and_eq_true]
      exact ⟨h1, (vis_bit hn (by omega) _).2 ⟨a, ha, rfl⟩⟩
    · rcases Nat.lt_or_gt_of_ne hab with h | h
      · exact fun e => ord_inj hn h (by omega) e.symm
      · exact ord_inj hn h (by omega)
  · intro h s hs
    obtain ⟨k, hk⟩ := List.getElem?_of_mem hs
    have hkn : k < n := by
      have := (List.getElem?_eq_some_iff.1 hk).1
      unfold earlier at this
      rw [earlier_len] at this
      omega
    rw [earlier_at hn hkn] at hk
    injection hk with hk
    subst hk
    rw [isClique_iff hS (hlt k)]
    intro u v hu hv hne
    rw [Nat.testBit_and] at hu hv
    simp only [Bool.and_eq_true] at hu hv
    obtain ⟨b, hb, rfl⟩ := (vis_bit hn (by omega) _).1 hu.2
    obtain ⟨a, ha, rfl⟩ := (vis_bit hn (by omega) _).1 hv.2
    exact h k a b hkn ha hb (fun e => hne (by rw [e])) hv.1 hu.1
theorem isChordal_of_peo {A : Nat → Nat} (hS : Small A) {n : Nat} (hn : n ≤ 64) (hsym : ∀ a b, bt A a b = true → bt A b a = true) {l : List Nat} (hl : Peo (fun a b => bt A a b = true) l) (hm : ∀ v, v < n → v ∈ l) : isChordal A n = true := by
  rw [chordal_iff hS hn]
  intro k a b hk ha hb hab h1 h2
  exact mcs_clique hsym (mcs hS hn) hl (fun k hk => hm _ (ord_lt hn hk)) hk ha hb hab h1 h2
theorem peo_of_isChordal {A : Nat → Nat} (hS : Small A) {n : Nat} (hn : n ≤ 64) (h : isChordal A n = true) : Peo (fun a b => bt A a b = true) (search A n).reverse := by
  rw [chordal_iff hS hn] at h
  have : ∀ r, r ≤ n → Peo (fun a b => bt A a b = true) ((List.range r).map (ord A n)).reverse := by
    intro r
    induction r with
    | zero => intro _; exact trivial
    | succ r ih =>
      intro hr
      have e : ((List.range (r + 1)).map (ord A n)).reverse = ord A n r :: ((List.range r).map (ord A n)).reverse := by
        rw [List.range_succ, List.map_append, List.reverse_append]; rfl
      rw [e]
      refine ⟨fun a ha b hb h1 h2 hne => ?_, ih (by omega)⟩
      simp only [List.mem_reverse, List.mem_map, List.mem_range] at ha hb
      obtain ⟨i, hi, rfl⟩ := ha
      obtain ⟨j, hj, rfl⟩ := hb
      exact h r i j (by omega) hi hj (fun e => hne (by rw [e])) h1 h2
  rw [search_ord hn]
  exact this n (Nat.le_refl _)
end Go.Gr
end
