/- Parts of the proof: GWQ, GWR, GXF, GXK, GXN, GXL, GChordal. -/
import Derived.Laws.CopyOwn
import Derived.StillTailTactics
import Derived.Test.YtodapfjmgnekkaaGreatDoorMU3
import Derived.Test.YtodapfjmgnekkaaGreatDoorMU5
import Derived.Test.YtodapfjmgnekkaaGreatDoorMU6
section
/- Comparisons of lists in the statements. -/
namespace Go.Proofs.Tg.Gx
open Go.RowKit Go.Gr
set_option maxHeartbeats 1000000
set_option maxRecDepth 100000
/-- The world has turned in draws alone. -/
def Dr (w w' : World) : Prop := ∃ n, w' = w.drewN n
theorem Dr.refl (w : World) : Dr w w := ⟨0, rfl⟩
theorem Dr.below {w w' : World} (h : Dr w w') : Below w.heap.size w w' := by
  obtain ⟨n, rfl⟩ := h
  exact below_drewN (Below.refl _ _) n
theorem Dr.drewN {w w' : World} (h : Dr w w') (k : Nat) : Dr w (w'.drewN k) := by
  obtain ⟨n, rfl⟩ := h
  exact ⟨n + k, by rw [World.drewN_drewN]⟩
theorem ints_any (A B : Option Addr) (xs ys : List Int) (c d : Nat) (w : World) (hx : Ints w A xs) (hy : Ints w B ys) (hn : xs.length ≤ 1000000) :
    Calls Tryz.prog 25 #[.slice A xs.length c, .slice B ys.length d] w fun e w' => e = .returned (.bool (decide (xs = ys))) ∧ Dr w w' := by
  by_cases hl : xs.length = ys.length
  · have hb : ((xs.length : Int) != (ys.length : Int)) = false := by simp [hl]
    have HL := Lib.hid hl; clear hl
    go_enter Tryz.func25, Tryz.ntmps25
    go_wp2
    go_loopw [5] (fun i wr => ∃ k : Nat, k ≤ xs.length ∧ i = .int .i64 k ∧ Hid (xs.take k = ys.take k) ∧ Dr w wr) (fun i _ => xs.length - (intOf i).toNat)
    case atStart => exact ⟨0, Nat.zero_le _, rfl, Lib.hid (by simp), Dr.refl _⟩
    case round =>
      obtain ⟨k, hk, rfl, HT, hbw⟩ := hrel
      by_cases hlt : k < xs.length
      · have hky : k < ys.length := by have := HL.out; omega
        obtain ⟨ad, rfl, hc⟩ := Ints.at (hx.keep hbw.below) hlt
        obtain ⟨bd, rfl, hd⟩ := Ints.at (hy.keep hbw.below) hky
        have HX : Hid (xs.take (k + 1) = xs.take k ++ [xs[k]]) := Lib.hid (List.take_succ_eq_append_getElem hlt)
        have HY : Hid (ys.take (k + 1) = ys.take k ++ [ys[k]]) := Lib.hid (List.take_succ_eq_append_getElem hky)
        have HNE : Hid (xs = ys → xs[k] = ys[k]) := Lib.hid (fun e => by subst e; rfl)
        clear hx hy
        generalize xs[k] = x at hc HX HNE
        generalize ys[k] = y at hd HY HNE
        by_cases heq : x = y
        · have hbb : (x != y) = false := by simp [heq]
          have HE := Lib.hid heq; clear heq
          go_wp2
          go_quiet (fail)
          go_wp2
          go_roundw
          case rel => exact ⟨k + 1, by omega, by go_num, Lib.hid (by rw [HX.out, HY.out, HT.out, HE.out]), hbw.drewN _⟩
          case measure => simp [intOf]; omega
        · have hbb : (x != y) = true := by simp [heq]
          have HF : Hid (decide (xs = ys) = false) := Lib.hid (decide_eq_false (fun e => heq (HNE.out e)))
          clear heq
          go_wp2
          go_quiet (fail)
          go_wp2
          go_ret
          exact ⟨by rw [HF.out]; rfl, hbw.drewN _⟩
      · have HF : Hid (decide (xs = ys) = true) := Lib.hid (decide_eq_true (by
          have := HT.out
          rwa [List.take_of_length_le (by omega), List.take_of_length_le (by have := HL.out; omega)] at this))
        go_wp2
        go_ret
        exact ⟨by rw [HF.out]; rfl, hbw⟩
  · have hb : ((xs.length : Int) != (ys.length : Int)) = true := by simp; omega
    have HF : Hid (decide (xs = ys) = false) := Lib.hid (decide_eq_false (fun e => hl (by rw [e])))
    clear hl
    go_enter Tryz.func25, Tryz.ntmps25
    go_wp2
    go_ret
    exact ⟨by rw [HF.out]; rfl, Dr.refl _⟩
theorem lists_any (A B : Option Addr) (xs ys : List (List Int)) (c d : Nat) (w : World) (hx : Lists w A xs) (hy : Lists w B ys) (hn : xs.length ≤ 1000000) (hi : ∀ l ∈ xs, l.length ≤ 1000000) :
    Calls Tryz.prog 14 #[.slice A xs.length c, .slice B ys.length d] w fun e w' => e = .returned (.bool (decide (xs = ys))) ∧ Dr w w' := by
  have HI := Lib.hid hi
  clear hi
  by_cases hl : xs.length = ys.length
  · have hb : ((xs.length : Int) != (ys.length : Int)) = false := by simp [hl]
    have HL := Lib.hid hl; clear hl
    go_enter Tryz.func14, Tryz.ntmps14
    go_wp2
    go_loopw [5] (fun i wr => ∃ k : Nat, k ≤ xs.length ∧ i = .int .i64 k ∧ Hid (xs.take k = ys.take k) ∧ Dr w wr) (fun i _ => xs.length - (intOf i).toNat)
    case atStart => exact ⟨0, Nat.zero_le _, rfl, Lib.hid (by simp), Dr.refl _⟩
    case round =>
      obtain ⟨k, hk, rfl, HT, hbw⟩ := hrel
      by_cases hlt : k < xs.length
      · have hky : k < ys.length := by have := HL.out; omega
        obtain ⟨ad, A1, c1, rfl, hc, hA1⟩ := Lists.at (hx.keep hbw.below) hlt
        obtain ⟨bd, B1, d1, rfl, hd, hB1⟩ := Lists.at (hy.keep hbw.below) hky
        have HX : Hid (xs.take (k + 1) = xs.take k ++ [xs[k]]) := Lib.hid (List.take_succ_eq_append_getElem hlt)
        have HY : Hid (ys.take (k + 1) = ys.take k ++ [ys[k]]) := Lib.hid (List.take_succ_eq_append_getElem hky)
        have HNE : Hid (xs = ys → xs[k] = ys[k]) := Lib.hid (fun e => by subst e; rfl)
        have hlen := HI.out xs[k] (List.getElem_mem _)
        clear hx hy
        generalize xs[k] = x at hc HX HNE hA1 hlen
        generalize ys[k] = y at hd HY HNE hB1
        have hq := fun W (h : Dr wr W) => ints_any A1 B1 x y c1 d1 W (hA1.keep h.below) (hB1.keep h.below) hlen
        by_cases heq : x = y
        · have HQ : Hid (∀ W, Dr wr W → Calls Tryz.prog 25 #[.slice A1 x.length c1, .slice B1 y.length d1] W fun e w' => e = .returned (.bool true) ∧ ∃ m, w' = W.drewN m) := Lib.hid (fun W h => (hq W h).mono fun e w' h2 => ⟨by rw [h2.1, decide_eq_true heq], h2.2⟩)
          have HE := Lib.hid heq; clear heq hq
          go_wp2
          go_quiet ((go_at_call 25; exact Calls.quiet_of (HQ.out _ ⟨_, rfl⟩)))
          go_wp2
          go_roundw
          case rel => exact ⟨k + 1, by omega, by go_num, Lib.hid (by rw [HX.out, HY.out, HT.out, HE.out]), hbw.drewN _⟩
          case measure => simp [intOf]; omega
        · have HF : Hid (decide (xs = ys) = false) := Lib.hid (decide_eq_false (fun e => heq (HNE.out e)))
          have HQ : Hid (∀ W, Dr wr W → Calls Tryz.prog 25 #[.slice A1 x.length c1, .slice B1 y.length d1] W fun e w' => e = .returned (.bool false) ∧ ∃ m, w' = W.drewN m) := Lib.hid (fun W h => (hq W h).mono fun e w' h2 => ⟨by rw [h2.1, decide_eq_false heq], h2.2⟩)
          clear heq hq
          go_wp2
          go_quiet ((go_at_call 25; exact Calls.quiet_of (HQ.out _ ⟨_, rfl⟩)))
          go_wp2
          go_ret
          exact ⟨by rw [HF.out]; rfl, hbw.drewN _⟩
      · have HF : Hid (decide (xs = ys) = true) := Lib.hid (decide_eq_true (by
          have := HT.out
          rwa [List.take_of_length_le (by omega), List.take_of_length_le (by have := HL.out; omega)] at this))
        go_wp2
        go_ret
        exact ⟨by rw [HF.out]; rfl, hbw⟩
  · have hb : ((xs.length : Int) != (ys.length : Int)) = true := by simp; omega
    have HF : Hid (decide (xs = ys) = false) := Lib.hid (decide_eq_false (fun e => hl (by rw [e])))
    clear hl
    go_enter Tryz.func14, Tryz.ntmps14
    go_wp2
    go_ret
    exact ⟨by rw [HF.out]; rfl, Dr.refl _⟩
end Go.Proofs.Tg.Gx
end
section
/- The statements' sanity check: the chapter's first two examples. -/
namespace Go.Gr
def es0 : List (Int × Int) := [(0, 1), (2, 1), (2, 3), (3, 0), (0, 1)]
def es1 : List (Int × Int) := [(0, 1), (0, 3), (1, 2), (2, 3)]
def es2 : List (Int × Int) := [(0, 1), (0, 3), (1, 2), (1, 3), (2, 3)]
theorem w1 : writeEdges (readAll es0) 4 = es1 := by decide +kernel
theorem w2 : writeEdges (extend (readAll es1) 4) 4 = es2 := by decide +kernel
theorem ch1 : isChordal (readAll es1) 4 = false := by decide +kernel
theorem ch2 : isChordal (readAll es2) 4 = true := by decide +kernel
theorem cl2 : (keepLast (cands (readAll es2) 4)).map vertsI = [[0, 1, 3], [1, 2, 3]] := by decide +kernel
theorem tr2 : tree ([[0, 1, 3], [1, 2, 3]].map setOf) = [-1, 0] := by decide +kernel
theorem v1 : valid 4 es1 := by
  refine ⟨by omega, by omega, fun i hi _ => ?_⟩
  have h4 : i < 4 := hi
  have : i = 0 ∨ i = 1 ∨ i = 2 ∨ i = 3 := by omega
  rcases this with rfl | rfl | rfl | rfl <;> exact ⟨⟨by simp [es1], by simp [es1], by simp [es1]⟩, fun h0 => by first | exact absurd h0 (by omega) | simp [es1, cmpE, orI, cmpI]⟩
theorem v2 : valid 4 es2 := by
  refine ⟨by omega, by omega, fun i hi _ => ?_⟩
  have h4 : i < 5 := hi
  have : i = 0 ∨ i = 1 ∨ i = 2 ∨ i = 3 ∨ i = 4 := by omega
  rcases this with rfl | rfl | rfl | rfl | rfl <;> exact ⟨⟨by simp [es2], by simp [es2], by simp [es2]⟩, fun h0 => by first | exact absurd h0 (by omega) | simp [es2, cmpE, orI, cmpI]⟩
theorem r0 : rangeOk 4 es0 ∧ ∀ x ∈ es0, x.1 ≠ x.2 := by
  refine ⟨⟨by omega, fun e he => ?_⟩, by decide⟩
  simp only [es0, List.mem_cons, List.not_mem_nil, or_false] at he
  rcases he with rfl | rfl | rfl | rfl | rfl <;> exact ⟨by decide, by decide, by decide, by decide⟩
theorem two_sorted {ls : List (List Int)} (hp : ls.Perm [[0, 1, 3], [1, 2, 3]]) (hs : Go.Proofs.Tg.Gx.sortedL ls) : ls = [[0, 1, 3], [1, 2, 3]] := by
  have hl := hp.length_eq
  match ls, hl with
  | [x, y], _ =>
    have hx : x = [0, 1, 3] ∨ x = [1, 2, 3] := by have := hp.mem_iff.1 (show x ∈ [x, y] by simp); simpa using this
    have hy : y = [0, 1, 3] ∨ y = [1, 2, 3] := by have := hp.mem_iff.1 (show y ∈ [x, y] by simp); simpa using this
    have h0 := hs 0 1 (by omega) (by simp)
    have m1 : [0, 1, 3] ∈ [x, y] := hp.mem_iff.2 (by simp)
    have m2 : [1, 2, 3] ∈ [x, y] := hp.mem_iff.2 (by simp)
    rcases hx with rfl | rfl <;> rcases hy with rfl | rfl
    · exact absurd m2 (by decide)
    · rfl
    · exact absurd h0 (by decide)
    · exact absurd m1 (by decide)
end Go.Gr
namespace Go.Proofs.Tg.Gx
open Go.RowKit Go.Gr
set_option maxHeartbeats 1000000
set_option maxRecDepth 100000
theorem sl_blk {w : World} {g n sz : Nat} {t : TypeId} {xs : List Value} (h : Blk w g t xs.toArray) (hl : xs.length = n * sz) : Sl w (some ⟨g, 0, none⟩) n sz xs :=
  ⟨hl, fun _ => ⟨_, rfl, h.lt, fun j u hu => by rw [add_lit, Nat.zero_add, h.cell j, List.getElem?_toArray]; exact hu⟩⟩
theorem aw_make (W : World) (g : Nat) (hB : Blk W g 83 (ecells es0).toArray) (hT : Tab W) :
    Calls Tryz.prog 57 #[.int .i64 4, .slice (some ⟨g, 0, none⟩) 5 5] W fun e w' => ∃ F d, e = .returned (.tuple #[.agg #[.int .i64 4, .slice F 4 d], .int .i64 0]) ∧ EdgesAt w' F es1 ∧ Below W.heap.size W w' := by
  refine (make_any 4 (some ⟨g, 0, none⟩) 5 es0 W (sl_blk hB rfl) (by decide) hT).mono fun e w' h => ?_
  rcases h with ⟨h1, _⟩ | ⟨_, ⟨x, hx, he⟩, _⟩ | ⟨_, _, F, d, h1, h2, h3⟩
  · exact absurd r0.1 h1
  · exact absurd he (r0.2 x hx)
  · have e1 : writeEdges (readAll es0) (4 : Int).toNat = es1 := w1
    rw [e1] at h1 h2
    exact ⟨F, d, h1, Sl.own h2, h3⟩
theorem aw_extend (W : World) (F : Option Addr) (d : Nat) (hE : EdgesAt W F es1) (hT : Tab W) :
    Calls Tryz.prog 61 #[.agg #[.int .i64 4, .slice F 4 d]] W fun e w' => ∃ F d, e = .returned (.tuple #[.agg #[.int .i64 4, .slice F 5 d], .int .i64 0]) ∧ EdgesAt w' F es2 ∧ Below W.heap.size W w' := by
  have h := extend_ok 4 F d es1 W hE (by decide) v1 hT
  rw [w2] at h
  exact h.mono fun e w' ⟨F, d, h1, h2, h3⟩ => ⟨F, d, h1, Sl.own h2, h3⟩
theorem aw_cliques (W : World) (F : Option Addr) (d : Nat) (hE : EdgesAt W F es2) (hT : Tab W) :
    Calls Tryz.prog 62 #[.agg #[.int .i64 4, .slice F 5 d]] W fun e w' => ∃ V d, e = .returned (.tuple #[.slice V 2 d, .int .i64 0]) ∧ Lists w' V [[0, 1, 3], [1, 2, 3]] ∧ Below W.heap.size W w' := by
  refine (cliques_ok 4 F d es2 W hE (by decide) v2 hT ch2 (by omega)).mono fun e w' ⟨V, d, ls, h1, h2, h3, h4, h5⟩ => ?_
  rw [cl2] at h3
  obtain rfl := two_sorted h3 h4
  exact ⟨V, d, h1, h2, h5⟩
theorem aw_lists (W : World) (V : Option Addr) (c g1 g2 g3 : Nat) (hV : Lists W V [[0, 1, 3], [1, 2, 3]]) (h1 : Blk W g1 3 #[.int .i64 0, .int .i64 1, .int .i64 3]) (h2 : Blk W g2 3 #[.int .i64 1, .int .i64 2, .int .i64 3])
    (h3 : Blk W g3 36 #[.slice (some ⟨g1, 0, none⟩) 3 3, .slice (some ⟨g2, 0, none⟩) 3 3]) :
    Calls Tryz.prog 14 #[.slice V 2 c, .slice (some ⟨g3, 0, none⟩) 2 2] W fun e w' => e = .returned (.bool true) ∧ Below W.heap.size W w' := by
  have hL : Lists W (some ⟨g3, 0, none⟩) [[0, 1, 3], [1, 2, 3]] := by
    refine ⟨fun i => if i = 0 then (some ⟨g1, 0, none⟩, 3) else (some ⟨g2, 0, none⟩, 3), sl_blk h3 rfl, fun i hi => ?_⟩
    have : i = 0 ∨ i = 1 := by simp at hi; omega
    rcases this with rfl | rfl
    · exact sl_blk h1 rfl
    · exact sl_blk h2 rfl
  exact (lists_any V _ [[0, 1, 3], [1, 2, 3]] [[0, 1, 3], [1, 2, 3]] c 2 W hV hL (by decide) (by simp)).mono fun e w' h => ⟨by rw [h.1]; rfl, h.2.below⟩
theorem aw_ints (W : World) (A : Option Addr) (c g : Nat) (hA : Ints W A [-1, 0]) (h : Blk W g 3 #[.int .i64 (-1), .int .i64 0]) :
    Calls Tryz.prog 25 #[.slice A 2 c, .slice (some ⟨g, 0, none⟩) 2 2] W fun e w' => e = .returned (.bool true) ∧ Below W.heap.size W w' :=
  (ints_any A _ [-1, 0] [-1, 0] c 2 W hA (sl_blk h rfl) (by decide)).mono fun e w' h => ⟨by rw [h.1]; rfl, h.2.below⟩
end Go.Proofs.Tg.Gx
end
section
/- The reference's Tree. -/
namespace Go.Proofs.Tg.Gx
open Go.RowKit Go.Gr
set_option maxHeartbeats 2000000
set_option maxRecDepth 100000
def goodLs (ls : List (List Int)) : Prop := ∀ l ∈ ls, 0 < l.length ∧ asc l
def RetRTree (ls : List (List Int)) (w : World) (e : Ending) (w' : World) : Prop :=
  (¬ goodLs ls ∧ e = .returned (.tuple #[.slice none 0 0, .int .i64 1]) ∧ Below w.heap.size w w') ∨
  (goodLs ls ∧ ∃ A c, e = .returned (.tuple #[.slice A ls.length c, .int .i64 0]) ∧ Ints w' A ((List.range ls.length).map (rtree ls ls.length).2) ∧ Below w.heap.size w w')
theorem farr_upd {n : Nat} {α : Type} (g : α → Value) (f : Nat → α) (i : Nat) (x : α) : (farr n fun k => g (f k)).setIfInBounds i (g x) = farr n fun k => g (updF f i x k) := by
  rw [farr_set]
  apply farr_congr
  intro k _
  unfold updF
  by_cases h : k = i <;> simp [h]
theorem Lists.two {w : World} {V : Option Addr} {ls : List (List Int)} (h : Lists w V ls) {j q : Nat} (hj : j < ls.length) (hq : q < ls.length) :
    ∃ ad A c B d, V = some ad ∧ w.cell? (ad.add j) = some (.slice A ls[j].length c) ∧ Ints w A ls[j] ∧ w.cell? (ad.add q) = some (.slice B ls[q].length d) ∧ Ints w B ls[q] := by
  obtain ⟨ad, A, c, rfl, h1, h2⟩ := Lists.at h hj
  obtain ⟨ad', B, d, e, h3, h4⟩ := Lists.at h hq
  injection e with e
  subst e
  exact ⟨ad, A, c, B, d, rfl, h1, h2, h3, h4⟩
end Go.Proofs.Tg.Gx
end
section
/- The reference's simplicial and Triangulated. -/
namespace Go.Gr
def okp (t : Nat → Nat → Bool) (gone : Nat → Bool) (i a b : Nat) : Bool := !(!gone a && !gone b && t i a && t i b && !t a b)
def simpB (t : Nat → Nat → Bool) (n : Nat) (gone : Nat → Bool) (i : Nat) : Bool := (List.range n).all fun a => (List.range a).all fun b => okp t gone i a b
theorem simpB_iff {t : Nat → Nat → Bool} {n : Nat} {gone : Nat → Bool} {i : Nat} : simpB t n gone i = true ↔ ∀ a, a < n → ∀ b, b < a → okp t gone i a b = true := by
  unfold simpB
  simp only [List.all_eq_true, List.mem_range]
def okV (t : Nat → Nat → Bool) (n : Nat) (gone : Nat → Bool) (i : Nat) : Bool := !gone i && simpB t n gone i
/-- The vertices that are gone after r steps, if there is one to go at each. -/
def triTo (t : Nat → Nat → Bool) (n : Nat) : Nat → Option (Nat → Bool)
  | 0 => some fun _ => false
  | r + 1 => match triTo t n r with
    | none => none
    | some gone => match (List.range n).find? (okV t n gone) with
      | none => none
      | some i => some (updF gone i true)
def triang (t : Nat → Nat → Bool) (n : Nat) : Bool := (triTo t n n).isSome
theorem find_first {p : Nat → Bool} {n j : Nat} (hj : j < n) (hp : p j = true) (hf : ∀ i, i < j → p i = false) : (List.range n).find? p = some j := by
  rw [List.find?_eq_some_iff_getElem]
  refine ⟨hp, j, by simpa using hj, by simp, fun i hi => ?_⟩
  simp [hf i hi]
theorem find_no {p : Nat → Bool} {n : Nat} (hf : ∀ i, i < n → p i = false) : (List.range n).find? p = none := by
  rw [List.find?_eq_none]
  intro i hi
  rw [hf i (by simpa using hi)]; simp
theorem triTo_none {t : Nat → Nat → Bool} {n r : Nat} (h : triTo t n r = none) : ∀ d, triTo t n (r + d) = none
  | 0 => h
  | d + 1 => by
    show (match triTo t n (r + d) with | none => none | some gone => _) = none
    rw [triTo_none h d]
end Go.Gr
namespace Go.Proofs.Tg.Gx
open Go.RowKit Go.Gr
set_option maxHeartbeats 4000000
set_option maxRecDepth 100000
theorem rsimp_any (g gg n i : Nat) (t : Nat → Nat → Bool) (gone : Nat → Bool) (w : World) (hT : TableAt w g n t) (hG : Blk w gg 4 (farr n fun v => .bool (gone v))) (hi : i < n) (hn : n ≤ 64) :
    Calls Tryz.prog 99 #[.slice (some ⟨g, 0, none⟩) n n, .slice (some ⟨gg, 0, none⟩) n n, .int .i64 i] w fun e w' => e = .returned (.bool (simpB t n gone i)) ∧ w = w' := by
  obtain ⟨bv, hbv⟩ : ∃ bv, simpB t n gone i = bv := ⟨_, rfl⟩
  have HV : Hid (bv = true ↔ ∀ a, a < n → ∀ b, b < a → okp t gone i a b = true) := Lib.hid (by rw [← hbv]; exact simpB_iff)
  rw [hbv]
  clear hbv
  have ci := (hT.head.cell i).trans (farr_at n _ hi)
  unfold rowV at ci
  have hin0 : (0 : Int) ≤ (i : Int) := by omega
  have hin1 : (i : Int) < (n : Int) := by omega
  go_enter Tryz.func99, Tryz.ntmps99
  go_wp2
  go_loop [7] (fun x => ∃ k : Nat, x = .int .i64 k ∧ k ≤ n ∧ Hid (∀ a, a < k → ∀ b, b < a → okp t gone i a b = true)) (fun x => n - (intOf x).toNat)
  case atStart => exact ⟨0, rfl, Nat.zero_le _, Lib.hid (fun a h => by omega)⟩
  case round =>
    obtain ⟨k, rfl, hk, HK⟩ := hrel
    by_cases hkn : k < n
    · have hkb : decide ((k : Int) < (n : Int)) = true := by simp; omega
      have cgk := (hG.cell k).trans (farr_at n _ hkn)
      have cik := ((hT.row i hi).cell k).trans (farr_at n _ hkn)
      have ck := (hT.head.cell k).trans (farr_at n _ hkn)
      unfold rowV at ck
      have k0 : (0 : Int) ≤ (k : Int) := by omega
      have k1 : (k : Int) < (n : Int) := by omega
      go_wp2
      go_loop [8] (fun x => ∃ q : Nat, x = .int .i64 q ∧ q ≤ k ∧ Hid (∀ b, b < q → okp t gone i k b = true)) (fun x => k - (intOf x).toNat)
      case atStart => exact ⟨0, rfl, Nat.zero_le _, Lib.hid (fun b h => by omega)⟩
      case round =>
        obtain ⟨q, rfl, hq, HQ⟩ := hrel
        by_cases hqk : q < k
        · have hqb : decide ((q : Int) < (k : Int)) = true := by simp; omega
          have hqn : q < n := by omega
          have cgq := (hG.cell q).trans (farr_at n _ hqn)
          have ciq := ((hT.row i hi).cell q).trans (farr_at n _ hqn)
          have ckq := ((hT.row k hkn).cell q).trans (farr_at n _ hqn)
          have q0 : (0 : Int) ≤ (q : Int) := by omega
          have q1 : (q : Int) < (n : Int) := by omega
          have HN : Hid (okp t gone i k q = true → ∀ b, b < q + 1 → okp t gone i k b = true) := Lib.hid (fun h b hb => by
            by_cases e : b = q
            · rw [e]; exact h
            · exact HQ.out b (by omega))
          have HF : Hid (okp t gone i k q = false → bv = false) := Lib.hid (fun h => by
            cases bv
            · rfl
            · have := HV.out.1 rfl k hkn q hqk
              rw [h] at this; cases this)
          have HD : Hid (okp t gone i k q = !(!gone k && !gone q && t i k && t i q && !t k q)) := Lib.hid rfl
          generalize okp t gone i k q = ok at HN HF HD
          generalize gone k = gk at cgk HD
          generalize gone q = gq at cgq HD
          generalize t i k = tik at cik HD
          generalize t i q = tiq at ciq HD
          generalize t k q = tkq at ckq HD
          have go : ok = true → Hid (∀ b, b < q + 1 → okp t gone i k b = true) := fun h => Lib.hid (HN.out h)
          have GO := Lib.hid go
          clear go HN hT hG
          cases gk
          · cases gq
            · cases tik
              · have HK2 := GO.out (by rw [HD.out]; rfl)
                clear GO HD HF
                go_wp2
                go_round
                case rel => exact ⟨q + 1, by go_num, by omega, HK2⟩
                case measure => simp [intOf]; omega
              · cases tiq
                · have HK2 := GO.out (by rw [HD.out]; rfl)
                  clear GO HD HF
                  go_wp2
                  go_round
                  case rel => exact ⟨q + 1, by go_num, by omega, HK2⟩
                  case measure => simp [intOf]; omega
                · cases tkq
                  · obtain rfl := HF.out (by rw [HD.out]; rfl)
                    clear GO HD HF
                    go_wp2
                    go_ret
                    exact ⟨rfl, rfl⟩
                  · have HK2 := GO.out (by rw [HD.out]; rfl)
                    clear GO HD HF
                    go_wp2
                    go_round
                    case rel => exact ⟨q + 1, by go_num, by omega, HK2⟩
                    case measure => simp [intOf]; omega
            · have HK2 := GO.out (by rw [HD.out]; rfl)
              clear GO HD HF
              go_wp2
              go_round
              case rel => exact ⟨q + 1, by go_num, by omega, HK2⟩
              case measure => simp [intOf]; omega
          · have HK2 := GO.out (by rw [HD.out]; rfl)
            clear GO HD HF
            go_wp2
            go_round
            case rel => exact ⟨q + 1, by go_num, by omega, HK2⟩
            case measure => simp [intOf]; omega
        · obtain rfl : q = k := by omega
          have hqb : decide ((q : Int) < (q : Int)) = false := by simp
          have HK2 : Hid (∀ a, a < q + 1 → ∀ b, b < a → okp t gone i a b = true) := Lib.hid (fun a ha => by
            by_cases e : a = q
            · rw [e]; exact HQ.out
            · exact HK.out a (by omega))
          go_wp2
          go_round
          case rel => exact ⟨q + 1, by go_num, by omega, HK2⟩
          case measure => simp [intOf]; omega
    · obtain rfl : k = n := by omega
      have hkb : decide ((k : Int) < (k : Int)) = false := by simp
      obtain rfl : bv = true := HV.out.2 HK.out
      go_wp2
      go_ret
      exact ⟨rfl, rfl⟩
end Go.Proofs.Tg.Gx
end
section
/- The reference's Fill. -/
namespace Go.Gr
def cntR (t : Nat → Nat → Bool) (gone : Nat → Bool) (i k : Nat) : Nat := ((List.range k).filter fun j => t i j && !gone j).length
theorem cntR_succ (t : Nat → Nat → Bool) (gone : Nat → Bool) (i k : Nat) : cntR t gone i (k + 1) = cntR t gone i k + if (t i k && !gone k) = true then 1 else 0 := by
  unfold cntR
  rw [List.range_succ, List.filter_append, List.length_append]
  cases h : (t i k && !gone k) <;> simp [h]
theorem cntR_le (t : Nat → Nat → Bool) (gone : Nat → Bool) (i k : Nat) : cntR t gone i k ≤ k := by
  unfold cntR
  exact Nat.le_trans (List.length_filter_le _ _) (by simp)
def minStepR (t : Nat → Nat → Bool) (n : Nat) (gone : Nat → Bool) (bm : Int × Int) (i : Nat) : Int × Int := if gone i = false ∧ ((cntR t gone i n : Nat) : Int) < bm.2 then ((i : Int), ((cntR t gone i n : Nat) : Int)) else bm
def minR (t : Nat → Nat → Bool) (n : Nat) (gone : Nat → Bool) (k : Nat) : Int × Int := (List.range k).foldl (minStepR t n gone) (-1, (n : Int) + 1)
theorem minR_succ (t : Nat → Nat → Bool) (n : Nat) (gone : Nat → Bool) (k : Nat) : minR t n gone (k + 1) = minStepR t n gone (minR t n gone k) k := by simp [minR, List.range_succ]
/-- What the choice comes to: the first of those with the fewest. -/
theorem minR_spec (t : Nat → Nat → Bool) (n : Nat) (gone : Nat → Bool) : ∀ k, (minR t n gone k = (-1, (n : Int) + 1) ∧ ∀ j, j < k → gone j = true) ∨
    ∃ i, i < k ∧ gone i = false ∧ minR t n gone k = ((i : Int), ((cntR t gone i n : Nat) : Int)) ∧ (∀ j, j < k → gone j = false → cntR t gone i n ≤ cntR t gone j n) ∧ (∀ j, j < i → gone j = false → cntR t gone i n < cntR t gone j n)
  | 0 => .inl ⟨rfl, fun j h => by omega⟩
  | k + 1 => by
    rw [minR_succ]
    rcases minR_spec t n gone k with ⟨h1, h2⟩ | ⟨i, hi, hg, he, hm, hf⟩
    · rw [h1]
      cases hk : gone k
      · right
        refine ⟨k, by omega, hk, ?_, fun j hj hgj => ?_, fun j hj hgj => ?_⟩
        · unfold minStepR
          rw [if_pos ⟨hk, by have := cntR_le t gone k n; simp; omega⟩]
        · by_cases e : j = k
          · rw [e]; exact Nat.le_refl _
          · rw [h2 j (by omega)] at hgj; cases hgj
        · rw [h2 j hj] at hgj; cases hgj
      · left
        refine ⟨by unfold minStepR; rw [if_neg (by rw [hk]; simp)], fun j hj => ?_⟩
        by_cases e : j = k
        · rw [e]; exact hk
        · exact h2 j (by omega)
    · right
      rw [he]
      by_cases hc : gone k = false ∧ cntR t gone k n < cntR t gone i n
      · refine ⟨k, by omega, hc.1, ?_, fun j hj hgj => ?_, fun j hj hgj => ?_⟩
        · unfold minStepR; rw [if_pos ⟨hc.1, by simp; omega⟩]
        · by_cases e : j = k
          · rw [e]; exact Nat.le_refl _
          · have := hm j (by omega) hgj; omega
        · have := hm j hj hgj; omega
      · refine ⟨i, by omega, hg, ?_, fun j hj hgj => ?_, hf⟩
        · unfold minStepR; rw [if_neg (fun h => hc ⟨h.1, by have := h.2; simp at this; omega⟩)]
        · by_cases e : j = k
          · subst e
            by_cases hlt : cntR t gone j n < cntR t gone i n
            · exact absurd ⟨hgj, hlt⟩ hc
            · omega
          · exact hm j (by omega) hgj
def stepF (gone : Nat → Bool) (best a : Nat) (t : Nat → Nat → Bool) (b : Nat) : Nat → Nat → Bool := if (!gone a && !gone b && t best a && t best b) = true then joinT t a b else t
def rowF (gone : Nat → Bool) (best a : Nat) (t : Nat → Nat → Bool) (k : Nat) : Nat → Nat → Bool := (List.range k).foldl (stepF gone best a) t
theorem rowF_succ (gone : Nat → Bool) (best a : Nat) (t : Nat → Nat → Bool) (k : Nat) : rowF gone best a t (k + 1) = stepF gone best a (rowF gone best a t k) k := by simp [rowF, List.range_succ]
def allF (gone : Nat → Bool) (best : Nat) (t : Nat → Nat → Bool) (k : Nat) : Nat → Nat → Bool := (List.range k).foldl (fun t a => rowF gone best a t a) t
theorem allF_succ (gone : Nat → Bool) (best : Nat) (t : Nat → Nat → Bool) (k : Nat) : allF gone best t (k + 1) = rowF gone best k (allF gone best t k) k := by simp [allF, List.range_succ]
/-- The table, and what is gone, after r steps. -/
def fillTo (t : Nat → Nat → Bool) (n : Nat) : Nat → (Nat → Nat → Bool) × (Nat → Bool)
  | 0 => (t, fun _ => false)
  | r + 1 => (allF (fillTo t n r).2 (minR (fillTo t n r).1 n (fillTo t n r).2 n).1.toNat (fillTo t n r).1 n, updF (fillTo t n r).2 (minR (fillTo t n r).1 n (fillTo t n r).2 n).1.toNat true)
theorem fill_left {t : Nat → Nat → Bool} {n : Nat} : ∀ r, r ≤ n → ∃ l : List Nat, l.length = r ∧ ∀ v, (fillTo t n r).2 v = true → v ∈ l
  | 0, _ => ⟨[], rfl, fun v h => by cases h⟩
  | r + 1, hr => by
    obtain ⟨l, h1, h2⟩ := fill_left (t := t) (n := n) r (by omega)
    refine ⟨(minR (fillTo t n r).1 n (fillTo t n r).2 n).1.toNat :: l, by simp [h1], fun v hv => ?_⟩
    have hv : updF (fillTo t n r).2 (minR (fillTo t n r).1 n (fillTo t n r).2 n).1.toNat true v = true := hv
    unfold updF at hv
    by_cases e : v = (minR (fillTo t n r).1 n (fillTo t n r).2 n).1.toNat
    · simp [e]
    · rw [if_neg e] at hv
      simp [h2 v hv]
theorem fill_best {t : Nat → Nat → Bool} {n r : Nat} (hr : r < n) : ∃ i c : Nat, i < n ∧ minR (fillTo t n r).1 n (fillTo t n r).2 n = ((i : Int), (c : Int)) := by
  rcases minR_spec (fillTo t n r).1 n (fillTo t n r).2 n with ⟨_, h2⟩ | ⟨i, hi, _, he, _⟩
  · exfalso
    obtain ⟨l, h3, h4⟩ := fill_left (t := t) (n := n) r (by omega)
    have := cover_le n l (fun v hv => h4 v (h2 v hv))
    omega
  · exact ⟨i, _, hi, he⟩
end Go.Gr
namespace Go.Proofs.Tg.Gx
open Go.RowKit Go.Gr
set_option maxHeartbeats 4000000
set_option maxRecDepth 100000
theorem TableAt.far {w : World} {g n : Nat} {t : Nat → Nat → Bool} (h : TableAt w g n t) {p : Addr} (h0 : p.block ≠ g) (h1 : ∀ i, i < n → p.block ≠ g + 1 + i) (u : Value) : TableAt (w.setCell p u) g n t :=
  ⟨h.head.far (fun e => h0 e.symm) u, fun i hi => (h.row i hi).far (fun e => h1 i hi e.symm) u⟩
theorem TableAt.setRow {w : World} {g n k : Nat} {t : Nat → Nat → Bool} (h : TableAt w g n t) (hk : k < n) (f : Nat → Bool) : TableAt (w.setRow (g + 1 + k) (farr n fun j => .bool (f j))) g n (fun i j => if i = k then f j else t i j) := by
  refine ⟨blk_setRow_far h.head (by omega) _, fun i hi => ?_⟩
  by_cases e : i = k
  · subst e
    have := blk_setRow (h.row i hi) (farr n fun j => .bool (f j))
    simpa using this
  · have := blk_setRow_far (h.row i hi) (g' := g + 1 + k) (by omega) (farr n fun j => .bool (f j))
    simpa [e] using this
theorem bool_size : (Tryz.prog.info? 4).map (·.size) = some 1 := by kernel_rfl
theorem rfill_any (g n : Nat) (t : Nat → Nat → Bool) (w : World) (hT : TableAt w g n t) (hn : n ≤ 64) :
    Calls Tryz.prog 64 #[.slice (some ⟨g, 0, none⟩) n n] w (RetTable n (fillTo t n n).1 w) := by
  have hgl0 : g < w.heap.size := hT.head.lt
  go_enter Tryz.func64, Tryz.ntmps64
  go_wp2_with (go_at_call 59; refine (blank_any n _ (by omega)).mono ?_; rintro e w1 ⟨rfl, hTb, hb1⟩)
  generalize hGd : w.heap.size = G at hTb ⊢
  have hGw : w.heap.size ≤ G := by omega
  have hGw2 : G ≤ w.heap.size := by omega
  have HGD := Lib.hid hGd
  clear hGd
  go_loopw [4] (fun x wr => ∃ k : Nat, x = .int .i64 k ∧ k ≤ n ∧ TableAt wr G n (fun i j => decide (i < k) && t i j) ∧ Below w.heap.size w wr) (fun x _ => n - (intOf x).toNat)
  case atStart =>
    refine ⟨0, rfl, Nat.zero_le _, ?_, hb1⟩
    have e : (fun i j => decide (i < 0) && t i j) = fun _ _ => false := by funext i j; simp
    rw [e]; exact hTb
  case round =>
    clear hTb hb1
    obtain ⟨k, rfl, hk, hO, hb⟩ := hrel
    have hTr := hT.keep hb (Nat.le_refl _)
    by_cases hkn : k < n
    · have hkb : decide ((k : Int) < (n : Int)) = true := by simp; omega
      have c1 := (hO.head.cell k).trans (farr_at n _ hkn)
      have c2 := (hTr.head.cell k).trans (farr_at n _ hkn)
      unfold rowV at c1 c2
      have k0 : (0 : Int) ≤ (k : Int) := by omega
      have k1 : (k : Int) < (n : Int) := by omega
      have HO := Lib.hid hO
      have HTR := Lib.hid hTr
      clear hO hTr
      have hcopy : (((farr n fun j => Value.bool (decide (k < k) && t k j)).toList.take 0 ++ (((List.range n).map fun j => Value.bool (t k j)) ++ (farr n fun j => Value.bool (decide (k < k) && t k j)).toList.drop (0 + ((List.range n).map fun j => Value.bool (t k j)).length))).toArray) = farr n fun j => .bool (t k j) := by
        simp [farr]
      have HCP := Lib.hid hcopy
      clear hcopy
      go_wp2
      go_still_tail 8, (by kernel_rfl)
      change wpList _ _ _ _ _ wr.drew
      refine wpList_copy_own rfl (.tmp 26) (.tmp 30) 112 112 rfl 4 Tryz.underlying112 bool_size (G + 1 + k) 0 n n ⟨g + 1 + k, 0, none⟩ n n rfl rfl (farr n fun j => .bool (decide (k < k) && t k j)) 4 (HO.out.row k hkn) ((List.range n).map fun j => .bool (t k j)) (by simp) ?c1 (by simp [farr]) (by simp [Value.oneCell']) ?_
      case c1 =>
        intro j v hv
        have hj : j < n := by
          have := (List.getElem?_eq_some_iff.1 hv).1
          simpa using this
        rw [add_lit, Nat.zero_add]
        have := ((HTR.out.row k hkn).cell j).trans (farr_at n _ hj)
        simp [hj] at hv
        rw [← hv]
        exact this
      rw [HCP.out]
      have hO2 := TableAt.setRow (HO.out.drew) hkn (fun j => t k j)
      have hO3 : TableAt (wr.drew.setRow (G + 1 + k) (farr n fun j => .bool (t k j))) G n (fun i j => decide (i < k + 1) && t i j) := by
        have e : (fun i j => if i = k then t k j else decide (i < k) && t i j) = fun i j => decide (i < k + 1) && t i j := by
          funext i j
          by_cases h : i = k
          · simp [h]
          · rw [if_neg h]
            have : decide (i < k) = decide (i < k + 1) := by rw [Bool.eq_iff_iff]; simp; omega
            rw [this]
        rw [← e]; exact hO2
      have hb3 : Below w.heap.size w (wr.drew.setRow (G + 1 + k) (farr n fun j => .bool (t k j))) := below_setRow hb.drew (by omega) _
      clear hO2
      generalize wr.drew.setRow (G + 1 + k) (farr n fun j => .bool (t k j)) = W2 at hO3 hb3 ⊢
      go_wp2
      go_roundw
      case rel => exact ⟨k + 1, by go_num, by omega, hO3, hb3⟩
      case measure => simp [intOf]; omega
    · obtain rfl : k = n := by omega
      have hkb : decide ((k : Int) < (k : Int)) = false := by simp
      have hO1 : TableAt wr G k (fillTo t k 0).1 := by
        refine ⟨hO.head, fun i hi => ?_⟩
        have := hO.row i hi
        rw [show (farr k fun j => Value.bool (decide (i < k) && t i j)) = farr k fun j => Value.bool ((fillTo t k 0).1 i j) from farr_congr (fun j _ => by simp [hi, fillTo])] at this
        exact this
      have m1 := fun W => make_bools k (by omega) W
      have hGl : ∀ i, i < k → G + 1 + i < wr.heap.size := fun i hi => (hO.row i hi).lt
      have hGl0 : G < wr.heap.size := hO.head.lt
      clear hO hkn hTr
      go_wp2
      clear m1
      have hB0 := Blk.new wr 4 (farr k fun _ => .bool false)
      have hO2 := hO1.keep ((Below.refl wr.heap.size wr).alloc (Nat.le_refl _) (.cells (farr k fun _ => .bool false) 4)) (Nat.le_refl _)
      have hb2 : Below w.heap.size w (wr.alloc (.cells (farr k fun _ => .bool false) 4)) := hb.alloc hb.size _
      have hwr := hb.size
      generalize wr.alloc (.cells (farr k fun _ => .bool false) 4) = W2 at hB0 hO2 hb2 ⊢
      generalize wr.heap.size = Gg at hB0 hGl hGl0 hwr ⊢
      have HGL := Lib.hid hGl
      clear hGl hb hO1
      go_loopw [6] (fun x wr => ∃ l : Nat, x = .int .i64 l ∧ l ≤ k ∧ TableAt wr G k (fillTo t k (k - l)).1 ∧ Blk wr Gg 4 (farr k fun v => .bool ((fillTo t k (k - l)).2 v)) ∧ Below w.heap.size w wr) (fun x _ => (intOf x).toNat)
      case atStart => exact ⟨k, rfl, Nat.le_refl _, by rw [Nat.sub_self]; exact hO2, by rw [Nat.sub_self]; exact hB0, hb2⟩
      case round =>
        clear hB0 hO2 hb2
        obtain ⟨l, rfl, hl, hO, hG, hb⟩ := hrel
        by_cases hl0 : 0 < l
        · have hlb : decide ((0 : Int) < (l : Int)) = true := by simp; omega
          have hlb' : decide (0 < l) = true := by simp; omega
          obtain ⟨bi, bc, hbi, hbest⟩ := fill_best (t := t) (n := k) (r := k - l) (by omega)
          have HN : Hid (fillTo t k (k - (l - 1)) = (allF (fillTo t k (k - l)).2 bi (fillTo t k (k - l)).1 k, updF (fillTo t k (k - l)).2 bi true)) := Lib.hid (by
            rw [show k - (l - 1) = k - l + 1 from by omega]
            show (allF _ (minR (fillTo t k (k - l)).1 k (fillTo t k (k - l)).2 k).1.toNat _ k, updF _ (minR (fillTo t k (k - l)).1 k (fillTo t k (k - l)).2 k).1.toNat true) = _
            rw [hbest]; rfl)
          have HBE := Lib.hid hbest
          clear hbest
          generalize (fillTo t k (k - l)).1 = u at HN HBE hO
          generalize (fillTo t k (k - l)).2 = gone at HN HBE hG
          go_wp2
          go_loopw [9, 7, 8] (fun x b m wr => ∃ i : Nat, x = .int .i64 i ∧ i ≤ k ∧ b = .int .i64 (minR u k gone i).1 ∧ m = .int .i64 (minR u k gone i).2 ∧ TableAt wr G k u ∧ Blk wr Gg 4 (farr k fun v => .bool (gone v)) ∧ Below w.heap.size w wr) (fun x _ _ _ => k - (intOf x).toNat)
          case atStart => exact ⟨0, rfl, Nat.zero_le _, rfl, rfl, hO, hG, hb⟩
          case round =>
            clear hO hG hb
            obtain ⟨i, rfl, hi, rfl, rfl, hO, hG, hb⟩ := hrel
            by_cases hik : i < k
            · have hib : decide ((i : Int) < (k : Int)) = true := by simp; omega
              have HMS := Lib.hid (minR_succ u k gone i)
              generalize minR u k gone i = bm at HMS ⊢
              obtain ⟨b1, b2⟩ := bm
              unfold minStepR at HMS
              simp only at HMS ⊢
              have i0 : (0 : Int) ≤ (i : Int) := by omega
              have i1 : (i : Int) < (k : Int) := by omega
              have ci := (hO.head.cell i).trans (farr_at k _ hik)
              unfold rowV at ci
              have cgi := (hG.cell i).trans (farr_at k _ hik)
              go_wp2
              go_loop [11, 10] (fun x s => ∃ q c : Nat, x = .int .i64 q ∧ q ≤ k ∧ s = .int .i64 c ∧ c ≤ q ∧ Hid (c = cntR u gone i q)) (fun x _ => k - (intOf x).toNat)
              case atStart => exact ⟨0, 0, rfl, Nat.zero_le _, rfl, Nat.le_refl _, Lib.hid (by simp [cntR])⟩
              case round =>
                obtain ⟨q, c, rfl, hq, rfl, hcq, HC⟩ := hrel
                by_cases hqk : q < k
                · have hqb : decide ((q : Int) < (k : Int)) = true := by simp; omega
                  have ciq := ((hO.row i hik).cell q).trans (farr_at k _ hqk)
                  have cgq := (hG.cell q).trans (farr_at k _ hqk)
                  have HS := Lib.hid (cntR_succ u gone i q)
                  have q0 : (0 : Int) ≤ (q : Int) := by omega
                  have q1 : (q : Int) < (k : Int) := by omega
                  generalize u i q = uq at ciq HS
                  generalize gone q = gq at cgq HS
                  cases uq
                  · have HC2 : Hid (c = cntR u gone i (q + 1)) := Lib.hid (by rw [HS.out, HC.out]; simp)
                    clear HC HS
                    go_wp2
                    go_round
                    case rel => exact ⟨q + 1, c, by go_num, by omega, rfl, by omega, HC2⟩
                    case measure => simp [intOf]; omega
                  · cases gq
                    · have HC2 : Hid (c + 1 = cntR u gone i (q + 1)) := Lib.hid (by rw [HS.out, HC.out]; simp)
                      clear HC HS
                      go_wp2
                      go_round
                      case rel => exact ⟨q + 1, c + 1, by go_num, by omega, by go_num, by omega, HC2⟩
                      case measure => simp [intOf]; omega
                    · have HC2 : Hid (c = cntR u gone i (q + 1)) := Lib.hid (by rw [HS.out, HC.out]; simp)
                      clear HC HS
                      go_wp2
                      go_round
                      case rel => exact ⟨q + 1, c, by go_num, by omega, rfl, by omega, HC2⟩
                      case measure => simp [intOf]; omega
                · obtain rfl : q = k := by omega
                  have hqb : decide ((q : Int) < (q : Int)) = false := by simp
                  rw [← HC.out] at HMS
                  clear HC
                  generalize gone i = gi at cgi HMS
                  cases gi
                  · by_cases hlt : (c : Int) < b2
                    · have d1 : decide ((c : Int) < b2) = true := by simpa using hlt
                      rw [if_pos ⟨rfl, hlt⟩] at HMS
                      go_wp2
                      go_roundw
                      case rel => exact ⟨i + 1, by go_num, by omega, by rw [HMS.out], by rw [HMS.out], hO, hG, hb⟩
                      case measure => simp [intOf]; omega
                    · have d1 : decide ((c : Int) < b2) = false := by simpa using hlt
                      rw [if_neg (fun h => hlt h.2)] at HMS
                      go_wp2
                      go_roundw
                      case rel => exact ⟨i + 1, by go_num, by omega, by rw [HMS.out], by rw [HMS.out], hO, hG, hb⟩
                      case measure => simp [intOf]; omega
                  · rw [if_neg (fun h => by cases h.1)] at HMS
                    go_wp2
                    go_roundw
                    case rel => exact ⟨i + 1, by go_num, by omega, by rw [HMS.out], by rw [HMS.out], hO, hG, hb⟩
                    case measure => simp [intOf]; omega
            · obtain rfl : i = k := by omega
              have hib : decide ((i : Int) < (i : Int)) = false := by simp
              rw [HBE.out]
              simp only
              clear HBE
              have b0 : (0 : Int) ≤ (bi : Int) := by omega
              have b1 : (bi : Int) < (i : Int) := by omega
              go_wp2
              go_loopw [12] (fun x wr => ∃ a : Nat, x = .int .i64 a ∧ a ≤ i ∧ TableAt wr G i (allF gone bi u a) ∧ Blk wr Gg 4 (farr i fun v => .bool (gone v)) ∧ Below w.heap.size w wr) (fun x _ => i - (intOf x).toNat)
              case atStart => exact ⟨0, rfl, Nat.zero_le _, hO, hG, hb⟩
              case round =>
                clear hO hG hb
                obtain ⟨a, rfl, ha, hO, hG, hb⟩ := hrel
                by_cases hai : a < i
                · have hab : decide ((a : Int) < (i : Int)) = true := by simp; omega
                  have a0 : (0 : Int) ≤ (a : Int) := by omega
                  have a1 : (a : Int) < (i : Int) := by omega
                  go_wp2
                  go_loopw [13] (fun x wr => ∃ b : Nat, x = .int .i64 b ∧ b ≤ a ∧ TableAt wr G i (rowF gone bi a (allF gone bi u a) b) ∧ Blk wr Gg 4 (farr i fun v => .bool (gone v)) ∧ Below w.heap.size w wr) (fun x _ => a - (intOf x).toNat)
                  case atStart => exact ⟨0, rfl, Nat.zero_le _, hO, hG, hb⟩
                  case round =>
                    clear hO hG hb
                    obtain ⟨b, rfl, hb', hO, hG, hb⟩ := hrel
                    by_cases hba : b < a
                    · have hbb : decide ((b : Int) < (a : Int)) = true := by simp; omega
                      have hbi2 : b < i := by omega
                      have c0 : (0 : Int) ≤ (b : Int) := by omega
                      have c1 : (b : Int) < (i : Int) := by omega
                      have HS := Lib.hid (rowF_succ gone bi a (allF gone bi u a) b)
                      generalize rowF gone bi a (allF gone bi u a) b = v at HS hO
                      unfold stepF at HS
                      have cga := (hG.cell a).trans (farr_at i _ hai)
                      have cgb := (hG.cell b).trans (farr_at i _ hbi2)
                      have cbi := (hO.head.cell bi).trans (farr_at i _ hbi)
                      unfold rowV at cbi
                      have cva := ((hO.row bi hbi).cell a).trans (farr_at i _ hai)
                      have cvb := ((hO.row bi hbi).cell b).trans (farr_at i _ hbi2)
                      have HGa : Hid (gone a = gone a) := Lib.hid rfl
                      obtain ⟨ga, hga⟩ : ∃ x, gone a = x := ⟨_, rfl⟩
                      obtain ⟨gb, hgb⟩ : ∃ x, gone b = x := ⟨_, rfl⟩
                      obtain ⟨va, hva⟩ : ∃ x, v bi a = x := ⟨_, rfl⟩
                      obtain ⟨vb, hvb⟩ : ∃ x, v bi b = x := ⟨_, rfl⟩
                      rw [hga] at cga HS
                      rw [hgb] at cgb HS
                      rw [hva] at cva HS
                      rw [hvb] at cvb HS
                      clear hga hgb hva hvb HGa
                      cases ga
                      · cases gb
                        · cases va
                          · have HK2 : Hid (TableAt wr G i (rowF gone bi a (allF gone bi u a) (b + 1))) := Lib.hid (by rw [HS.out]; exact hO)
                            clear HS
                            go_wp2
                            go_roundw
                            case rel => exact ⟨b + 1, by go_num, by omega, HK2.out, hG, hb⟩
                            case measure => simp [intOf]; omega
                          · cases vb
                            · have HK2 : Hid (TableAt wr G i (rowF gone bi a (allF gone bi u a) (b + 1))) := Lib.hid (by rw [HS.out]; exact hO)
                              clear HS
                              go_wp2
                              go_roundw
                              case rel => exact ⟨b + 1, by go_num, by omega, HK2.out, hG, hb⟩
                              case measure => simp [intOf]; omega
                            · have HK2 : Hid (rowF gone bi a (allF gone bi u a) (b + 1) = joinT v a b) := Lib.hid (by rw [HS.out]; rfl)
                              clear HS
                              have ca := (hO.head.cell a).trans (farr_at i _ hai)
                              have cb := (hO.head.cell b).trans (farr_at i _ hbi2)
                              unfold rowV at ca cb
                              have cab := ((hO.row a hai).cell b).trans (farr_at i _ hbi2)
                              have cba := ((hO.row b hbi2).cell a).trans (farr_at i _ hai)
                              have fab := (hO.row a hai).frozen b
                              have fba := (hO.row b hbi2).frozen a
                              have HT3 := Lib.hid ((hO.set (b := b) hai).set (b := a) hbi2)
                              have HGA := HGL.out a hai
                              have HGB := HGL.out b hbi2
                              generalize v a b = vab at cab
                              generalize v b a = vba at cba
                              clear hO
                              go_wp2
                              go_region
                              go_wp2
                              go_roundw
                              case rel =>
                                refine ⟨b + 1, by go_num, by omega, ?_, ?_, ?_⟩
                                · rw [HK2.out]; exact ⟨HT3.out.head, HT3.out.row⟩
                                · exact (hG.far (p := ⟨G + 1 + a, b, none⟩) (by simp; omega) (.bool true)).far (p := ⟨G + 1 + b, a, none⟩) (by simp; omega) (.bool true)
                                · exact below_drewN ((hb.setCell (p := ⟨G + 1 + a, b, none⟩) (by simp; omega) (.bool true)).setCell (p := ⟨G + 1 + b, a, none⟩) (by simp; omega) (.bool true)) _
                              case measure => simp [intOf]; omega
                        · have HK2 : Hid (TableAt wr G i (rowF gone bi a (allF gone bi u a) (b + 1))) := Lib.hid (by rw [HS.out]; exact hO)
                          clear HS
                          go_wp2
                          go_roundw
                          case rel => exact ⟨b + 1, by go_num, by omega, HK2.out, hG, hb⟩
                          case measure => simp [intOf]; omega
                      · have HK2 : Hid (TableAt wr G i (rowF gone bi a (allF gone bi u a) (b + 1))) := Lib.hid (by rw [HS.out]; exact hO)
                        clear HS
                        go_wp2
                        go_roundw
                        case rel => exact ⟨b + 1, by go_num, by omega, HK2.out, hG, hb⟩
                        case measure => simp [intOf]; omega
                    · obtain rfl : b = a := by omega
                      have hbb : decide ((b : Int) < (b : Int)) = false := by simp
                      have HK2 : Hid (TableAt wr G i (allF gone bi u (b + 1))) := Lib.hid (by rw [allF_succ]; exact hO)
                      go_wp2
                      go_roundw
                      case rel => exact ⟨b + 1, by go_num, by omega, HK2.out, hG, hb⟩
                      case measure => simp [intOf]; omega
                · obtain rfl : a = i := by omega
                  have hab : decide ((a : Int) < (a : Int)) = false := by simp
                  have cg := (hG.cell bi).trans (farr_at a _ hbi)
                  have fg := hG.frozen bi
                  have HO2 : Hid (TableAt (wr.setCell ⟨Gg, bi, none⟩ (.bool true)) G a (fillTo t a (a - (l - 1))).1) := Lib.hid (by
                    rw [HN.out]
                    exact hO.far (by simp; omega) (fun j hj => by have := HGL.out j hj; simp; omega) _)
                  have HG2 : Hid (Blk (wr.setCell ⟨Gg, bi, none⟩ (.bool true)) Gg 4 (farr a fun v => .bool ((fillTo t a (a - (l - 1))).2 v))) := Lib.hid (by
                    rw [HN.out]
                    have := hG.set (i := bi) (.bool true)
                    rw [farr_upd (fun v : Bool => Value.bool v) gone] at this
                    exact this)
                  have HB2 : Hid (Below w.heap.size w (wr.setCell ⟨Gg, bi, none⟩ (.bool true))) := Lib.hid (hb.setCell (by simp; omega) _)
                  go_wp2
                  go_roundw
                  case rel => exact ⟨l - 1, by go_num, by omega, HO2.out, HG2.out, HB2.out⟩
                  case measure => simp [intOf]; omega
        · obtain rfl : l = 0 := by omega
          have hlb : decide ((0 : Int) < ((0 : Nat) : Int)) = false := by simp
          go_wp2
          go_ret
          exact ⟨G, hGw, rfl, hO, hb⟩
end Go.Proofs.Tg.Gx
end
section
/- The reference's subset and Less. -/
namespace Go.Gr
theorem cmpL_drop {a b : List Int} {k : Nat} (ha : k < a.length) (hb : k < b.length) : cmpL (a.drop k) (b.drop k) = if a[k] < b[k] then -1 else if b[k] < a[k] then 1 else cmpL (a.drop (k + 1)) (b.drop (k + 1)) := by
  rw [List.drop_eq_getElem_cons ha, List.drop_eq_getElem_cons hb]
  rfl
theorem cmpL_short {a b : List Int} (h : a = [] ∨ b = []) : cmpL a b < 0 ↔ a.length < b.length := by
  cases a <;> cases b <;> simp_all [cmpL]
end Go.Gr
namespace Go.Proofs.Tg.Gx
open Go.RowKit Go.Gr
set_option maxHeartbeats 4000000
set_option maxRecDepth 100000
theorem rsub_any (A B : Option Addr) (a b : List Int) (c d : Nat) (bv : Bool) (w : World) (hA : Ints w A a) (hB : Ints w B b) (hal : a.length ≤ 1000) (hbl : b.length ≤ 1000) (hv : bv = true ↔ common a b = a.length) :
    Calls Tryz.prog 100 #[.slice A a.length c, .slice B b.length d] w fun e w' => e = .returned (.bool bv) ∧ ∃ n, w' = w.drewN n := by
  have HC := Lib.hid (common_any A B a b c d w hA hB hal hbl)
  clear hA hB
  by_cases h : common a b = a.length
  · obtain rfl : bv = true := hv.2 h
    have e1 : (((common a b : Nat) : Int) == (a.length : Int)) = true := beq_iff_eq.2 (by omega)
    clear hv h
    generalize common a b = z at HC e1
    go_enter Tryz.func100, Tryz.ntmps100
    go_wp2_with (go_at_call 121; refine HC.out.mono ?_; rintro e w1 ⟨rfl, hw1⟩; have HW := Lib.hid hw1; clear hw1)
    go_ret
    exact ⟨rfl, HW.out⟩
  · obtain rfl : bv = false := by
      cases bv
      · rfl
      · exact absurd (hv.1 rfl) h
    have e1 : (((common a b : Nat) : Int) == (a.length : Int)) = false := beq_eq_false_iff_ne.2 (by omega)
    clear hv h
    generalize common a b = z at HC e1
    go_enter Tryz.func100, Tryz.ntmps100
    go_wp2_with (go_at_call 121; refine HC.out.mono ?_; rintro e w1 ⟨rfl, hw1⟩; have HW := Lib.hid hw1; clear hw1)
    go_ret
    exact ⟨rfl, HW.out⟩
theorem rless_any (A B : Option Addr) (a b : List Int) (c d : Nat) (bv : Bool) (w : World) (hA : Ints w A a) (hB : Ints w B b) (hal : a.length ≤ 1000) (hbl : b.length ≤ 1000) (hv : bv = true ↔ cmpL a b < 0) :
    Calls Tryz.prog 101 #[.slice A a.length c, .slice B b.length d] w fun e w' => e = .returned (.bool bv) ∧ ∃ n, w' = w.drewN n := by
  have HV := Lib.hid hv
  clear hv
  go_enter Tryz.func101, Tryz.ntmps101
  go_wp2
  go_loopw [5] (fun i wr => ∃ k : Nat, i = .int .i64 k ∧ k ≤ a.length ∧ k ≤ b.length ∧ Hid (cmpL a b = cmpL (a.drop k) (b.drop k)) ∧ Below w.heap.size w wr ∧ Hid (∃ n, wr = w.drewN n)) (fun i _ => a.length - (intOf i).toNat)
  case atStart => exact ⟨0, rfl, Nat.zero_le _, Nat.zero_le _, Lib.hid rfl, Below.refl _ _, Lib.hid ⟨0, rfl⟩⟩
  case round =>
    obtain ⟨k, rfl, hka, hkb, HC, hb, HD⟩ := hrel
    by_cases h : k < a.length ∧ k < b.length
    · obtain ⟨h1, h2⟩ := h
      have q1 : decide ((k : Int) < (a.length : Int)) = true := by simp; omega
      have q2 : decide ((k : Int) < (b.length : Int)) = true := by simp; omega
      have HS := Lib.hid (cmpL_drop h1 h2)
      obtain ⟨ad, rfl, hc⟩ := Ints.at (hA.keep hb) h1
      obtain ⟨bd, rfl, hd⟩ := Ints.at (hB.keep hb) h2
      generalize a[k] = x at HS hc
      generalize b[k] = y at HS hd
      have k0 : (0 : Int) ≤ (k : Int) := by omega
      have k1 : (k : Int) < (a.length : Int) := by omega
      have k2 : (k : Int) < (b.length : Int) := by omega
      clear hA hB
      by_cases hxy : x = y
      · subst hxy
        have hne : (x != x) = false := by simp
        have HC2 : Hid (cmpL a b = cmpL (a.drop (k + 1)) (b.drop (k + 1))) := Lib.hid (by rw [HC.out, HS.out, if_neg (by omega), if_neg (by omega)])
        clear HC HS
        go_wp2
        go_quiet (fail)
        go_wp2
        go_roundw
        case rel => exact ⟨k + 1, by go_num, by omega, by omega, HC2, below_drewN hb _, drew_more HD _⟩
        case measure => simp [intOf]; omega
      · have hne : (x != y) = true := by simpa using hxy
        by_cases hlt : x < y
        · have q3 : decide (x < y) = true := by simpa using hlt
          obtain rfl : bv = true := HV.out.2 (by rw [HC.out, HS.out, if_pos hlt]; omega)
          clear HC HS HV hxy
          go_wp2
          go_quiet (fail)
          go_wp2
          go_quiet (fail)
          go_wp2
          go_ret
          exact ⟨rfl, (drew_more (drew_more HD _) _).out⟩
        · have q3 : decide (x < y) = false := by simpa using hlt
          obtain rfl : bv = false := by
            cases bv
            · rfl
            · have := HV.out.1 rfl
              rw [HC.out, HS.out, if_neg hlt, if_pos (by omega)] at this
              omega
          clear HC HS HV hxy
          go_wp2
          go_quiet (fail)
          go_wp2
          go_quiet (fail)
          go_wp2
          go_ret
          exact ⟨rfl, (drew_more (drew_more HD _) _).out⟩
    · have HE : Hid (bv = decide (a.length < b.length)) := Lib.hid (by
        rw [Bool.eq_iff_iff, HV.out, HC.out, cmpL_short (by
          by_cases hk : k = a.length
          · left; rw [hk]; simp
          · right; rw [show k = b.length by omega]; simp)]
        simp only [List.length_drop, decide_eq_true_eq]
        omega)
      have hcase : a.length ≤ k ∨ (k < a.length ∧ b.length ≤ k) := by omega
      obtain ⟨bl, hbl2⟩ : ∃ bl, decide (a.length < b.length) = bl := ⟨_, rfl⟩
      rw [hbl2] at HE
      have q3 : decide ((a.length : Int) < (b.length : Int)) = bl := by rw [← hbl2]; simp
      have HW := HE.out
      subst HW
      clear HV HC h hA hB
      rcases hcase with h1 | ⟨h1, h2⟩
      · have q1 : decide ((k : Int) < (a.length : Int)) = false := by simp; omega
        go_wp2
        go_ret
        exact ⟨rfl, HD.out⟩
      · have q1 : decide ((k : Int) < (a.length : Int)) = true := by simp; omega
        have q2 : decide ((k : Int) < (b.length : Int)) = false := by simp; omega
        go_wp2
        go_ret
        exact ⟨rfl, HD.out⟩
end Go.Proofs.Tg.Gx
end
section
/- Plain mathematics of chordal graphs: a graph with a perfect elimination order has the order of every maximum cardinality search as one. No program in sight. -/
namespace Go.Chordal

/-- A list of vertices, the first one eliminated first: the later neighbours of each vertex are pairwise adjacent. -/
def Peo (adj : Nat → Nat → Prop) : List Nat → Prop
  | [] => True
  | v :: post => (∀ a ∈ post, ∀ b ∈ post, adj v a → adj v b → a ≠ b → adj a b) ∧ Peo adj post

/-- A path p 0 .. p j without chords. -/
structure Path (adj : Nat → Nat → Prop) (p : Nat → Nat) (j : Nat) : Prop where
  inj : ∀ a b, a < b → b ≤ j → p a ≠ p b
  step : ∀ a, a < j → adj (p a) (p (a + 1))
  free : ∀ a b, a + 1 < b → b ≤ j → ¬ adj (p a) (p b)

theorem Path.rev {adj : Nat → Nat → Prop} (sym : ∀ a b, adj a b → adj b a) {p : Nat → Nat} {j : Nat} (h : Path adj p j) : Path adj (fun k => p (j - k)) j where
  inj a b hab hb := fun e => h.inj (j - b) (j - a) (by omega) (by omega) e.symm
  step a ha := by
    have := h.step (j - (a + 1)) (by omega)
    rw [show j - (a + 1) + 1 = j - a from by omega] at this
    exact sym _ _ this
  free a b hab hb := fun e => h.free (j - b) (j - a) (by omega) (by omega) (sym _ _ e)

theorem Path.take {adj : Nat → Nat → Prop} {p : Nat → Nat} {j i : Nat} (h : Path adj p j) (hi : i ≤ j) : Path adj p i where
  inj a b hab hb := h.inj a b hab (by omega)
  step a ha := h.step a (by omega)
  free a b hab hb := h.free a b hab (by omega)

/-- In a graph with a perfect elimination order a vertex that is adjacent to both ends of a path without chords is adjacent to one inside it. -/
theorem peo_inside {adj : Nat → Nat → Prop} (sym : ∀ a b, adj a b → adj b a) : ∀ (l : List Nat), Peo adj l → ∀ (p : Nat → Nat) (j z : Nat), 2 ≤ j → Path adj p j → (∀ k, k ≤ j → p k ∈ l) → z ∈ l → (∀ k, k ≤ j → z ≠ p k) →
    adj z (p 0) → adj z (p j) → ∃ k, 0 < k ∧ k < j ∧ adj z (p k)
  | [], _, p, j, z, _, _, hp, _, _, _, _ => by have := hp 0 (by omega); simp at this
  | v :: post, ⟨hv, hpost⟩, p, j, z, hj, hpath, hp, hz, hne, h0, hJ => by
    by_cases hvz : v = z
    · subst hvz
      have m0 : p 0 ∈ post := by
        rcases List.mem_cons.1 (hp 0 (by omega)) with e | e
        · exact absurd e.symm (hne 0 (by omega))
        · exact e
      have mJ : p j ∈ post := by
        rcases List.mem_cons.1 (hp j (by omega)) with e | e
        · exact absurd e.symm (hne j (by omega))
        · exact e
      exact absurd (hv _ m0 _ mJ h0 hJ (hpath.inj 0 j (by omega) (by omega))) (hpath.free 0 j (by omega) (by omega))
    · have mz : z ∈ post := by
        rcases List.mem_cons.1 hz with e | e
        · exact absurd e.symm hvz
        · exact e
      by_cases hin : ∃ i, i ≤ j ∧ p i = v
      · obtain ⟨i, hi, rfl⟩ := hin
        have mem : ∀ k, k ≤ j → k ≠ i → p k ∈ post := by
          intro k hk hki
          rcases List.mem_cons.1 (hp k hk) with e | e
          · rcases Nat.lt_or_gt_of_ne hki with h | h
            · exact absurd e (hpath.inj k i h hi)
            · exact absurd e.symm (hpath.inj i k h hk)
          · exact e
        by_cases hi0 : i = 0
        · subst hi0
          refine ⟨1, by omega, by omega, ?_⟩
          exact hv _ mz _ (mem 1 (by omega) (by omega)) (sym _ _ h0) (hpath.step 0 (by omega)) (hne 1 (by omega))
        · by_cases hij : i = j
          · subst hij
            refine ⟨i - 1, by omega, by omega, ?_⟩
            have hs := hpath.step (i - 1) (by omega)
            rw [show i - 1 + 1 = i from by omega] at hs
            exact hv _ mz _ (mem (i - 1) (by omega) (by omega)) (sym _ _ hJ) (sym _ _ hs) (hne (i - 1) (by omega))
          · have hs := hpath.step (i - 1) (by omega)
            rw [show i - 1 + 1 = i from by omega] at hs
            exact absurd (hv _ (mem (i - 1) (by omega) (by omega)) _ (mem (i + 1) (by omega) (by omega)) (sym _ _ hs) (hpath.step i (by omega)) (hpath.inj (i - 1) (i + 1) (by omega) (by omega)))
              (hpath.free (i - 1) (i + 1) (by omega) (by omega))
      · have mem : ∀ k, k ≤ j → p k ∈ post := by
          intro k hk
          rcases List.mem_cons.1 (hp k hk) with e | e
          · exact absurd ⟨k, hk, e⟩ hin
          · exact e
        exact peo_inside sym post hpost p j z hj hpath mem mz hne h0 hJ

/-- How many of o 0 .. o (y - 1) are adjacent to v. -/
def cnt (adj : Nat → Nat → Bool) (o : Nat → Nat) (y v : Nat) : Nat := ((List.range y).filter fun k => adj v (o k)).length

theorem filter_len_lt {α : Type} (l : List α) (p q : α → Bool) (hpq : ∀ x ∈ l, p x = true → q x = true) (x : α) (hx : x ∈ l) (h1 : q x = true) (h2 : p x = false) : (l.filter p).length < (l.filter q).length := by
  induction l with
  | nil => simp at hx
  | cons y l ih =>
    have hle : ∀ (l : List α), (∀ x ∈ l, p x = true → q x = true) → (l.filter p).length ≤ (l.filter q).length := by
      intro l
      induction l with
      | nil => simp
      | cons z l ih2 =>
        intro h
        have h3 := ih2 (fun x hx => h x (by simp [hx]))
        by_cases hpz : p z = true
        · have := h z (by simp) hpz
          simp [hpz, this]; omega
        · by_cases hqz : q z = true <;> simp [hpz, hqz] <;> omega
    rcases List.mem_cons.1 hx with e | e
    · subst e
      have := hle l (fun x hx => hpq x (by simp [hx]))
      simp [h1, h2]; omega
    · have h3 := ih (fun x hx => hpq x (by simp [hx])) e
      by_cases hpz : p y = true
      · have := hpq y (by simp) hpz
        simp [hpz, this]; omega
      · by_cases hqz : q y = true <;> simp [hpz, hqz] <;> omega

/-- If one has a neighbour among the first y that the other has not, and is not ahead in number, the other has one that it has not. -/
theorem cnt_other {adj : Nat → Nat → Bool} {o : Nat → Nat} {y u v x : Nat} (hle : cnt adj o y u ≤ cnt adj o y v) (hx : x < y) (hu : adj u (o x) = true) (hv : adj v (o x) = false) :
    ∃ z, z < y ∧ adj v (o z) = true ∧ adj u (o z) = false := by
  by_cases h : ∃ z, z < y ∧ adj v (o z) = true ∧ adj u (o z) = false
  · exact h
  · exfalso
    have : cnt adj o y v < cnt adj o y u := by
      unfold cnt
      refine filter_len_lt _ _ _ ?_ x (by simpa using hx) hu hv
      intro z hz hvz
      by_cases hc : adj u (o z) = true
      · exact hc
      · exact absurd ⟨z, by simpa using hz, hvz, by simpa using hc⟩ h
    omega

theorem least_true (P : Nat → Prop) [DecidablePred P] : ∀ (n : Nat), P n → ∃ i, i ≤ n ∧ P i ∧ ∀ k, k < i → ¬ P k
  | 0, h => ⟨0, by omega, h, by omega⟩
  | n + 1, h => by
    by_cases h2 : ∃ k, k ≤ n ∧ P k
    · obtain ⟨k, hk, pk⟩ := h2
      have : ∀ m, m ≤ n → P m → ∃ i, i ≤ m ∧ P i ∧ ∀ k, k < i → ¬ P k := fun m hm pm => by
        induction m using Nat.strongRecOn with
        | _ m ih =>
          by_cases h3 : ∃ q, q < m ∧ P q
          · obtain ⟨q, hq, pq⟩ := h3
            obtain ⟨i, hi, pi, hall⟩ := ih q hq (by omega) pq
            exact ⟨i, by omega, pi, hall⟩
          · exact ⟨m, by omega, pm, fun k hk pk => h3 ⟨k, hk, pk⟩⟩
      obtain ⟨i, hi, pi, hall⟩ := this k hk pk
      exact ⟨i, by omega, pi, hall⟩
    · exact ⟨n + 1, by omega, h, fun k hk pk => h2 ⟨k, by omega, pk⟩⟩

/-- o 0 .. o (n - 1) is an order in which each vertex has, among those that are left, the most neighbours ahead of it. -/
structure Mcs (adj : Nat → Nat → Bool) (o : Nat → Nat) (n : Nat) : Prop where
  inj : ∀ a b, a < b → b < n → o a ≠ o b
  most : ∀ y u, y ≤ u → u < n → cnt adj o y (o u) ≤ cnt adj o y (o y)

theorem mcs_no_path {adj : Nat → Nat → Bool} (sym : ∀ a b, adj a b = true → adj b a = true) {o : Nat → Nat} {n : Nat} (hm : Mcs adj o n) {l : List Nat} (hl : Peo (fun a b => adj a b = true) l)
    (hmem : ∀ k, k < n → o k ∈ l) : ∀ (m : Nat) (q : Nat → Nat) (j : Nat), 2 ≤ j → q 0 ≤ m → q j ≤ m → m < n → (∀ k, k ≤ j → q k < n) → (∀ k, 0 < k → k < j → q 0 < q k ∧ q j < q k) →
    Path (fun a b => adj a b = true) (fun k => o (q k)) j → False := by
  intro m
  induction m using Nat.strongRecOn with
  | _ m ih =>
    -- the path with its greater end last
    have main : ∀ (q : Nat → Nat) (j : Nat), 2 ≤ j → q 0 < q j → q j ≤ m → m < n → (∀ k, k ≤ j → q k < n) → (∀ k, 0 < k → k < j → q 0 < q k ∧ q j < q k) →
        Path (fun a b => adj a b = true) (fun k => o (q k)) j → False := by
      intro q j hj h0j hjm hmn hq hin hpath
      have hx : adj (o (q 1)) (o (q 0)) = true := sym _ _ (hpath.step 0 (by omega))
      have hy : adj (o (q j)) (o (q 0)) = false := by
        have := hpath.free 0 j (by omega) (by omega)
        cases h : adj (o (q j)) (o (q 0))
        · rfl
        · exact absurd (sym _ _ h) this
      have h1 := (hin 1 (by omega) (by omega)).2
      obtain ⟨z, hz, hzy, hz1⟩ := cnt_other (hm.most (q j) (q 1) (by omega) (hq 1 (by omega))) h0j hx hy
      -- the first vertex of the path behind p 0 to which o z is adjacent
      obtain ⟨i', hi', pi', hall⟩ := least_true (fun k => adj (o z) (o (q (k + 1))) = true) (j - 1) (by rw [show j - 1 + 1 = j from by omega]; exact sym _ _ hzy)
      obtain ⟨i, rfl⟩ : ∃ i, i = i' + 1 := ⟨_, rfl⟩
      have hi1 : i' ≠ 0 := by
        rintro rfl
        rw [sym _ _ pi'] at hz1
        cases hz1
      have hzne : ∀ k, k ≤ i' + 1 → o z ≠ o (q k) := by
        intro k hk e
        have hzk : z ≠ q k := by
          by_cases hk0 : k = 0
          · subst hk0
            intro e2
            rw [← e2, hzy] at hy
            cases hy
          · by_cases hkj : k = j
            · rw [hkj]; omega
            · have := hin k (by omega) (by omega); omega
        rcases Nat.lt_or_gt_of_ne hzk with h | h
        · exact hm.inj _ _ h (hq k (by omega)) e
        · exact hm.inj _ _ h (by omega) e.symm
      by_cases hzx : adj (o z) (o (q 0)) = true
      · obtain ⟨k, hk0, hk, hzk⟩ := peo_inside sym l hl (fun k => o (q k)) (i' + 1) (o z) (by omega) (hpath.take (by omega)) (fun k hk => hmem _ (hq k (by omega))) (hmem _ (by omega)) hzne hzx pi'
        have := hall (k - 1) (by omega)
        rw [show k - 1 + 1 = k from by omega] at this
        exact this hzk
      · -- a path from q 0 to z whose ends come earlier
        have hz0 : z ≠ q 0 := fun e => hzne 0 (by omega) (by rw [e])
        refine ih (max (q 0) z) (by omega) (fun k => if k ≤ i' + 1 then q k else z) (i' + 2) (by omega) (by simp; omega) (by simp; omega) (by omega) ?_ ?_ ?_
        · intro k hk
          by_cases h : k ≤ i' + 1
          · simp only [h, if_true]; exact hq k (by omega)
          · simp only [h, if_false]; omega
        · intro k hk0 hk
          simp only [show k ≤ i' + 1 from by omega, if_true, Nat.zero_le, show ¬ (i' + 2 ≤ i' + 1) from by omega, if_false]
          by_cases hkj : k = j
          · subst hkj; exact ⟨h0j, hz⟩
          · have := hin k hk0 (by omega); omega
        · constructor
          · intro a b hab hb
            by_cases h : b ≤ i' + 1
            · simp only [h, show a ≤ i' + 1 from by omega, if_true]
              exact hpath.inj a b hab (by omega)
            · simp only [h, show a ≤ i' + 1 from by omega, if_true, if_false]
              exact fun e => hzne a (by omega) e.symm
          · intro a ha
            by_cases h : a + 1 ≤ i' + 1
            · simp only [h, show a ≤ i' + 1 from by omega, if_true]
              exact hpath.step a (by omega)
            · simp only [h, show a ≤ i' + 1 from by omega, if_true, if_false]
              rw [show a = i' + 1 from by omega]
              exact sym _ _ pi'
          · intro a b hab hb
            by_cases h : b ≤ i' + 1
            · simp only [h, show a ≤ i' + 1 from by omega, if_true]
              exact hpath.free a b hab (by omega)
            · simp only [h, show a ≤ i' + 1 from by omega, if_true, if_false]
              intro e
              by_cases ha0 : a = 0
              · subst ha0; exact hzx (sym _ _ e)
              · have := hall (a - 1) (by omega)
                rw [show a - 1 + 1 = a from by omega] at this
                exact this (sym _ _ e)
    intro q j hj h0m hjm hmn hq hin hpath
    have hne : q 0 ≠ q j := fun e => hpath.inj 0 j (by omega) (by omega) (by simp [e])
    rcases Nat.lt_or_gt_of_ne hne with h | h
    · exact main q j hj h hjm hmn hq hin hpath
    · refine main (fun k => q (j - k)) j hj (by simpa using h) (by simpa using h0m) hmn (fun k hk => hq _ (by omega)) ?_ (hpath.rev sym)
      intro k hk0 hk
      have := hin (j - k) (by omega) (by omega)
      simp only [Nat.sub_zero, Nat.sub_self]
      exact ⟨this.2, this.1⟩

/-- The neighbours that come ahead of a vertex in such an order are pairwise adjacent, if the graph has a perfect elimination order. -/
theorem mcs_clique {adj : Nat → Nat → Bool} (sym : ∀ a b, adj a b = true → adj b a = true) {o : Nat → Nat} {n : Nat} (hm : Mcs adj o n) {l : List Nat} (hl : Peo (fun a b => adj a b = true) l)
    (hmem : ∀ k, k < n → o k ∈ l) {k a b : Nat} (hk : k < n) (ha : a < k) (hb : b < k) (hab : a ≠ b) (h1 : adj (o k) (o a) = true) (h2 : adj (o k) (o b) = true) : adj (o a) (o b) = true := by
  by_cases h : adj (o a) (o b) = true
  · exact h
  · exfalso
    refine mcs_no_path sym hm hl hmem (max a b) (fun i => if i = 0 then a else if i = 1 then k else b) 2 (by omega) (by simp; omega) (by simp; omega) (by omega) ?_ ?_ ?_
    · intro i hi
      show (if i = 0 then a else if i = 1 then k else b) < n
      split
      · omega
      · split <;> omega
    · intro i h0 h2
      obtain rfl : i = 1 := by omega
      simp; omega
    · constructor
      · intro i j hij hj
        have : (i = 0 ∧ j = 1) ∨ (i = 0 ∧ j = 2) ∨ (i = 1 ∧ j = 2) := by omega
        rcases this with ⟨rfl, rfl⟩ | ⟨rfl, rfl⟩ | ⟨rfl, rfl⟩
        · simpa using hm.inj a k ha hk
        · simp only [if_true]
          rcases Nat.lt_or_gt_of_ne hab with h | h
          · simpa using hm.inj a b h (by omega)
          · simpa using fun e => hm.inj b a h (by omega) (Eq.symm e)
        · simpa using fun e => hm.inj b k hb hk (Eq.symm e)
      · intro i hi
        have : i = 0 ∨ i = 1 := by omega
        rcases this with rfl | rfl
        · simpa using sym _ _ h1
        · simpa using h2
      · intro i j hij hj
        obtain ⟨rfl, rfl⟩ : i = 0 ∧ j = 2 := by omega
        simpa using h

end Go.Chordal
end
