/- Lists of numbers in memory; comparisons of numbers and of lists; small lists. -/
import Derived.Test.YtapkdofmcchdcaaGreatDoorMem2
import Derived.Test.YtapkdofmcchdcaaGreatDoorProg
import Derived.WalkLawsBesides
import Derived.BigQuiet
import Derived.Laws.MakeOwn
import Derived.IntWalk
import Derived.Outline
namespace Go.Gr
def cmpI (a b : Int) : Int := if a < b then -1 else if b < a then 1 else 0
end Go.Gr
namespace Go.Proofs.Tg
open Go.RowKit Go.Gr
set_option maxHeartbeats 1000000
set_option maxRecDepth 100000
/-- A slice of slices of numbers. -/
def Lists (w : World) (V : Option Addr) (ls : List (List Int)) : Prop :=
  ∃ f : Nat → Option Addr × Nat, Sl w V ls.length 1 ((List.range ls.length).map fun i => .slice (f i).1 (ls.getD i []).length (f i).2) ∧ ∀ i, i < ls.length → Ints w (f i).1 (ls.getD i [])
theorem Lists.keep {w w' : World} {V : Option Addr} {ls : List (List Int)} (h : Lists w V ls) (hb : Below w.heap.size w w') : Lists w' V ls := by
  obtain ⟨f, hs, hr⟩ := h
  exact ⟨f, hs.keep hb, fun i hi => (hr i hi).keep hb⟩
theorem Lists.at {w : World} {V : Option Addr} {ls : List (List Int)} (h : Lists w V ls) {k : Nat} (hk : k < ls.length) : ∃ ad A c, V = some ad ∧ w.cell? (ad.add k) = some (.slice A ls[k].length c) ∧ Ints w A ls[k] := by
  obtain ⟨f, hs, hr⟩ := h
  obtain ⟨ad, rfl, hc⟩ := Sl.at1 hs hk
  have e : ls.getD k [] = ls[k] := by simp [hk]
  have hi := hr k hk
  rw [e] at hi
  refine ⟨ad, (f k).1, (f k).2, rfl, ?_, hi⟩
  rw [hc]
  simp [hk]
def iarr (l : List Int) : Array Value := (l.map vi).toArray
theorem iarr_made (n : Nat) : madeCells #[.int .i64 0] n = iarr (List.replicate n 0) := by
  apply Array.ext
  · simp [iarr, size_madeCells]
  · intro i h1 h2
    simp [madeCells, iarr, vi, Nat.mod_one]
theorem iarr_set (l : List Int) (k : Nat) (s : Int) : (iarr l).setIfInBounds k (.int .i64 s) = iarr (l.set k s) := by
  simp [iarr, List.map_set, vi]
theorem iarr_at (l : List Int) {k : Nat} (hk : k < l.length) : (iarr l)[k]? = some (.int .i64 l[k]) := by simp [iarr, hk, vi]
theorem own_iarr {w : World} {b g n : Nat} {l : List Int} (h : Blk w g 3 (iarr l)) (hb : b ≤ g) (hn : l.length = n) (hm : n ≤ 1000000) : w.ownsRow b 3 1 (.slice (some ⟨g, 0, none⟩) n n) n (l.map vi) :=
  ⟨by simp [hn], .inr ⟨g, n, _, rfl, hb, h, Nat.le_refl _, by simp only [maxLen]; omega, by simp [iarr, hn], by rw [← hn]; simp only [iarr, Nat.mul_one]; exact List.take_of_length_le (by simp)⟩⟩
theorem nan_any (a : Int) (w : World) : Calls Tryz.prog 174 #[.int .i64 a] w fun e w' => e = .returned (.bool false) ∧ w = w' := by
  go_enter Tryz.func174, Tryz.ntmps174
  go_wp2
  go_ret
  exact ⟨by simp, rfl⟩
theorem cmp_any (a b : Int) (w : World) : Calls Tryz.prog 153 #[.int .i64 a, .int .i64 b] w fun e w' => e = .returned (.int .i64 (cmpI a b)) ∧ w = w' := by
  by_cases h1 : a < b
  · have e : cmpI a b = -1 := by unfold cmpI; rw [if_pos h1]
    rw [e]; clear e
    go_enter Tryz.func153, Tryz.ntmps153
    go_wp2_with (go_at_call 174; refine (nan_any _ _).mono ?_; rintro e w' ⟨rfl, rfl⟩)
    go_ret
    exact ⟨rfl, rfl⟩
  · by_cases h2 : b < a
    · have e : cmpI a b = 1 := by unfold cmpI; rw [if_neg h1, if_pos h2]
      rw [e]; clear e
      go_enter Tryz.func153, Tryz.ntmps153
      go_wp2_with (go_at_call 174; refine (nan_any _ _).mono ?_; rintro e w' ⟨rfl, rfl⟩)
      go_ret
      exact ⟨rfl, rfl⟩
    · have e : cmpI a b = 0 := by unfold cmpI; rw [if_neg h1, if_neg h2]
      rw [e]; clear e
      go_enter Tryz.func153, Tryz.ntmps153
      go_wp2_with (go_at_call 174; refine (nan_any _ _).mono ?_; rintro e w' ⟨rfl, rfl⟩)
      go_ret
      exact ⟨rfl, rfl⟩
/-- The world has turned in draws alone. -/
def Dr (w w' : World) : Prop := ∃ n, w' = w.drewN n
theorem Dr.refl (w : World) : Dr w w := ⟨0, rfl⟩
theorem Dr.below {w w' : World} (h : Dr w w') : Below w.heap.size w w' := by
  obtain ⟨n, rfl⟩ := h
  exact below_drewN (Below.refl _ _) n
theorem Dr.drewN {w w' : World} (h : Dr w w') (k : Nat) : Dr w (w'.drewN k) := by
  obtain ⟨n, rfl⟩ := h
  exact ⟨n + k, by rw [World.drewN_drewN]⟩
theorem ints_any (A B : Option Addr) (xs ys : List Int) (c d : Nat) (w : World) (hx : Ints w A xs) (hy : Ints w B ys) (hn : xs.length ≤ 1000000) :
    Calls Tryz.prog 25 #[.slice A xs.length c, .slice B ys.length d] w fun e w' => e = .returned (.bool (decide (xs = ys))) ∧ Dr w w' := by
  by_cases hl : xs.length = ys.length
  · have hb : ((xs.length : Int) != (ys.length : Int)) = false := by simp [hl]
    have HL := Lib.hid hl; clear hl
    go_enter Tryz.func25, Tryz.ntmps25
    go_wp2
    go_loopw [5] (fun i wr => ∃ k : Nat, k ≤ xs.length ∧ i = .int .i64 k ∧ Hid (xs.take k = ys.take k) ∧ Dr w wr) (fun i _ => xs.length - (intOf i).toNat)
    case atStart => exact ⟨0, Nat.zero_le _, rfl, Lib.hid (by simp), Dr.refl _⟩
    case round =>
      obtain ⟨k, hk, rfl, HT, hbw⟩ := hrel
      by_cases hlt : k < xs.length
      · have hky : k < ys.length := by have := HL.out; omega
        obtain ⟨ad, rfl, hc⟩ := Ints.at (hx.keep hbw.below) hlt
        obtain ⟨bd, rfl, hd⟩ := Ints.at (hy.keep hbw.below) hky
        have HX : Hid (xs.take (k + 1) = xs.take k ++ [xs[k]]) := Lib.hid (List.take_succ_eq_append_getElem hlt)
        have HY : Hid (ys.take (k + 1) = ys.take k ++ [ys[k]]) := Lib.hid (List.take_succ_eq_append_getElem hky)
        have HNE : Hid (xs = ys → xs[k] = ys[k]) := Lib.hid (fun e => by subst e; rfl)
        clear hx hy
        generalize xs[k] = x at hc HX HNE
        generalize ys[k] = y at hd HY HNE
        by_cases heq : x = y
        · have hbb : (x != y) = false := by simp [heq]
          have HE := Lib.hid heq; clear heq
          go_wp2
          go_quiet (fail)
          go_wp2
          go_roundw
          case rel => exact ⟨k + 1, by omega, by go_num, Lib.hid (by rw [HX.out, HY.out, HT.out, HE.out]), hbw.drewN _⟩
          case measure => simp [intOf]; omega
        · have hbb : (x != y) = true := by simp [heq]
          have HF : Hid (decide (xs = ys) = false) := Lib.hid (decide_eq_false (fun e => heq (HNE.out e)))
          clear heq
          go_wp2
          go_quiet (fail)
          go_wp2
          go_ret
          exact ⟨by rw [HF.out]; rfl, hbw.drewN _⟩
      · have HF : Hid (decide (xs = ys) = true) := Lib.hid (decide_eq_true (by
          have := HT.out
          rwa [List.take_of_length_le (by omega), List.take_of_length_le (by have := HL.out; omega)] at this))
        go_wp2
        go_ret
        exact ⟨by rw [HF.out]; rfl, hbw⟩
  · have hb : ((xs.length : Int) != (ys.length : Int)) = true := by simp; omega
    have HF : Hid (decide (xs = ys) = false) := Lib.hid (decide_eq_false (fun e => hl (by rw [e])))
    clear hl
    go_enter Tryz.func25, Tryz.ntmps25
    go_wp2
    go_ret
    exact ⟨by rw [HF.out]; rfl, Dr.refl _⟩
theorem lists_any (A B : Option Addr) (xs ys : List (List Int)) (c d : Nat) (w : World) (hx : Lists w A xs) (hy : Lists w B ys) (hn : xs.length ≤ 1000000) (hi : ∀ l ∈ xs, l.length ≤ 1000000) :
    Calls Tryz.prog 19 #[.slice A xs.length c, .slice B ys.length d] w fun e w' => e = .returned (.bool (decide (xs = ys))) ∧ Dr w w' := by
  have HI := Lib.hid hi
  clear hi
  by_cases hl : xs.length = ys.length
  · have hb : ((xs.length : Int) != (ys.length : Int)) = false := by simp [hl]
    have HL := Lib.hid hl; clear hl
    go_enter Tryz.func19, Tryz.ntmps19
    go_wp2
    go_loopw [5] (fun i wr => ∃ k : Nat, k ≤ xs.length ∧ i = .int .i64 k ∧ Hid (xs.take k = ys.take k) ∧ Dr w wr) (fun i _ => xs.length - (intOf i).toNat)
    case atStart => exact ⟨0, Nat.zero_le _, rfl, Lib.hid (by simp), Dr.refl _⟩
    case round =>
      obtain ⟨k, hk, rfl, HT, hbw⟩ := hrel
      by_cases hlt : k < xs.length
      · have hky : k < ys.length := by have := HL.out; omega
        obtain ⟨ad, A1, c1, rfl, hc, hA1⟩ := Lists.at (hx.keep hbw.below) hlt
        obtain ⟨bd, B1, d1, rfl, hd, hB1⟩ := Lists.at (hy.keep hbw.below) hky
        have HX : Hid (xs.take (k + 1) = xs.take k ++ [xs[k]]) := Lib.hid (List.take_succ_eq_append_getElem hlt)
        have HY : Hid (ys.take (k + 1) = ys.take k ++ [ys[k]]) := Lib.hid (List.take_succ_eq_append_getElem hky)
        have HNE : Hid (xs = ys → xs[k] = ys[k]) := Lib.hid (fun e => by subst e; rfl)
        have hlen := HI.out xs[k] (List.getElem_mem _)
        clear hx hy
        generalize xs[k] = x at hc HX HNE hA1 hlen
        generalize ys[k] = y at hd HY HNE hB1
        have hq := fun W (h : Dr wr W) => ints_any A1 B1 x y c1 d1 W (hA1.keep h.below) (hB1.keep h.below) hlen
        by_cases heq : x = y
        · have HQ : Hid (∀ W, Dr wr W → Calls Tryz.prog 25 #[.slice A1 x.length c1, .slice B1 y.length d1] W fun e w' => e = .returned (.bool true) ∧ ∃ m, w' = W.drewN m) := Lib.hid (fun W h => (hq W h).mono fun e w' h2 => ⟨by rw [h2.1, decide_eq_true heq], h2.2⟩)
          have HE := Lib.hid heq; clear heq hq
          go_wp2
          go_quiet ((go_at_call 25; exact Calls.quiet_of (HQ.out _ ⟨_, rfl⟩)))
          go_wp2
          go_roundw
          case rel => exact ⟨k + 1, by omega, by go_num, Lib.hid (by rw [HX.out, HY.out, HT.out, HE.out]), hbw.drewN _⟩
          case measure => simp [intOf]; omega
        · have HF : Hid (decide (xs = ys) = false) := Lib.hid (decide_eq_false (fun e => heq (HNE.out e)))
          have HQ : Hid (∀ W, Dr wr W → Calls Tryz.prog 25 #[.slice A1 x.length c1, .slice B1 y.length d1] W fun e w' => e = .returned (.bool false) ∧ ∃ m, w' = W.drewN m) := Lib.hid (fun W h => (hq W h).mono fun e w' h2 => ⟨by rw [h2.1, decide_eq_false heq], h2.2⟩)
          clear heq hq
          go_wp2
          go_quiet ((go_at_call 25; exact Calls.quiet_of (HQ.out _ ⟨_, rfl⟩)))
          go_wp2
          go_ret
          exact ⟨by rw [HF.out]; rfl, hbw.drewN _⟩
      · have HF : Hid (decide (xs = ys) = true) := Lib.hid (decide_eq_true (by
          have := HT.out
          rwa [List.take_of_length_le (by omega), List.take_of_length_le (by have := HL.out; omega)] at this))
        go_wp2
        go_ret
        exact ⟨by rw [HF.out]; rfl, hbw⟩
  · have hb : ((xs.length : Int) != (ys.length : Int)) = true := by simp; omega
    have HF : Hid (decide (xs = ys) = false) := Lib.hid (decide_eq_false (fun e => hl (by rw [e])))
    clear hl
    go_enter Tryz.func19, Tryz.ntmps19
    go_wp2
    go_ret
    exact ⟨by rw [HF.out]; rfl, Dr.refl _⟩
theorem small_any (V : Option Addr) (c n m : Nat) (ls : List (List Int)) (b : Bool) (w : World) (hV : Lists w V ls) (hv : b = true ↔ ls.length ≤ n ∧ ∀ l ∈ ls, l.length ≤ m) (hn : n ≤ 1000) :
    Calls Tryz.prog 20 #[.slice V ls.length c, .int .i64 n, .int .i64 m] w fun e w' => e = .returned (.bool b) ∧ w = w' := by
  have HV := Lib.hid hv
  clear hv
  by_cases hl : ls.length ≤ n
  · have hd : decide ((n : Int) < (ls.length : Int)) = false := by simp; omega
    have hd' : decide (n < ls.length) = false := by simp; omega
    go_enter Tryz.func20, Tryz.ntmps20
    go_wp2
    go_loop [7] (fun i => ∃ k : Nat, i = .int .i64 k ∧ k ≤ ls.length ∧ Hid (∀ l ∈ ls.take k, l.length ≤ m)) (fun i => ls.length - (intOf i).toNat)
    case atStart => exact ⟨0, rfl, Nat.zero_le _, Lib.hid (by simp)⟩
    case round =>
      obtain ⟨k, rfl, hk, HG⟩ := hrel
      by_cases hkl : k < ls.length
      · obtain ⟨ad, A, cl, rfl, hc, hA⟩ := Lists.at hV hkl
        have HM : Hid (ls[k] ∈ ls) := Lib.hid (List.getElem_mem _)
        have HT0 : Hid (ls.take (k + 1) = ls.take k ++ [ls[k]]) := Lib.hid (List.take_succ_eq_append_getElem hkl)
        generalize ls[k] = l at hc hA HM HT0
        by_cases hm : l.length ≤ m
        · have hb1 : decide ((m : Int) < (l.length : Int)) = false := by simp; omega
          have hb1' : decide (m < l.length) = false := by simp; omega
          have HG2 : Hid (∀ l ∈ ls.take (k + 1), l.length ≤ m) := Lib.hid (by
            rw [HT0.out]
            intro l' hl'
            rcases List.mem_append.1 hl' with h | h
            · exact HG.out l' h
            · simp at h; subst h; exact hm)
          go_wp2
          go_round
          case rel => exact ⟨k + 1, by go_num, by omega, HG2⟩
          case measure => simp [intOf]; omega
        · have hb1 : decide ((m : Int) < (l.length : Int)) = true := by simp; omega
          have hb1' : decide (m < l.length) = true := by simp; omega
          obtain rfl : b = false := by
            cases b
            · rfl
            · exact absurd ((HV.out.1 rfl).2 l HM.out) hm
          go_wp2
          go_ret
          exact ⟨rfl, rfl⟩
      · obtain rfl : k = ls.length := by omega
        obtain rfl : b = true := HV.out.2 ⟨hl, by have := HG.out; rwa [List.take_length] at this⟩
        go_wp2
        go_ret
        exact ⟨rfl, rfl⟩
  · have hd : decide ((n : Int) < (ls.length : Int)) = true := by simp; omega
    have hd' : decide (n < ls.length) = true := by simp; omega
    obtain rfl : b = false := by
      cases b
      · rfl
      · exact absurd (HV.out.1 rfl).1 hl
    go_enter Tryz.func20, Tryz.ntmps20
    go_wp2
    go_ret
    exact ⟨rfl, rfl⟩
end Go.Proofs.Tg
