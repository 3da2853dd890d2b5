/- Parts of the proof: GWK, GSort, GWL, GWO, GWM, GWN. -/
import Derived.Lib.Tables
import Derived.Laws.MathBits
import Derived.Test.YtodapfjmgnekkaaGreatDoorMU2
import Derived.Test.YtodapfjmgnekkaaGreatDoorMU3
import Derived.Test.YtodapfjmgnekkaaGreatDoorMU5
section
/- Reading a set; the tree of cliques. -/
namespace Go.Proofs.Tg.Gx
open Go.RowKit Go.Gr
set_option maxHeartbeats 1000000
set_option maxRecDepth 100000
def RetSet (b : Bool) (l : List Int) (w : World) (e : Ending) (w' : World) : Prop := ∃ s : Nat, e = .returned (.tuple #[.int .u64 s, .bool b]) ∧ (b = true → s = setOf l) ∧ w = w'
/-- A slice of slices of numbers. -/
def Lists (w : World) (V : Option Addr) (ls : List (List Int)) : Prop :=
  ∃ f : Nat → Option Addr × Nat, Sl w V ls.length 1 ((List.range ls.length).map fun i => .slice (f i).1 (ls.getD i []).length (f i).2) ∧ ∀ i, i < ls.length → Ints w (f i).1 (ls.getD i [])
theorem Lists.keep {w w' : World} {V : Option Addr} {ls : List (List Int)} (h : Lists w V ls) (hb : Below w.heap.size w w') : Lists w' V ls := by
  obtain ⟨f, hs, hr⟩ := h
  exact ⟨f, hs.keep hb, fun i hi => (hr i hi).keep hb⟩
theorem Lists.at {w : World} {V : Option Addr} {ls : List (List Int)} (h : Lists w V ls) {k : Nat} (hk : k < ls.length) : ∃ ad A c, V = some ad ∧ w.cell? (ad.add k) = some (.slice A ls[k].length c) ∧ Ints w A ls[k] := by
  obtain ⟨f, hs, hr⟩ := h
  obtain ⟨ad, rfl, hc⟩ := Sl.at1 hs hk
  have e : ls.getD k [] = ls[k] := by simp [hk]
  have hi := hr k hk
  rw [e] at hi
  refine ⟨ad, (f k).1, (f k).2, rfl, ?_, hi⟩
  rw [hc]
  simp [hk]
def iarr (l : List Int) : Array Value := (l.map vi).toArray
theorem iarr_made (n : Nat) : madeCells #[.int .i64 0] n = iarr (List.replicate n 0) := by
  apply Array.ext
  · simp [iarr, size_madeCells]
  · intro i h1 h2
    simp [madeCells, iarr, vi, Nat.mod_one]
theorem iarr_set (l : List Int) (k : Nat) (s : Int) : (iarr l).setIfInBounds k (.int .i64 s) = iarr (l.set k s) := by
  simp [iarr, List.map_set, vi]
theorem iarr_at (l : List Int) {k : Nat} (hk : k < l.length) : (iarr l)[k]? = some (.int .i64 l[k]) := by simp [iarr, hk, vi]
theorem sarr_at (l : List Nat) {k : Nat} (hk : k < l.length) : (sarr l)[k]? = some (.int .u64 (l[k] : Nat)) := by simp [sarr, hk, vs]
theorem own_iarr {w : World} {b g n : Nat} {l : List Int} (h : Blk w g 3 (iarr l)) (hb : b ≤ g) (hn : l.length = n) (hm : n ≤ 1000000) : w.ownsRow b 3 1 (.slice (some ⟨g, 0, none⟩) n n) n (l.map vi) :=
  ⟨by simp [hn], .inr ⟨g, n, _, rfl, hb, h, Nat.le_refl _, by simp only [maxLen]; omega, by simp [iarr, hn], by rw [← hn]; simp only [iarr, Nat.mul_one]; exact List.take_of_length_le (by simp)⟩⟩
def RetTree (ls : List (List Int)) (w : World) (e : Ending) (w' : World) : Prop :=
  ∃ A c, e = .returned (.tuple #[.slice A ls.length c, .int .i64 0]) ∧ w'.ownsRow w.heap.size 3 1 (.slice A ls.length c) ls.length ((tree (ls.map setOf)).map vi) ∧ Below w.heap.size w w'
theorem set_midI (l : List Int) (m k : Nat) (s z : Int) (hk : l.length = k) (hm : 0 < m) : (l ++ List.replicate m z).set k s = (l ++ [s]) ++ List.replicate (m - 1) z := by
  subst hk
  obtain ⟨m, rfl⟩ : ∃ q, m = q + 1 := ⟨m - 1, by omega⟩
  simp [List.replicate_succ]
theorem mid_atI (l : List Int) (m k : Nat) (z : Int) (hk : l.length = k) (hm : 0 < m) : (iarr (l ++ List.replicate m z))[k]? = some (.int .i64 z) := by
  have : (l ++ List.replicate m z)[k]? = some z := by
    rw [List.getElem?_append_right (by omega), hk, Nat.sub_self, List.getElem?_replicate, if_pos (by omega)]
  rw [iarr, List.getElem?_toArray, List.getElem?_map, this]; rfl
theorem mid_atS (l : List Nat) (m k : Nat) (hk : l.length = k) (hm : 0 < m) : (sarr (l ++ List.replicate m 0))[k]? = some (.int .u64 0) := by
  have : (l ++ List.replicate m 0)[k]? = some 0 := by
    rw [List.getElem?_append_right (by omega), hk, Nat.sub_self, List.getElem?_replicate, if_pos (by omega)]
  rw [sarr, List.getElem?_toArray, List.getElem?_map, this]; rfl
theorem with0 (w : World) : Calls Tryz.prog 47 #[.int .u64 0, .int .i64 0] w fun e w' => e = .returned (.int .u64 (bset 0 0 : Nat)) ∧ w = w' := with_any 0 0 w (by omega) (by omega)
theorem treeTo_len (sets : List Nat) : ∀ r, (treeTo sets r).2.length = sets.length
  | 0 => by simp [treeTo]
  | r + 1 => by
    simp only [treeTo]
    split
    · simp [treeTo_len sets r]
    · exact treeTo_len sets r
theorem sarr_getD (l : List Nat) {k : Nat} (hk : k < l.length) : (sarr l)[k]? = some (.int .u64 (l.getD k 0 : Nat)) := by simp [sarr, hk, vs]
end Go.Proofs.Tg.Gx
end
section
/- Plain mathematics of an insertion sort by exchanges. -/
namespace Go.Gr
/-- The elements j - 1 and j are exchanged. -/
def swp (l : List Nat) (j : Nat) : List Nat := (l.set j (l.getD (j - 1) 0)).set (j - 1) (l.getD j 0)
theorem swp_len (l : List Nat) (j : Nat) : (swp l j).length = l.length := by simp [swp]
theorem swp_at {l : List Nat} {j : Nat} (h0 : 0 < j) (hj : j < l.length) (k : Nat) : (swp l j).getD k 0 = if k = j - 1 then l.getD j 0 else if k = j then l.getD (j - 1) 0 else l.getD k 0 := by
  unfold swp
  by_cases hk : k < l.length
  · simp only [List.getD_eq_getElem?_getD]
    rw [List.getElem?_set]
    by_cases h1 : j - 1 = k
    · rw [if_pos h1, if_pos (by simp; omega), if_pos h1.symm]; rfl
    · rw [if_neg h1, if_neg (fun e => h1 e.symm), List.getElem?_set]
      by_cases h2 : j = k
      · rw [if_pos h2, if_pos (by omega), if_pos h2.symm]; rfl
      · rw [if_neg h2, if_neg (fun e => h2 e.symm)]
  · have h1 : (((l.set j (l.getD (j - 1) 0)).set (j - 1) (l.getD j 0)).getD k 0) = 0 := by
      rw [List.getD_eq_getElem?_getD, List.getElem?_eq_none (by simp; omega)]; rfl
    rw [h1, if_neg (by omega), if_neg (by omega), List.getD_eq_getElem?_getD, List.getElem?_eq_none (by omega)]; rfl
theorem swp_perm {l : List Nat} {j : Nat} (h0 : 0 < j) (hj : j < l.length) : (swp l j).Perm l := by
  obtain ⟨a, x, y, b, rfl, ha⟩ : ∃ a x y b, l = a ++ x :: y :: b ∧ a.length = j - 1 := by
    refine ⟨l.take (j - 1), l[j - 1], l[j], l.drop (j + 1), ?_, by simp; omega⟩
    have h1 : l.drop (j - 1) = l[j - 1] :: l.drop j := by
      rw [List.drop_eq_getElem_cons (by omega), show j - 1 + 1 = j by omega]
    have h2 : l.drop j = l[j] :: l.drop (j + 1) := List.drop_eq_getElem_cons hj
    rw [← h2, ← h1, List.take_append_drop]
  have e : swp (a ++ x :: y :: b) j = a ++ y :: x :: b := by
    apply List.ext_getElem?
    intro k
    have hl : (swp (a ++ x :: y :: b) j).length = (a ++ y :: x :: b).length := by simp [swp_len]
    by_cases hk : k < (a ++ x :: y :: b).length
    · have := swp_at h0 hj k
      have g1 : (swp (a ++ x :: y :: b) j)[k]? = some ((swp (a ++ x :: y :: b) j).getD k 0) := by
        rw [List.getD_eq_getElem?_getD, List.getElem?_eq_getElem (by rw [swp_len]; exact hk)]; rfl
      rw [g1, this]
      have hx : (a ++ x :: y :: b).getD (j - 1) 0 = x := by rw [List.getD_eq_getElem?_getD, List.getElem?_append_right (by omega), ha, Nat.sub_self]; rfl
      have hy : (a ++ x :: y :: b).getD j 0 = y := by rw [List.getD_eq_getElem?_getD, List.getElem?_append_right (by omega), ha, show j - (j - 1) = 1 by omega]; rfl
      rw [hx, hy]
      by_cases e1 : k = j - 1
      · rw [if_pos e1, e1, List.getElem?_append_right (by omega), ha, Nat.sub_self]; rfl
      · by_cases e2 : k = j
        · rw [if_neg e1, if_pos e2, e2, List.getElem?_append_right (by omega), ha, show j - (j - 1) = 1 by omega]; rfl
        · rw [if_neg e1, if_neg e2, List.getD_eq_getElem?_getD]
          by_cases e3 : k < a.length
          · rw [List.getElem?_append_left e3, List.getElem?_append_left e3, List.getElem?_eq_getElem e3]; rfl
          · rw [List.getElem?_append_right (by omega), List.getElem?_append_right (by omega)]
            obtain ⟨q, hq⟩ : ∃ q, k - a.length = q + 2 := ⟨k - a.length - 2, by omega⟩
            rw [hq]
            simp only [List.getElem?_cons_succ]
            rw [List.getElem?_eq_getElem (by simp at hk; omega)]; rfl
    · rw [List.getElem?_eq_none (by rw [swp_len]; omega), List.getElem?_eq_none (by simp at hk ⊢; omega)]
  rw [e]
  exact List.Perm.append_left a (List.Perm.swap x y b)

/-- 'less' by a comparison, in every pair of indexes below i but those that end in j. -/
def sortedBut (cf : Nat → Nat → Int) (l : List Nat) (i j : Nat) : Prop := ∀ a b, a < b → b ≤ i → b ≠ j → ¬ cf (l.getD b 0) (l.getD a 0) < 0
def sortedTo (cf : Nat → Nat → Int) (l : List Nat) (i : Nat) : Prop := ∀ a b, a < b → b < i → ¬ cf (l.getD b 0) (l.getD a 0) < 0
structure Weak (cf : Nat → Nat → Int) : Prop where
  asym : ∀ x y, cf x y < 0 → ¬ cf y x < 0
  trans : ∀ x y z, ¬ cf y x < 0 → ¬ cf z y < 0 → ¬ cf z x < 0
theorem sortedBut_start {cf : Nat → Nat → Int} {l : List Nat} {i : Nat} (h : sortedTo cf l i) : sortedBut cf l i i := fun a b hab hb hne => h a b hab (by omega)
theorem sortedBut_swap {cf : Nat → Nat → Int} (hw : Weak cf) {l : List Nat} {i j : Nat} (h : sortedBut cf l i j) (h0 : 0 < j) (hji : j ≤ i) (hi : i < l.length) (hc : cf (l.getD j 0) (l.getD (j - 1) 0) < 0) : sortedBut cf (swp l j) i (j - 1) := by
  intro a b hab hb hne
  rw [swp_at h0 (by omega), swp_at h0 (by omega)]
  rw [if_neg hne]
  by_cases hbj : b = j
  · rw [if_pos hbj]
    by_cases ha : a = j - 1
    · rw [if_pos ha]; exact hw.asym _ _ hc
    · rw [if_neg ha, if_neg (by omega)]
      exact h a (j - 1) (by omega) (by omega) (by omega)
  · rw [if_neg hbj]
    by_cases ha : a = j - 1
    · rw [if_pos ha]; exact h j b (by omega) hb hbj
    · rw [if_neg ha]
      by_cases ha2 : a = j
      · rw [if_pos ha2]; exact h (j - 1) b (by omega) hb hbj
      · rw [if_neg ha2]; exact h a b hab hb hbj
theorem sortedBut_stop {cf : Nat → Nat → Int} (hw : Weak cf) {l : List Nat} {i j : Nat} (h : sortedBut cf l i j) (hc : j = 0 ∨ ¬ cf (l.getD j 0) (l.getD (j - 1) 0) < 0) : sortedTo cf l (i + 1) := by
  intro a b hab hb
  by_cases hbj : b = j
  · subst hbj
    rcases hc with hc | hc
    · omega
    · by_cases ha : a = b - 1
      · rw [ha]; exact hc
      · exact hw.trans _ _ _ (h a (b - 1) (by omega) (by omega) (by omega)) hc
  · exact h a b hab (by omega) hbj

/-- Slices are compared by their first element that differs, and a slice comes ahead of its continuations. -/
def cmpL : List Int → List Int → Int
  | [], [] => 0
  | [], _ :: _ => -1
  | _ :: _, [] => 1
  | a :: l, b :: m => if a < b then -1 else if b < a then 1 else cmpL l m
theorem cmpL_asym : ∀ x y, cmpL x y < 0 → ¬ cmpL y x < 0
  | [], [], h => by simp [cmpL] at h
  | [], _ :: _, _ => by simp [cmpL]
  | _ :: _, [], h => by simp [cmpL] at h
  | a :: l, b :: m, h => by
    unfold cmpL at h ⊢
    by_cases h1 : a < b
    · rw [if_neg (by omega), if_pos h1]; omega
    · rw [if_neg h1] at h
      by_cases h2 : b < a
      · rw [if_pos h2] at h; omega
      · rw [if_neg h2] at h
        rw [if_neg h2, if_neg h1]
        exact cmpL_asym l m h
theorem cmpL_trans : ∀ x y z, ¬ cmpL y x < 0 → ¬ cmpL z y < 0 → ¬ cmpL z x < 0
  | [], _, [], _, _ => by simp [cmpL]
  | [], _, _ :: _, _, _ => by simp [cmpL]
  | a :: l, [], z, h, _ => by simp [cmpL] at h
  | a :: l, b :: m, [], _, h => by simp [cmpL] at h
  | a :: l, b :: m, c :: n, h1, h2 => by
    unfold cmpL at h1 h2 ⊢
    by_cases p1 : b < a
    · rw [if_pos p1] at h1; omega
    · rw [if_neg p1] at h1
      by_cases q1 : c < b
      · rw [if_pos q1] at h2; omega
      · rw [if_neg q1] at h2
        rw [if_neg (by omega)]
        by_cases r1 : a < c
        · rw [if_pos r1]; omega
        · rw [if_neg r1]
          rw [if_neg (by omega)] at h1 h2
          exact cmpL_trans l m n h1 h2
end Go.Gr
end
section
/- slices.Compare at []int, and slices.SortFunc at a few slices. -/
namespace Go.Proofs.Tg.Gx
open Go.RowKit Go.Gr
set_option maxHeartbeats 1000000
set_option maxRecDepth 100000
theorem compare_any (A B : Option Addr) (c d : Nat) (l m : List Int) (w : World) (hA : Ints w A l) (hB : Ints w B m) (hl : l.length ≤ 1000000) :
    Calls Tryz.prog 98 #[.slice A l.length c, .slice B m.length d] w fun e w' => e = .returned (.int .i64 (cmpL l m)) ∧ w = w' := by
  go_enter Tryz.func98, Tryz.ntmps98
  go_wp2
  go_loop [11] (fun i => ∃ k : Nat, i = .int .i64 k ∧ k ≤ l.length ∧ k ≤ m.length ∧ Hid (cmpL l m = cmpL (l.drop k) (m.drop k))) (fun i => l.length - (intOf i).toNat)
  case atStart => exact ⟨0, rfl, Nat.zero_le _, Nat.zero_le _, Lib.hid rfl⟩
  case round =>
    obtain ⟨k, rfl, hk1, hk2, HC⟩ := hrel
    by_cases hkl : k < l.length
    · obtain ⟨ad, rfl, hc⟩ := Ints.at hA hkl
      have HL : Hid (l.drop k = l[k] :: l.drop (k + 1)) := Lib.hid (List.drop_eq_getElem_cons hkl)
      generalize l[k] = x at hc HL
      by_cases hkm : k < m.length
      · obtain ⟨bd, rfl, hd⟩ := Ints.at hB hkm
        have HM : Hid (m.drop k = m[k] :: m.drop (k + 1)) := Lib.hid (List.drop_eq_getElem_cons hkm)
        generalize m[k] = y at hd HM
        have dm : decide ((m.length : Int) ≤ (k : Int)) = false := by simp; omega
        have hce : cmpL l m = if cmpI x y = 0 then cmpL (l.drop (k + 1)) (m.drop (k + 1)) else cmpI x y := by
          rw [HC.out, HL.out, HM.out, cmpL]
          unfold cmpI
          by_cases h1 : x < y
          · simp [h1]
          · by_cases h2 : y < x <;> simp [h1, h2]
        have HE := Lib.hid hce
        clear hce HC HL HM
        have hcc := cmp_any x y w
        generalize cmpI x y = z at HE hcc
        have HQ := Lib.hid hcc
        clear hcc
        by_cases hz : z = 0
        · have hzb : (z != 0) = false := by simp [hz]
          have HZ := Lib.hid hz
          clear hz
          go_wp2_with (go_at_call 105; refine HQ.out.mono ?_; rintro e w' ⟨rfl, rfl⟩)
          go_round
          case rel => exact ⟨k + 1, by go_num, by omega, by omega, Lib.hid (by rw [HE.out, if_pos HZ.out])⟩
          case measure => simp [intOf]; omega
        · have hzb : (z != 0) = true := by simp [hz]
          have HZ := Lib.hid hz
          clear hz
          go_wp2_with (go_at_call 105; refine HQ.out.mono ?_; rintro e w' ⟨rfl, rfl⟩)
          go_ret
          exact ⟨by rw [HE.out, if_neg HZ.out]; rfl, rfl⟩
      · have dm : decide ((m.length : Int) ≤ (k : Int)) = true := by simp; omega
        have HE : Hid (cmpL l m = 1) := Lib.hid (by rw [HC.out, HL.out, show m.drop k = [] from List.drop_of_length_le (by omega)]; rfl)
        clear HC HL
        go_wp2
        go_ret
        exact ⟨by rw [HE.out]; rfl, rfl⟩
    · obtain rfl : k = l.length := by omega
      by_cases hlm : l.length < m.length
      · have dm : decide ((l.length : Int) < (m.length : Int)) = true := by simp; omega
        have HE : Hid (cmpL l m = -1) := Lib.hid (by rw [HC.out, List.drop_length, List.drop_eq_getElem_cons hlm]; rfl)
        clear HC
        go_wp2
        go_ret
        exact ⟨by rw [HE.out]; rfl, rfl⟩
      · have dm : decide ((l.length : Int) < (m.length : Int)) = false := by simp; omega
        have HE : Hid (cmpL l m = 0) := Lib.hid (by rw [HC.out, List.drop_length, show m.drop l.length = [] from List.drop_of_length_le (by omega)]; rfl)
        clear HC
        go_wp2
        go_ret
        exact ⟨by rw [HE.out]; rfl, rfl⟩
theorem len_any (n : Nat) (w : World) (hn : n ≤ 12) : Calls Tryz.prog 139 #[.int .u64 n] w fun e w' => (∃ l : Int, e = .returned (.int .i64 l)) ∧ w = w' := by
  have d1 : decide ((4294967296 : Int) ≤ (n : Int)) = false := by simp; omega
  have d2 : decide ((65536 : Int) ≤ (n : Int)) = false := by simp; omega
  have d3 : decide ((256 : Int) ≤ (n : Int)) = false := by simp; omega
  have h8 : n < Lib.len8tab.size := by rw [Lib.len8tab_size]; omega
  go_enter Tryz.func139, Tryz.ntmps139
  go_wp2
  go_ret
  exact ⟨⟨_, rfl⟩, rfl⟩
theorem bitsLen_any (n : Nat) (w : World) (hn : n ≤ 12) : Calls Tryz.prog 120 #[.int .u64 n] w fun e w' => (∃ l : Int, e = .returned (.int .i64 l)) ∧ w = w' := by
  have hw := wrap_nat n (by omega)
  go_enter Tryz.func120, Tryz.ntmps120
  go_wp2_with (go_at_call 139; refine (len_any _ _ hn).mono ?_; rintro e w' ⟨⟨l, rfl⟩, rfl⟩)
  go_ret
  exact ⟨⟨_, rfl⟩, rfl⟩
/-- The values of slices that lie in a row: by a number for each. -/
def enc (F : Nat → Option Addr × Nat) (ls : Nat → List Int) (i : Nat) : Value := .slice (F i).1 (ls i).length (F i).2
def rarr (F : Nat → Option Addr × Nat) (ls : Nat → List Int) (l : List Nat) (rest : List Value) : Array Value := (l.map (enc F ls) ++ rest).toArray
theorem rarr_at (F : Nat → Option Addr × Nat) (ls : Nat → List Int) (l : List Nat) (rest : List Value) {k : Nat} (hk : k < l.length) : (rarr F ls l rest)[k]? = some (enc F ls (l.getD k 0)) := by
  rw [rarr, List.getElem?_toArray, List.getElem?_append_left (by simpa using hk), List.getElem?_map, List.getD_eq_getElem?_getD, List.getElem?_eq_getElem hk]; rfl
theorem rarr_set (F : Nat → Option Addr × Nat) (ls : Nat → List Int) (l : List Nat) (rest : List Value) {k : Nat} (hk : k < l.length) (i : Nat) : (rarr F ls l rest).setIfInBounds k (enc F ls i) = rarr F ls (l.set k i) rest := by
  simp only [rarr, List.setIfInBounds_toArray, List.map_set]
  rw [List.set_append_left _ _ (by simpa using hk)]
/-- The rows can be read in every world that has turned in the one block alone. -/
def RowsOk (w : World) (g : Nat) (F : Nat → Option Addr × Nat) (ls : Nat → List Int) : Prop := ∀ w', w.grownBy w' (some g) → ∀ i, Ints w' (F i).1 (ls i) ∧ (ls i).length ≤ 1000000
def RetSorted (g : Nat) (F : Nat → Option Addr × Nat) (ls : Nat → List Int) (l : List Nat) (rest : List Value) (w : World) (e : Ending) (w' : World) : Prop :=
  e = .returned (.tuple #[]) ∧ ∃ l', l'.Perm l ∧ sortedTo (fun i j => cmpL (ls i) (ls j)) l' l.length ∧ Blk w' g 36 (rarr F ls l' rest) ∧ w.grownBy w' (some g)
theorem weakL (ls : Nat → List Int) : Weak (fun i j => cmpL (ls i) (ls j)) := ⟨fun _ _ => cmpL_asym _ _, fun _ _ _ => cmpL_trans _ _ _⟩
theorem insertion_any (g c : Nat) (F : Nat → Option Addr × Nat) (ls : Nat → List Int) (l : List Nat) (rest : List Value) (w : World) (hB : Blk w g 36 (rarr F ls l rest)) (hR : RowsOk w g F ls) (hn : l.length ≤ 12) :
    Calls Tryz.prog 130 #[.slice (some ⟨g, 0, none⟩) l.length c, .int .i64 0, .int .i64 l.length, .func (.func 98) #[] #[]] w (RetSorted g F ls l rest w) := by
  have HW := Lib.hid (weakL ls)
  have HR := Lib.hid hR
  clear hR
  go_enter Tryz.func130, Tryz.ntmps130
  go_wp2
  go_loopw [8] (fun t wr => ∃ (i : Nat) (m : List Nat), t = .int .i64 i ∧ 1 ≤ i ∧ i ≤ l.length + 1 ∧ m.length = l.length ∧ Hid (m.Perm l) ∧ Hid (sortedTo (fun i j => cmpL (ls i) (ls j)) m i) ∧ Blk wr g 36 (rarr F ls m rest) ∧ w.grownBy wr (some g)) (fun t _ => l.length + 1 - (intOf t).toNat)
  case atStart => exact ⟨1, l, rfl, by omega, by omega, rfl, Lib.hid (List.Perm.refl _), Lib.hid (fun a b h1 h2 => by omega), hB, World.grownBy.refl _ _⟩
  case round =>
    clear hB
    obtain ⟨i, m, rfl, hi1, hi2, hml, HP, HS, hB, hg⟩ := hrel
    by_cases hil : i < l.length
    · have hib : decide ((i : Int) < (l.length : Int)) = true := by simp; omega
      have HB0 : Hid (sortedBut (fun i j => cmpL (ls i) (ls j)) m i i) := Lib.hid (sortedBut_start HS.out)
      have HML := Lib.hid hml
      clear HS hml
      go_wp2
      go_loopw [9] (fun t wr => ∃ (j : Nat) (q : List Nat), t = .int .i64 j ∧ j ≤ i ∧ Hid (q.length = l.length) ∧ Hid (q.Perm l) ∧ Hid (sortedBut (fun i j => cmpL (ls i) (ls j)) q i j) ∧ Blk wr g 36 (rarr F ls q rest) ∧ w.grownBy wr (some g)) (fun t _ => (intOf t).toNat)
      case atStart => exact ⟨i, m, rfl, Nat.le_refl _, HML, HP, HB0, hB, hg⟩
      case round =>
        clear hB hg HP HB0 HML
        obtain ⟨j, q, rfl, hj, HQL, HP, HS, hB, hg⟩ := hrel
        by_cases hj0 : j = 0
        · have dj : decide ((0 : Int) < (j : Int)) = false := by simp; omega
          have dj2 : decide (0 < j) = false := by simp; omega
          have HS2 : Hid (sortedTo (fun i j => cmpL (ls i) (ls j)) q (i + 1)) := Lib.hid (sortedBut_stop HW.out HS.out (.inl hj0))
          clear HS hj0
          go_wp2
          go_quiet (fail)
          go_wp2
          go_roundw
          case rel => exact ⟨i + 1, q, by go_num, by omega, by omega, HQL.out, HP, HS2, hB, grown_drewN hg _⟩
          case measure => simp [intOf]; omega
        · have dj : decide ((0 : Int) < (j : Int)) = true := by simp; omega
          have dj2 : decide (0 < j) = true := by simp; omega
          have cj := (hB.cell j).trans (rarr_at F ls q rest (by rw [HQL.out]; omega))
          have cp := (hB.cell (j - 1)).trans (rarr_at F ls q rest (k := j - 1) (by rw [HQL.out]; omega))
          unfold enc at cj cp
          obtain ⟨r1, r1'⟩ := HR.out wr hg (q.getD j 0)
          obtain ⟨r2, _⟩ := HR.out wr hg (q.getD (j - 1) 0)
          have hcc := fun W hW => (compare_any _ _ (F (q.getD j 0)).2 (F (q.getD (j - 1) 0)).2 (ls (q.getD j 0)) (ls (q.getD (j - 1) 0)) W (HR.out W hW (q.getD j 0)).1 (HR.out W hW (q.getD (j - 1) 0)).1 r1').mono
            (R' := fun e w' => e = .returned (.int .i64 (cmpL (ls (q.getD j 0)) (ls (q.getD (j - 1) 0)))) ∧ w' = W) fun _ _ h => ⟨h.1, h.2.symm⟩
          have HC := Lib.hid hcc
          clear hcc r1 r2 r1'
          have k2 : (1 : Int) ≤ (j : Int) := by omega
          have k1 : (j : Int) - 1 < (l.length : Int) := by omega
          have k0 : (j : Int) < (l.length : Int) := by omega
          have k00 : (0 : Int) ≤ (j : Int) := by omega
          have k3 : ((j : Int) - 1).toNat = j - 1 := by omega
          have k4 : IntKind.i64.wrap ((j : Int) - 1) = (j : Int) - 1 := IntWalk.i64_in _ (by omega)
          have HJ := Lib.hid hj0
          clear hj0
          by_cases hz : cmpL (ls (q.getD j 0)) (ls (q.getD (j - 1) 0)) < 0
          · have HS2 : Hid (sortedBut (fun i j => cmpL (ls i) (ls j)) (swp q j) i (j - 1)) := Lib.hid (sortedBut_swap HW.out HS.out (by omega) hj (by rw [HQL.out]; exact hil) hz)
            have hz2 : decide (cmpL (ls (q.getD j 0)) (ls (q.getD (j - 1) 0)) < 0) = true := by simpa using hz
            have HP2 : Hid ((swp q j).Perm l) := Lib.hid ((swp_perm (by omega) (by rw [HQL.out]; omega)).trans HP.out)
            have B1 : Blk ((wr.setCell ⟨g, j, none⟩ (enc F ls (q.getD (j - 1) 0))).setCell ⟨g, j - 1, none⟩ (enc F ls (q.getD j 0))) g 36 (rarr F ls (swp q j) rest) := by
              have := (hB.set j (enc F ls (q.getD (j - 1) 0))).set (j - 1) (enc F ls (q.getD j 0))
              rw [rarr_set F ls q rest (by rw [HQL.out]; omega), rarr_set F ls _ rest (by rw [List.length_set, HQL.out]; omega)] at this
              exact this
            have HB1 := Lib.hid B1
            have fj := hB.frozen j
            have fp := hB.frozen (j - 1)
            unfold enc at HB1
            clear HS HP B1
            generalize cmpL (ls (q.getD j 0)) (ls (q.getD (j - 1) 0)) = z at HC hz hz2
            go_wp2
            go_quiet ((go_at_call 98; exact Calls.quiet_of_same (HC.out _ (by exact grown_drewN hg _))))
            go_wp2
            go_region
            go_wp2
            go_roundw
            case rel =>
              have hq : ((j - 1 : Nat) : Int) = (j : Int) - 1 := by omega
              refine ⟨j - 1, swp q j, by rw [hq], by omega, Lib.hid (by rw [swp_len]; exact HQL.out), HP2, HS2, ?_, ?_⟩
              · exact HB1.out
              · exact grown_set (grown_set (grown_drewN hg _) j _) (j - 1) _
            case measure => simp [intOf]; omega
          · have HS2 : Hid (sortedTo (fun i j => cmpL (ls i) (ls j)) q (i + 1)) := Lib.hid (sortedBut_stop HW.out HS.out (.inr hz))
            have hz2 : decide (cmpL (ls (q.getD j 0)) (ls (q.getD (j - 1) 0)) < 0) = false := by simpa using hz
            clear HS
            generalize cmpL (ls (q.getD j 0)) (ls (q.getD (j - 1) 0)) = z at HC hz hz2
            go_wp2
            go_quiet ((go_at_call 98; exact Calls.quiet_of_same (HC.out _ (by exact grown_drewN hg _))))
            go_wp2
            go_roundw
            case rel => exact ⟨i + 1, q, by go_num, by omega, by omega, HQL.out, HP, HS2, hB, grown_drewN hg _⟩
            case measure => simp [intOf]; omega
    · have hib : decide ((i : Int) < (l.length : Int)) = false := by simp; omega
      have HML := Lib.hid hml
      clear hml
      go_wp2
      go_end0
      exact ⟨rfl, m, HP.out, fun a b h1 h2 => HS.out a b h1 (by omega), hB, hg⟩
theorem pdq_any (g c : Nat) (lim : Int) (F : Nat → Option Addr × Nat) (ls : Nat → List Int) (l : List Nat) (rest : List Value) (w : World) (hB : Blk w g 36 (rarr F ls l rest)) (hR : RowsOk w g F ls) (hn : l.length ≤ 12) :
    Calls Tryz.prog 119 #[.slice (some ⟨g, 0, none⟩) l.length c, .int .i64 0, .int .i64 l.length, .int .i64 lim, .func (.func 98) #[] #[]] w (RetSorted g F ls l rest w) := by
  have hd : decide ((l.length : Int) ≤ 12) = true := by simp; omega
  have HI := Lib.hid (insertion_any g c F ls l rest w hB hR hn)
  clear hB hR
  go_enter Tryz.func119, Tryz.ntmps119
  go_wp2
  refine wp_loop_rounds 1 ?_
  rw [rounds_succ]
  go_wp2_with (go_at_call 130; refine HI.out.mono ?_; rintro e w1 ⟨rfl, hw1⟩; have HW1 := Lib.hid hw1; clear hw1)
  (try simp only [Exit.inBlock, Exit.then])
  refine bodyPost_ret (results_none rfl _ _ _) rfl ?_
  exact ⟨rfl, HW1.out⟩
theorem sort_any (g c : Nat) (F : Nat → Option Addr × Nat) (ls : Nat → List Int) (l : List Nat) (rest : List Value) (w : World) (hB : Blk w g 36 (rarr F ls l rest)) (hR : RowsOk w g F ls) (hn : l.length ≤ 12) :
    Calls Tryz.prog 97 #[.slice (some ⟨g, 0, none⟩) l.length c, .func (.func 98) #[] #[]] w (RetSorted g F ls l rest w) := by
  have hw := wrap_nat l.length (by omega)
  have HI := Lib.hid (fun lim => pdq_any g c lim F ls l rest w hB hR hn)
  clear hB hR
  go_enter Tryz.func97, Tryz.ntmps97
  go_wp2_with (first
    | (go_at_call 120; refine (bitsLen_any _ _ hn).mono ?_; rintro e w' ⟨⟨z, rfl⟩, rfl⟩)
    | (go_at_call 119; refine (HI.out _).mono ?_; rintro e w1 ⟨rfl, hw1⟩; have HW1 := Lib.hid hw1; clear hw1))
  go_end0
  exact ⟨rfl, HW1.out⟩
end Go.Proofs.Tg.Gx
end
section
/- Sorting rows of the call's own. -/
namespace Go.Proofs.Tg.Gx
open Go.RowKit Go.Gr
set_option maxHeartbeats 1000000
set_option maxRecDepth 100000
/-- m rows of numbers, each the call's own. -/
def RowsIn (w : World) (base m : Nat) (F : Nat → Option Addr × Nat) (ls : Nat → List Int) : Prop := ∀ i, i < m → w.ownsRow base 3 1 (enc F ls i) (ls i).length ((ls i).map vi)
theorem insertion_nil (w : World) : Calls Tryz.prog 130 #[.slice none 0 0, .int .i64 0, .int .i64 0, .func (.func 98) #[] #[]] w fun e w' => e = .returned (.tuple #[]) ∧ w = w' := by
  go_enter Tryz.func130, Tryz.ntmps130
  go_wp2
  refine wp_loop_rounds 1 ?_
  rw [rounds_succ]
  go_wp2
  go_end0
  exact ⟨rfl, rfl⟩
theorem pdq_nil (lim : Int) (w : World) : Calls Tryz.prog 119 #[.slice none 0 0, .int .i64 0, .int .i64 0, .int .i64 lim, .func (.func 98) #[] #[]] w fun e w' => e = .returned (.tuple #[]) ∧ w = w' := by
  go_enter Tryz.func119, Tryz.ntmps119
  go_wp2
  refine wp_loop_rounds 1 ?_
  rw [rounds_succ]
  go_wp2_with (go_at_call 130; refine (insertion_nil _).mono ?_; rintro e w1 ⟨rfl, rfl⟩)
  (try simp only [Exit.inBlock, Exit.then])
  refine bodyPost_ret (results_none rfl _ _ _) rfl ?_
  exact ⟨rfl, rfl⟩
theorem bitsLen0 (w : World) : Calls Tryz.prog 120 #[.int .u64 0] w fun e w' => (∃ l : Int, e = .returned (.int .i64 l)) ∧ w = w' := bitsLen_any 0 w (by omega)
theorem sort_nil (w : World) : Calls Tryz.prog 97 #[.slice none 0 0, .func (.func 98) #[] #[]] w fun e w' => e = .returned (.tuple #[]) ∧ w = w' := by
  go_enter Tryz.func97, Tryz.ntmps97
  go_wp2_with (first
    | (go_at_call 120; refine (bitsLen0 _).mono ?_; rintro e w' ⟨⟨z, rfl⟩, rfl⟩)
    | (go_at_call 119; refine (pdq_nil _ _).mono ?_; rintro e w1 ⟨rfl, rfl⟩))
  go_end0
  exact ⟨rfl, rfl⟩
def sortedL (lo : List (List Int)) : Prop := ∀ a b, a < b → b < lo.length → ¬ cmpL (lo.getD b []) (lo.getD a []) < 0
def cutF {α : Type} (F : Nat → α) (m : Nat) (z : α) : Nat → α := fun i => if i < m then F i else z
theorem map_cut (F : Nat → Option Addr × Nat) (ls : Nat → List Int) (m : Nat) : (List.range m).map (enc (cutF F m (none, 0)) (cutF ls m [])) = (List.range m).map (enc F ls) := by
  apply List.map_congr_left
  intro i hi
  have : i < m := by simpa using hi
  unfold enc cutF; rw [if_pos this, if_pos this]
theorem sort_rows (R : Option Addr) (m cr base : Nat) (F : Nat → Option Addr × Nat) (ls : Nat → List Int) (w : World) (hR : w.ownsRow base 36 1 (.slice R m cr) m ((List.range m).map (enc F ls))) (hRows : RowsIn w base m F ls) (hm : m ≤ 12)
    (hlen : ∀ i, i < m → (ls i).length ≤ 1000000) :
    Calls Tryz.prog 97 #[.slice R m cr, .func (.func 98) #[] #[]] w fun e w' => e = .returned (.tuple #[]) ∧ ∃ lo : List (List Int), lo.length = m ∧ lo.Perm ((List.range m).map ls) ∧ sortedL lo ∧ Lists w' R lo ∧ Below base w w' := by
  rcases hR.2 with ⟨hv, rfl⟩ | ⟨g, cap, cur, hv, hgb, hg, hmc, _, hcs, htake⟩
  · injection hv with h1 h2 h3
    subst h1; subst h3
    refine (sort_nil w).mono fun e w' ⟨he, hw⟩ => ⟨he, [], rfl, by simp, fun a b _ hb => by simp at hb, ?_, ?_⟩
    · exact ⟨fun _ => (none, 0), ⟨by simp, fun h => by simp at h⟩, fun i hi => by simp at hi⟩
    · rw [← hw]; exact Below.refl _ _
  · injection hv with h1 h2 h3
    subst h1; subst h3
    have hB : Blk w g 36 (rarr (cutF F m (none, 0)) (cutF ls m []) (List.range m) (cur.toList.drop m)) := by
      unfold Blk
      rw [hg, rarr, map_cut, ← htake, Nat.mul_one, List.take_append_drop]
    have hrow : ∀ i, i < m → ∀ w', w.grownBy w' (some g) → Ints w' (F i).1 (ls i) := by
      intro i hi w' hgr
      have h := (hRows i hi).kept hgr (by
        have := own_ne (hRows i hi) hR (by decide)
        simpa [Value.ownBlock] using this)
      have := Sl.own (by unfold enc at h; exact h)
      simpa using this
    have hOK : RowsOk w g (cutF F m (none, 0)) (cutF ls m []) := by
      intro w' hgr i
      unfold cutF
      by_cases hi : i < m
      · rw [if_pos hi, if_pos hi]; exact ⟨hrow i hi w' hgr, hlen i hi⟩
      · rw [if_neg hi, if_neg hi]; exact ⟨⟨by simp, fun h => by simp at h⟩, by simp⟩
    have hs := sort_any g cr (cutF F m (none, 0)) (cutF ls m []) (List.range m) (cur.toList.drop m) w hB hOK (by simpa using hm)
    rw [List.length_range] at hs
    refine hs.mono fun e w' ⟨he, l', hp, hsrt, hB', hgr⟩ => ⟨he, l'.map (cutF ls m []), ?_, ?_, ?_, ?_, ?_⟩
    · simp [hp.length_eq]
    · have e1 : (List.range m).map (cutF ls m []) = (List.range m).map ls := by
        apply List.map_congr_left
        intro i hi
        have : i < m := by simpa using hi
        unfold cutF; rw [if_pos this]
      rw [← e1]; exact hp.map _
    · intro a b hab hb
      have hbl : b < l'.length := by simpa using hb
      have := hsrt a b hab (by rw [List.length_range]; have := hp.length_eq; simp at this; omega)
      simp only [List.getD_eq_getElem?_getD, List.getElem?_map, List.getElem?_eq_getElem hbl, List.getElem?_eq_getElem (show a < l'.length by omega)] at this ⊢
      exact this
    · have hl' : l'.length = m := by have := hp.length_eq; simpa using this
      refine ⟨fun i => cutF F m (none, 0) (l'.getD i 0), ⟨by simp, fun hn => ?_⟩, fun i hi => ?_⟩
      · refine ⟨⟨g, 0, none⟩, rfl, Blk.lt hB', fun j u hu => ?_⟩
        have hj : j < l'.length := by
          rcases Nat.lt_or_ge j l'.length with h | h
          · exact h
          · rw [List.getElem?_eq_none (by simp; omega)] at hu; cases hu
        rw [add_lit, Nat.zero_add, hB'.cell j, rarr_at _ _ _ _ hj, ← hu]
        simp [enc, hj]
      · have hi2 : i < l'.length := by simpa using hi
        have := (hOK w' hgr (l'.getD i 0)).1
        have e2 : (l'.map (cutF ls m [])).getD i [] = cutF ls m [] (l'.getD i 0) := by simp [hi2]
        rw [e2]; exact this
    · exact ⟨hgr.os, hgr.tape, hgr.output, hgr.size, fun k hk => by
        rcases Nat.lt_or_ge k w.heap.size with h | h
        · exact hgr.block k h (by intro e; injection e with e; omega)
        · have hgl := (Array.getElem?_eq_some_iff.1 hg).1; omega⟩
end Go.Proofs.Tg.Gx
end
section
/- slices.ContainsFunc with the closure of Cliques. -/
namespace Go.Proofs.Tg.Gx
open Go.RowKit Go.Gr
set_option maxHeartbeats 1000000
set_option maxRecDepth 100000
theorem closure_any (s t b : Nat) (w : World) (hb : w.cell? ⟨b, 0, none⟩ = some (.int .u64 s)) (hs : s < 18446744073709551616) (ht : t < 18446744073709551616) :
    Calls Tryz.prog 96 #[.int .u64 t, .pointer (some ⟨b, 0, none⟩)] w fun e w' => e = .returned (.bool (decide (andn s t = 0))) ∧ w = w' := by
  have h1 := andn_zero_any t hs ht
  have h2 : (((andn s t : Nat) : Int) == 0) = decide (andn s t = 0) := by
    rw [Bool.eq_iff_iff]; simp
  generalize andn s t = z at h1 h2
  go_enter Tryz.func96, Tryz.ntmps96
  go_wp2
  go_ret
  refine ⟨?_, rfl⟩
  show Ending.returned (.bool _) = _
  first | rw [← h2] | rfl
theorem index_any (A : Option Addr) (c s b : Nat) (l : List Nat) (w : World) (hA : Sets w A l) (hb : w.cell? ⟨b, 0, none⟩ = some (.int .u64 s)) (hs : s < 18446744073709551616) (hl : l.length ≤ 1000000) (hls : ∀ t ∈ l, t < 18446744073709551616) :
    Calls Tryz.prog 118 #[.slice A l.length c, .func (.func 96) #[] #[.pointer (some ⟨b, 0, none⟩)]] w fun e w' => (∃ n : Int, e = .returned (.int .i64 n) ∧ (0 ≤ n ↔ ∃ t ∈ l, andn s t = 0)) ∧ w = w' := by
  have HLS := Lib.hid hls
  clear hls
  go_enter Tryz.func118, Tryz.ntmps118
  go_wp2
  go_loop [8] (fun i => ∃ k : Nat, i = .int .i64 k ∧ k ≤ l.length ∧ Hid (∀ t ∈ l.take k, ¬ andn s t = 0)) (fun i => l.length - (intOf i).toNat)
  case atStart => exact ⟨0, rfl, Nat.zero_le _, Lib.hid (by simp)⟩
  case round =>
    obtain ⟨k, rfl, hk, HN⟩ := hrel
    by_cases hkl : k < l.length
    · obtain ⟨ad, rfl, hc⟩ := Sets.at hA hkl
      have ht := HLS.out l[k] (List.getElem_mem _)
      have HT : Hid (l.take (k + 1) = l.take k ++ [l[k]]) := Lib.hid (List.take_succ_eq_append_getElem hkl)
      have HM : Hid (l[k] ∈ l) := Lib.hid (List.getElem_mem _)
      generalize l[k] = t at hc ht HT HM
      have hq := closure_any s t b w hb hs ht
      by_cases hz : andn s t = 0
      · rw [decide_eq_true hz] at hq
        have HQ := Lib.hid hq
        have HZ := Lib.hid hz
        clear hq hz
        go_wp2_with (go_at_call 96; refine HQ.out.mono ?_; rintro e w' ⟨rfl, rfl⟩)
        go_ret
        exact ⟨⟨k, rfl, fun _ => ⟨t, HM.out, HZ.out⟩, fun _ => by omega⟩, rfl⟩
      · rw [decide_eq_false hz] at hq
        have HQ := Lib.hid hq
        have HZ := Lib.hid hz
        clear hq hz
        go_wp2_with (go_at_call 96; refine HQ.out.mono ?_; rintro e w' ⟨rfl, rfl⟩)
        go_round
        case rel =>
          refine ⟨k + 1, by go_num, by omega, Lib.hid ?_⟩
          rw [HT.out]
          intro x hx
          rcases List.mem_append.1 hx with h | h
          · exact HN.out x h
          · simp at h; subst h; exact HZ.out
        case measure => simp [intOf]; omega
    · obtain rfl : k = l.length := by omega
      have HN2 : Hid (∀ t ∈ l, ¬ andn s t = 0) := Lib.hid (by have := HN.out; rwa [List.take_length] at this)
      clear HN
      go_wp2
      go_ret
      exact ⟨⟨-1, rfl, fun h => by omega, fun ⟨t, ht, hz⟩ => absurd hz (HN2.out t ht)⟩, rfl⟩
theorem contains_any (A : Option Addr) (c s b : Nat) (l : List Nat) (w : World) (hA : Sets w A l) (hb : w.cell? ⟨b, 0, none⟩ = some (.int .u64 s)) (hs : s < 18446744073709551616) (hl : l.length ≤ 1000000) (hls : ∀ t ∈ l, t < 18446744073709551616) :
    Calls Tryz.prog 95 #[.slice A l.length c, .func (.func 96) #[] #[.pointer (some ⟨b, 0, none⟩)]] w fun e w' => e = .returned (.bool (l.any fun t => decide (andn s t = 0))) ∧ w = w' := by
  have HI := Lib.hid (index_any A c s b l w hA hb hs hl hls)
  clear hA hb hls
  go_enter Tryz.func95, Tryz.ntmps95
  go_wp2_with (go_at_call 118; refine HI.out.mono ?_; rintro e w' ⟨⟨n, rfl, hn⟩, rfl⟩; have HN := Lib.hid hn; clear hn)
  go_ret
  refine ⟨?_, rfl⟩
  show Ending.returned (.bool (decide (0 ≤ n))) = _
  have : decide (0 ≤ n) = l.any fun t => decide (andn s t = 0) := by
    rw [Bool.eq_iff_iff, decide_eq_true_eq, HN.out, List.any_eq_true]
    simp
  rw [this]
end Go.Proofs.Tg.Gx
end
section
/- Cliques. -/
namespace Go.Gr
def cands (A : Nat → Nat) (n : Nat) : List Nat := List.zipWith bset (earlier A (search A n)) (search A n)
/-- The sets that are contained in no later one. -/
def keepLast : List Nat → List Nat
  | [] => []
  | s :: r => if (r.any fun t => decide (andn s t = 0)) = true then keepLast r else s :: keepLast r
def vertsI (s : Nat) : List Int := (verts s).map fun v : Nat => (v : Int)
theorem search_len {A : Nat → Nat} {n : Nat} (hn : n ≤ 64) : (search A n).length = n := (visits hn n (Nat.le_refl _)).len
theorem search_lt {A : Nat → Nat} {n : Nat} (hn : n ≤ 64) : ∀ v ∈ search A n, v < n := (visits hn n (Nat.le_refl _)).lt
theorem zip_at {l m : List Nat} {k : Nat} (h1 : k < l.length) (h2 : k < m.length) : (List.zipWith bset (l.take (k + 1)) (m.take (k + 1))) = List.zipWith bset (l.take k) (m.take k) ++ [bset l[k] m[k]] := by
  rw [List.take_succ_eq_append_getElem h1, List.take_succ_eq_append_getElem h2, List.zipWith_append (by simp; omega)]
  rfl
end Go.Gr
namespace Go.Proofs.Tg.Gx
open Go.RowKit Go.Gr
set_option maxHeartbeats 4000000
set_option maxRecDepth 100000
theorem rows_info : (Tryz.prog.info? 36).map (fun i => (i.zero, i.size, i.bytes)) = some (some (.slice none 0 0), 1, 24) := by kernel_rfl
theorem sets_at {w : World} {C : Option Addr} {N : Nat} {xs : List Nat} (h : Sl w C N 1 (xs.map vs)) (hN : xs.length = N) {k : Nat} (hk : k < N) : ∃ ad, C = some ad ∧ w.cell? (ad.add k) = some (.int .u64 (xs.getD k 0 : Nat)) := by
  subst hN
  obtain ⟨ad, e, hc⟩ := Sets.at h hk
  refine ⟨ad, e, ?_⟩
  rw [hc, List.getD_eq_getElem?_getD, List.getElem?_eq_getElem hk]; rfl
theorem drop_getD {xs : List Nat} {k : Nat} (hk : k < xs.length) : xs.drop k = xs.getD k 0 :: xs.drop (k + 1) := by
  rw [List.drop_eq_getElem_cons hk, List.getD_eq_getElem?_getD, List.getElem?_eq_getElem hk]; rfl
theorem getD_mem {xs : List Nat} {k : Nat} (hk : k < xs.length) : xs.getD k 0 ∈ xs := by
  rw [List.getD_eq_getElem?_getD, List.getElem?_eq_getElem hk]; exact List.getElem_mem _
theorem contains_at (A : Option Addr) (c s b N : Nat) (l : List Nat) (w : World) (hN : l.length = N) (hA : Sl w A N 1 (l.map vs)) (hb : w.cell? ⟨b, 0, none⟩ = some (.int .u64 s)) (hs : s < 18446744073709551616) (hl : N ≤ 1000000) (hls : ∀ t ∈ l, t < 18446744073709551616) :
    Calls Tryz.prog 95 #[.slice A N c, .func (.func 96) #[] #[.pointer (some ⟨b, 0, none⟩)]] w fun e w' => e = .returned (.bool (l.any fun t => decide (andn s t = 0))) ∧ w = w' := by
  subst hN
  exact contains_any A c s b l w hA hb hs hl hls
theorem sl_cut {w : World} {ad : Addr} {N k : Nat} {xs : List Value} (h : Sl w (some ad) N 1 xs) : Sl w (some ⟨ad.block, ad.off + (k + 1), none⟩) (N - (k + 1)) 1 (xs.drop (k + 1)) := by
  refine ⟨by rw [List.length_drop, h.len]; omega, fun hn => ?_⟩
  obtain ⟨ad', e, hb, hc⟩ := h.lies (by omega)
  injection e with e
  subst e
  refine ⟨_, rfl, hb, fun j u hu => ?_⟩
  have := hc (k + 1 + j) u (by rw [← hu, List.getElem?_drop])
  rw [← add_add] at this
  have e2 : ad.add (k + 1) = ⟨ad.block, ad.off + (k + 1), none⟩ := by unfold Addr.add; rw [if_neg (by omega)]
  rwa [e2] at this
theorem sl_none {w : World} {A : Option Addr} {N k : Nat} {xs : List Value} (hx : xs.length = N) (h : N ≤ k + 1) : Sl w A (N - (k + 1)) 1 (xs.drop (k + 1)) :=
  ⟨by rw [List.length_drop]; omega, fun hn => by omega⟩
theorem RowsIn.kept {w w' : World} {base m : Nat} {F : Nat → Option Addr × Nat} {ls : Nat → List Int} {row : Option Nat} (h : RowsIn w base m F ls) (hg : w.grownBy w' row) (hne : ∀ i, i < m → (enc F ls i).ownBlock = none ∨ (enc F ls i).ownBlock ≠ row) : RowsIn w' base m F ls :=
  fun i hi => (h i hi).kept hg (hne i hi)
theorem RowsIn.below {w w' : World} {base m B : Nat} {F : Nat → Option Addr × Nat} {ls : Nat → List Int} (h : RowsIn w base m F ls) (hb : Below B w w') (hB : w.heap.size ≤ B) : RowsIn w' base m F ls := fun i hi => own_below (h i hi) hb hB
theorem RowsIn.alloc {w : World} {base m : Nat} {F : Nat → Option Addr × Nat} {ls : Nat → List Int} (h : RowsIn w base m F ls) (o : Obj) : RowsIn (w.alloc o) base m F ls := fun i hi => (h i hi).alloc o
def snocF {α : Type} (F : Nat → α) (m : Nat) (x : α) : Nat → α := fun i => if i = m then x else F i
theorem enc_snoc_lt (F : Nat → Option Addr × Nat) (ls : Nat → List Int) (m : Nat) (x : Option Addr × Nat) (l : List Int) {i : Nat} (h : i < m) : enc (snocF F m x) (snocF ls m l) i = enc F ls i := by
  unfold enc snocF; rw [if_neg (by omega), if_neg (by omega)]
theorem enc_snoc_eq (F : Nat → Option Addr × Nat) (ls : Nat → List Int) (m : Nat) (x : Option Addr × Nat) (l : List Int) : enc (snocF F m x) (snocF ls m l) m = .slice x.1 l.length x.2 := by
  unfold enc snocF; simp
theorem map_snoc (F : Nat → Option Addr × Nat) (ls : Nat → List Int) (m : Nat) (x : Option Addr × Nat) (l : List Int) : (List.range (m + 1)).map (enc (snocF F m x) (snocF ls m l)) = (List.range m).map (enc F ls) ++ [.slice x.1 l.length x.2] := by
  rw [List.range_succ, List.map_append]
  congr 1
  · apply List.map_congr_left
    intro i hi
    exact enc_snoc_lt _ _ _ _ _ (by simpa using hi)
  · simp [enc_snoc_eq]
theorem RowsIn.snoc {w : World} {base m : Nat} {F : Nat → Option Addr × Nat} {ls : Nat → List Int} (h : RowsIn w base m F ls) {x : Option Addr × Nat} {l : List Int} (hx : w.ownsRow base 3 1 (.slice x.1 l.length x.2) l.length (l.map vi)) : RowsIn w base (m + 1) (snocF F m x) (snocF ls m l) := by
  intro i hi
  by_cases e : i = m
  · subst e
    rw [enc_snoc_eq]
    have : snocF ls i l i = l := by simp [snocF]
    rw [this]; exact hx
  · rw [enc_snoc_lt _ _ _ _ _ (by omega)]
    have : snocF ls m l i = ls i := by simp [snocF, e]
    rw [this]; exact h i (by omega)
theorem cliques_ok (n : Nat) (E : Option Addr) (c : Nat) (es : List (Int × Int)) (w : World) (hE : EdgesAt w E es) (hl : es.length ≤ 1000000) (hv : valid n es) (hT : Tab w) (hc : isChordal (readAll es) n = true) (h12 : n ≤ 12) :
    Calls Tryz.prog 62 #[.agg #[.int .i64 n, .slice E es.length c]] w fun e w' => ∃ V d ls, e = .returned (.tuple #[.slice V (List.length ls) d, .int .i64 0]) ∧ Lists w' V ls ∧ ls.Perm ((keepLast (cands (readAll es) n)).map vertsI) ∧
      sortedL ls ∧ Below w.heap.size w w' := by
  obtain ⟨j0, hj, hjz0, hjz1, hjz2⟩ := info_parts rows_info
  obtain ⟨i0, hi, hz0, hz1, hz2⟩ := info_parts set_info
  have hr := read_all n E c es true (w.alloc (.cells #[.int .i64 n, .slice E es.length c] 40)) (hE.keep ((Below.refl _ _).alloc (Nat.le_refl _) _)) hl (by simp [hv])
  have hsm := (readAll_small es n hv).1
  have hn : n ≤ 64 := by omega
  have hbA : Below w.heap.size w (w.alloc (.cells #[.int .i64 n, .slice E es.length c] 40)) := (Below.refl _ _).alloc (Nat.le_refl _) _
  have hB := Blk.new w 40 #[.int .i64 n, .slice E es.length c]
  have HR := Lib.hid hr
  have HB := Lib.hid hB
  have HC := Lib.hid hc
  clear hr hv hB hc
  go_enter Tryz.func62, Tryz.ntmps62
  go_wp2_with (first
    | (go_at_call 45; refine HR.out.mono ?_; rintro e w1 ⟨A, hAs, rfl, hAe, hb1⟩; obtain rfl := hAe rfl; clear hAe)
    | (refine adj_alloc _ _ _ _ ?_)
    | (refine wpList_store_row rfl 89 (.tmp 4) (.tmp 17) rfl w1.heap.size (adjA (readAll es)) rfl rfl 89 (adjA fun _ => 0) (Blk.new w1 89 _) (size56 _) (by simp only [adjA_size]) (adj_one _) ?_
       have hA1 := blk_setRow (Blk.new w1 89 (adjA fun _ => 0)) (adjA (readAll es))
       have hB1 := blk_setRow_far (Blk.alloc (HB.out.keep hb1 (Blk.lt HB.out)) (.cells (adjA fun _ => 0) 89)) (g' := w1.heap.size) (by have := hb1.size; simp at this; omega) (adjA (readAll es))
       have hbw := below_setRow ((hbA.trans (hb1.mono (by simp))).alloc (by have := hb1.size; simp at this; omega) (.cells (adjA fun _ => 0) 89)) (g := w1.heap.size) (by have := hb1.size; simp at this; omega) (adjA (readAll es))
       have c0 := hB1.cell 0
       simp at c0
       generalize (w1.alloc (.cells (adjA fun _ => 0) 89)).setRow w1.heap.size (adjA (readAll es)) = W at hA1 hB1 hbw c0 ⊢
       generalize w1.heap.size = g at hA1 ⊢)
    | (go_at_call 92; refine (chordalA_any _ _ (readAll es) _ hA1 hsm hn (hT.below hbw hT.1)).mono ?_; rintro e w2 ⟨rfl, hb2⟩; rw [HC.out]
       have c02 := keep_cell hb2 c0)
    | (go_at_call 93; refine (search_any _ _ (readAll es) _ (hA1.keep hb2 (Blk.lt hA1)) hsm hn).mono ?_; rintro e w3 ⟨V, cv, rfl, hVc, hV, hb3⟩)
    | (go_at_call 94; refine (earlier_any _ (readAll es) _ _ (search (readAll es) n) _ ((hA1.keep hb2 (Blk.lt hA1)).keep hb3 (Nat.lt_of_lt_of_le (Blk.lt hA1) hb2.size)) hsm (Sl.own hV) (by rw [search_len hn]; exact hn) (fun v hv => by have := search_lt hn v hv; omega)).mono ?_; rintro e w4 ⟨V2, cv2, rfl, hVc2, hV2, hb4⟩))
  have HCD : Hid (cands (readAll es) n = List.zipWith bset (earlier (readAll es) (search (readAll es) n)) (search (readAll es) n)) := Lib.hid rfl
  have hol : (search (readAll es) n).length ≤ n := by rw [search_len hn]; exact Nat.le_refl _
  have HOE : Hid ((earlier (readAll es) (search (readAll es) n)).length = (search (readAll es) n).length) := Lib.hid (by unfold earlier; rw [earlierFrom_len])
  have HOB : Hid (∀ v ∈ search (readAll es) n, v < 64) := Lib.hid (fun v hv => by have := search_lt hn v hv; omega)
  have HEB : Hid (∀ s ∈ earlier (readAll es) (search (readAll es) n), s < 18446744073709551616) := Lib.hid (sets_lt_earlier _ hsm _ _)
  have hVr := (Sl.own hV).keep hb4
  have hV2r := Sl.own hV2
  have hbw4 : Below w.heap.size w w4 := below_all (below_all (below_all hbw hb2) hb3) hb4
  have hel : (earlier (readAll es) (search (readAll es) n)).length ≤ n := by rw [HOE.out]; exact hol
  clear hV hV2 hb2 hb3 hb4 hbw hA1 hB1 c0 c02 hVc hVc2 HR HB HC hbA hb1 hAs hsm
  generalize earlier (readAll es) (search (readAll es) n) = ea at HCD HOE HEB hV2r hel ⊢
  generalize search (readAll es) n = o at HCD hol HOE HOB hVr ⊢
  go_loopw [31, 7] (fun i v wr => ∃ (k : Nat) (C : Option Addr) (cc : Nat), i = .int .i64 k ∧ k ≤ ea.length ∧ v = .slice C k cc ∧ k ≤ cc ∧ wr.ownsRow w4.heap.size 87 1 (.slice C k cc) k ((List.zipWith bset (ea.take k) (o.take k)).map vs) ∧ Below w4.heap.size w4 wr) (fun i _ _ => ea.length - (intOf i).toNat)
  case atStart => exact ⟨0, none, 0, rfl, Nat.zero_le _, rfl, Nat.le_refl _, World.ownsRow_nil _ _ _ _, Below.refl _ _⟩
  case round =>
    obtain ⟨k, C, cc, rfl, hk, rfl, hkc, hown, hb⟩ := hrel
    by_cases hkl : k < ea.length
    · have hko : k < o.length := by rw [← HOE.out]; exact hkl
      obtain ⟨ad, rfl, hc1⟩ := Sets.at (hV2r.keep hb) hkl
      obtain ⟨bd, rfl, hc2⟩ := Nats.at (hVr.keep hb) hko
      have hs1 := HEB.out ea[k] (List.getElem_mem _)
      have hs2 := HOB.out o[k] (List.getElem_mem _)
      have HZ : Hid (List.zipWith bset (ea.take (k + 1)) (o.take (k + 1)) = List.zipWith bset (ea.take k) (o.take k) ++ [bset ea[k] o[k]]) := Lib.hid (zip_at hkl hko)
      generalize ea[k] = x at hc1 hs1 HZ
      generalize o[k] = y at hc2 hs2 HZ
      have hsz := hb.size
      go_wp2_with (first
        | (go_at_call 47; refine (with_any _ _ _ hs1 hs2).mono ?_; rintro e w' ⟨rfl, rfl⟩)
        | (at_builtin; refine wpList_append_own _ rfl _ _ 148 rfl w4.heap.size 87 i0 (.int .u64 0) 1 8 Tryz.underlying148 hi hz0 hz1 hz2 rfl (by decide) (.slice C k cc) k _ rfl (hown.alloc _) ⟨wr.heap.size, 0, none⟩ 1 1 [.int .u64 (bset x y : Nat)] rfl rfl ?c1 ?c2 ?c3 ?c4 ?c5 ?_
           case c1 => exact cell_one_new _ _ _
           case c2 => simp [Value.oneCell']
           case c3 => simp only [maxLen]; omega
           case c4 => omega
           case c5 => simp; omega
           intro v' w5 hown' hgrow _
           obtain ⟨C2, cc2, hv2, hle2, _⟩ := Sl.of_own hown'
           subst hv2))
      go_roundw
      case rel =>
        refine ⟨k + 1, C2, cc2, by go_num, by omega, rfl, hle2, ?_, (hb.alloc hsz _).grown hgrow (by simp; omega) (fun q hq => (hown.lt q hq).1)⟩
        rw [HZ.out, List.map_append]
        exact hown'
      case measure => simp [intOf]; omega
    · obtain rfl : k = ea.length := by omega
      rw [List.take_length, show o.take ea.length = o from List.take_of_length_le (by rw [HOE.out]; exact Nat.le_refl _), ← HCD.out] at hown
      have HCL : Hid ((cands (readAll es) n).length = ea.length) := Lib.hid (by rw [HCD.out, List.length_zipWith, HOE.out, Nat.min_self])
      have HCB : Hid (∀ s ∈ cands (readAll es) n, s < 18446744073709551616) := by
        refine Lib.hid ?_
        rw [HCD.out]
        intro s hs
        obtain ⟨q, hq, rfl⟩ := List.mem_iff_getElem.1 hs
        rw [List.getElem_zipWith]
        exact bset_lt (HEB.out _ (List.getElem_mem _)) (HOB.out _ (List.getElem_mem _))
      clear HCD HOE HOB HEB hV2r hVr hk hkl
      generalize hcs : cands (readAll es) n = cs at hown HCL HCB
      have HCS := Lib.hid hcs
      clear hcs
      have hbw5 : Below w.heap.size w wr := below_all hbw4 hb
      have hsz := hb.size
      obtain ⟨wo, rfl⟩ : ∃ wo : World, wo = wr := ⟨_, rfl⟩
      go_wp2
      go_loopw [48, 10] (fun i v wr => ∃ (k m : Nat) (R : Option Addr) (cr : Nat) (F : Nat → Option Addr × Nat) (ls : Nat → List Int) (d : List Nat), i = .int .i64 k ∧ k ≤ ea.length ∧ v = .slice R m cr ∧ m ≤ cr ∧ m ≤ k ∧ wr.ownsRow w4.heap.size 36 1 (.slice R m cr) m ((List.range m).map (enc F ls)) ∧
          RowsIn wr w4.heap.size m F ls ∧ wr.ownsRow w4.heap.size 87 1 (.slice C ea.length cc) ea.length (cs.map vs) ∧ Hid (keepLast cs = d ++ keepLast (cs.drop k)) ∧ Hid ((List.range m).map ls = d.map vertsI) ∧ w4.heap.size ≤ wr.heap.size ∧ Below w.heap.size w wr) (fun i _ _ => ea.length - (intOf i).toNat)
      case atStart => exact ⟨0, 0, none, 0, fun _ => (none, 0), fun _ => [], [], rfl, Nat.zero_le _, rfl, Nat.le_refl _, Nat.le_refl _, World.ownsRow_nil _ _ _ _, fun i hi => by omega, hown, Lib.hid rfl, Lib.hid rfl, hsz, hbw5⟩
      case round =>
        clear hown hbw5 hb
        obtain ⟨k, m, R, cr, F, ls, d, rfl, hk, rfl, hmc, hmk, hR, hRows, hC, HK, HL, hw4, hb⟩ := hrel
        by_cases hkl : k < ea.length
        · obtain ⟨ad, rfl, hc1⟩ := sets_at (Sl.own hC) HCL.out hkl
          have hkc2 : k < cs.length := by rw [HCL.out]; exact hkl
          have hs1 := HCB.out _ (getD_mem hkc2)
          have HD : Hid (cs.drop k = cs.getD k 0 :: cs.drop (k + 1)) := Lib.hid (drop_getD hkc2)
          clear hkc2
          generalize cs.getD k 0 = s at hc1 hs1 HD
          have hCa := hC.alloc (.cells #[.int .u64 s] 87)
          have hBs := Blk.cell (Blk.new wr 87 #[.int .u64 s]) 0
          have HCA := Lib.hid (And.intro hCa hBs)
          have HDL : Hid ((cs.drop (k + 1)).length = ea.length - (k + 1)) := Lib.hid (by rw [List.length_drop, HCL.out])
          have HDB : Hid (∀ t ∈ cs.drop (k + 1), t < 18446744073709551616) := Lib.hid (fun t ht => HCB.out t (List.mem_of_mem_drop ht))
          have HCL2 : Hid ((cs.map vs).length = ea.length) := Lib.hid (by rw [List.length_map, HCL.out])
          have hszr := hb.size
          clear hCa hBs
          by_cases hcap : cc = k + 1
          · subst hcap
            have HDE : Hid (cs.drop (k + 1) = []) := Lib.hid (List.drop_of_length_le (by rw [HCL.out]; omega))
            have HK2 : Hid (keepLast cs = (d ++ [s]) ++ keepLast (cs.drop (k + 1))) := by
              refine Lib.hid ?_
              rw [HK.out, HD.out, keepLast, if_neg (by rw [HDE.out]; simp), List.append_assoc]; rfl
            clear HK
            go_wp2_with (first
              | (go_at_call 95; refine (contains_at _ _ s wr.heap.size 0 [] _ rfl ⟨by simp, fun h => by omega⟩ HCA.out.2 hs1 (by omega) (by simp)).mono ?_; rintro e w5 ⟨rfl, rfl⟩; simp only [List.any_nil])
              | (go_at_call 48; refine (verts_any _ _ hs1 (hT.below (hb.alloc hszr _) hT.1)).mono ?_; rintro e w6 ⟨V3, c3, rfl, hVc3, hV3, hb6⟩
                 have hR6 := own_below (hR.alloc (.cells #[.int .u64 s] 87)) hb6 (Nat.le_refl _)
                 have hz6 : w4.heap.size ≤ w6.heap.size := by have := hb6.size; simp at this; omega
                 clear hVc3)
              | (at_builtin; refine wpList_append_own _ rfl _ _ 25 rfl w4.heap.size 36 j0 (.slice none 0 0) 1 24 Tryz.underlying25 hj hjz0 hjz1 hjz2 rfl (by decide) (.slice R m cr) m _ rfl (hR6.alloc _) ⟨w6.heap.size, 0, none⟩ 1 1 [.slice V3 (verts s).length c3] rfl rfl ?c1 ?c2 ?c3 ?c4 ?c5 ?_
                 case c1 => exact cell_one_new _ _ _
                 case c2 => simp [Value.oneCell']
                 case c3 => simp only [maxLen]; omega
                 case c4 => omega
                 case c5 => simp; omega
                 intro v' w7 hR7 hg7 _
                 obtain ⟨R2, cr2, hv2, hle2, _⟩ := Sl.of_own hR7
                 subst hv2))
            all_goals
              go_roundw
              case rel =>
                have hVI : ((verts s).map vn) = (vertsI s).map vi := by simp [vertsI, vn, vi]
                have hvl : (verts s).length = (vertsI s).length := by simp [vertsI]
                have hV7 : w7.ownsRow w4.heap.size 3 1 (.slice V3 (vertsI s).length c3) (vertsI s).length ((vertsI s).map vi) := by
                  rw [← hvl, ← hVI]
                  exact own_base ((hV3.alloc (.cells #[.slice V3 (verts s).length c3] 36)).kept hg7 (own_ne hV3 hR6 (by decide))) (by simp; omega)
                have hC7 := (own_below HCA.out.1 hb6 (Nat.le_refl _)).alloc (.cells #[.slice V3 (verts s).length c3] 36)
                have hRw : RowsIn w7 w4.heap.size m F ls := ((hRows.alloc (.cells #[.int .u64 s] 87)).below hb6 (Nat.le_refl _)).alloc (.cells #[.slice V3 (verts s).length c3] 36) |>.kept hg7 (fun i hi => own_ne (((hRows.alloc (.cells #[.int .u64 s] 87)).below hb6 (Nat.le_refl _)) i hi) hR6 (by decide))
                refine ⟨k + 1, m + 1, R2, cr2, snocF F m (V3, c3), snocF ls m (vertsI s), d ++ [s], by go_num, by omega, rfl, hle2, by omega, ?_, RowsIn.snoc (x := (V3, c3)) hRw hV7, hC7.kept hg7 (own_ne hC7 (hR6.alloc _) (by decide)), HK2, Lib.hid ?_, by have := hg7.size; simp at this; omega, ?_⟩
                · rw [map_snoc, ← hvl]; exact hR7
                · rw [List.range_succ, List.map_append, List.map_append, ← HL.out]
                  congr 1
                  · apply List.map_congr_left
                    intro i hi
                    have : i < m := by simpa using hi
                    simp [snocF]; omega
                  · simp [snocF]
                · exact (((hb.alloc hszr _).trans (hb6.mono (by simp; omega))).alloc (by have := hb6.size; simp at this; omega) _).grown hg7 (by have := hb6.size; simp at this ⊢; omega) (fun q hq => by have := (hR6.lt q hq).1; have := hbw4.size; omega)
              case measure => simp [intOf]; omega
          · cases hany : (cs.drop (k + 1)).any fun t => decide (andn s t = 0)
            · have HK2 : Hid (keepLast cs = (d ++ [s]) ++ keepLast (cs.drop (k + 1))) := by
                refine Lib.hid ?_
                rw [HK.out, HD.out, keepLast, if_neg (by rw [hany]; simp), List.append_assoc]; rfl
              have HAN := Lib.hid hany
              clear hany HK
              go_wp2_with (first
                | (go_at_call 95; refine (contains_at _ _ s wr.heap.size _ (cs.drop (k + 1)) _ HDL.out ?_ HCA.out.2 hs1 (by omega) HDB.out).mono ?_
                   · rw [List.map_drop]
                     exact sl_cut (Sl.own HCA.out.1)
                   rintro e w5 ⟨rfl, rfl⟩
                   rw [HAN.out])
                | (go_at_call 48; refine (verts_any _ _ hs1 (hT.below (hb.alloc hszr _) hT.1)).mono ?_; rintro e w6 ⟨V3, c3, rfl, hVc3, hV3, hb6⟩
                   have hR6 := own_below (hR.alloc (.cells #[.int .u64 s] 87)) hb6 (Nat.le_refl _)
                   have hz6 : w4.heap.size ≤ w6.heap.size := by have := hb6.size; simp at this; omega
                   clear hVc3)
                | (at_builtin; refine wpList_append_own _ rfl _ _ 25 rfl w4.heap.size 36 j0 (.slice none 0 0) 1 24 Tryz.underlying25 hj hjz0 hjz1 hjz2 rfl (by decide) (.slice R m cr) m _ rfl (hR6.alloc _) ⟨w6.heap.size, 0, none⟩ 1 1 [.slice V3 (verts s).length c3] rfl rfl ?c1 ?c2 ?c3 ?c4 ?c5 ?_
                   case c1 => exact cell_one_new _ _ _
                   case c2 => simp [Value.oneCell']
                   case c3 => simp only [maxLen]; omega
                   case c4 => omega
                   case c5 => simp; omega
                   intro v' w7 hR7 hg7 _
                   obtain ⟨R2, cr2, hv2, hle2, _⟩ := Sl.of_own hR7
                   subst hv2))
              all_goals
                go_roundw
                case rel =>
                  have hVI : ((verts s).map vn) = (vertsI s).map vi := by simp [vertsI, vn, vi]
                  have hvl : (verts s).length = (vertsI s).length := by simp [vertsI]
                  have hV7 : w7.ownsRow w4.heap.size 3 1 (.slice V3 (vertsI s).length c3) (vertsI s).length ((vertsI s).map vi) := by
                    rw [← hvl, ← hVI]
                    exact own_base ((hV3.alloc (.cells #[.slice V3 (verts s).length c3] 36)).kept hg7 (own_ne hV3 hR6 (by decide))) (by simp; omega)
                  have hC7 := (own_below HCA.out.1 hb6 (Nat.le_refl _)).alloc (.cells #[.slice V3 (verts s).length c3] 36)
                  have hRw : RowsIn w7 w4.heap.size m F ls := ((hRows.alloc (.cells #[.int .u64 s] 87)).below hb6 (Nat.le_refl _)).alloc (.cells #[.slice V3 (verts s).length c3] 36) |>.kept hg7 (fun i hi => own_ne (((hRows.alloc (.cells #[.int .u64 s] 87)).below hb6 (Nat.le_refl _)) i hi) hR6 (by decide))
                  refine ⟨k + 1, m + 1, R2, cr2, snocF F m (V3, c3), snocF ls m (vertsI s), d ++ [s], by go_num, by omega, rfl, hle2, by omega, ?_, RowsIn.snoc (x := (V3, c3)) hRw hV7, hC7.kept hg7 (own_ne hC7 (hR6.alloc _) (by decide)), HK2, Lib.hid ?_, by have := hg7.size; simp at this; omega, ?_⟩
                  · rw [map_snoc, ← hvl]; exact hR7
                  · rw [List.range_succ, List.map_append, List.map_append, ← HL.out]
                    congr 1
                    · apply List.map_congr_left
                      intro i hi
                      have : i < m := by simpa using hi
                      simp [snocF]; omega
                    · simp [snocF]
                  · exact (((hb.alloc hszr _).trans (hb6.mono (by simp; omega))).alloc (by have := hb6.size; simp at this; omega) _).grown hg7 (by have := hb6.size; simp at this ⊢; omega) (fun q hq => by have := (hR6.lt q hq).1; have := hbw4.size; omega)
                case measure => simp [intOf]; omega
            · have HK2 : Hid (keepLast cs = d ++ keepLast (cs.drop (k + 1))) := by
                refine Lib.hid ?_
                rw [HK.out, HD.out, keepLast, if_pos hany]
              have HAN := Lib.hid hany
              clear hany HK
              go_wp2_with (go_at_call 95; refine (contains_at _ _ s wr.heap.size _ (cs.drop (k + 1)) _ HDL.out ?_ HCA.out.2 hs1 (by omega) HDB.out).mono ?_
                           · rw [List.map_drop]
                             exact sl_cut (Sl.own HCA.out.1)
                           rintro e w5 ⟨rfl, rfl⟩
                           rw [HAN.out])
              all_goals
                go_roundw
                case rel => exact ⟨k + 1, m, R, cr, F, ls, d, by go_num, by omega, rfl, hmc, by omega, hR.alloc _, hRows.alloc _, HCA.out.1, HK2, HL, by simp; omega, hb.alloc hszr _⟩
                case measure => simp [intOf]; omega
        · obtain rfl : k = ea.length := by omega
          have HK2 : Hid (keepLast cs = d) := Lib.hid (by rw [HK.out, List.drop_of_length_le (by rw [HCL.out]; exact Nat.le_refl _)]; simp [keepLast])
          have HLEN : Hid (∀ i, i < m → (ls i).length ≤ 1000000) := by
            refine Lib.hid fun i hi => ?_
            have h1 : ls i ∈ (List.range m).map ls := List.mem_map.2 ⟨i, by simpa using hi, rfl⟩
            rw [HL.out] at h1
            obtain ⟨x, _, hx⟩ := List.mem_map.1 h1
            rw [← hx]
            have := size_le x
            unfold size at this
            simp [vertsI]; omega
          clear HK hC
          go_wp2_with (go_at_call 97; refine (sort_rows R m cr w4.heap.size F ls wr hR hRows (by omega) HLEN.out).mono ?_; rintro e w9 ⟨rfl, lo, hlo⟩; have HLO := Lib.hid hlo; clear hlo)
          go_ret2
          obtain ⟨h1, h2, h3, h4, h5⟩ := HLO.out
          refine ⟨R, cr, lo, by rw [h1]; rfl, h4, ?_, h3, hb.trans (h5.mono hbw4.size)⟩
          rw [HCS.out, HK2.out, ← HL.out]
          exact h2
end Go.Proofs.Tg.Gx
end
