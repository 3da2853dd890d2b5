/- Parts of the proof: GWI, GWP, GXA, GXC, GPA, GPC, GSpecT, GPB, GWK, GSort, GWL, GWO, GWN, GWQ, GWR. -/
import Derived.Lib.Tables
import Derived.Laws.MathBits
import Derived.Test.YtodjofbneeejpaaGreatDoorMBA3
section
/- Chordal and Extend. -/
namespace Go.Gr
end Go.Gr
namespace Go.Proofs.Tg.Gx
open Go.RowKit Go.Gr
set_option maxHeartbeats 1000000
set_option maxRecDepth 100000
/-- A row that is stored whole into a new variable. -/
theorem blk_setRow {w : World} {g : Nat} {t : TypeId} {old : Array Value} (h : Blk w g t old) (cs : Array Value) : Blk (w.setRow g cs) g t cs := setRow_heap w g old cs t (0, 0) h
theorem blk_setRow_far {w : World} {g g' : Nat} {t : TypeId} {cs' : Array Value} (h : Blk w g t cs') (hne : g ≠ g') (cs : Array Value) : Blk (w.setRow g' cs) g t cs' := (setRow_other w g' g cs hne).trans h
end Go.Proofs.Tg.Gx
end
section
/- Make. -/
namespace Go.Gr
def inR (n : Int) (e : Int × Int) : Prop := 0 ≤ e.1 ∧ e.1 < n ∧ 0 ≤ e.2 ∧ e.2 < n
def rangeOk (n : Int) (es : List (Int × Int)) : Prop := (0 ≤ n ∧ n ≤ 64) ∧ ∀ e ∈ es, inR n e
end Go.Gr
namespace Go.Proofs.Tg.Gx
open Go.RowKit Go.Gr
set_option maxHeartbeats 2000000
set_option maxRecDepth 100000
end Go.Proofs.Tg.Gx
end
section
/- The reference's tables: a slice of rows of truth values, each row a block of its own. -/
namespace Go.Proofs.Tg.Gx
open Go.RowKit Go.Gr
/-- A row of n cells, told by a function. -/
def farr (n : Nat) (f : Nat → Value) : Array Value := ((List.range n).map f).toArray
theorem farr_set (n : Nat) (f : Nat → Value) (i : Nat) (v : Value) : (farr n f).setIfInBounds i v = farr n (fun k => if k = i then v else f k) := by
  apply Array.ext
  · simp [farr]
  · intro k h1 h2
    rw [Array.getElem_setIfInBounds (by simpa using h1)]
    simp only [farr, List.getElem_toArray, List.getElem_map, List.getElem_range]
    by_cases hk : i = k
    · subst hk; simp
    · rw [if_neg hk, if_neg (fun e => hk e.symm)]
theorem farr_made (z : Value) (n : Nat) : madeCells #[z] n = farr n (fun _ => z) := by
  apply Array.ext
  · simp [farr, size_madeCells]
  · intro i h1 h2
    simp [madeCells, farr, Nat.mod_one]
theorem farr_congr {n : Nat} {f g : Nat → Value} (h : ∀ i, i < n → f i = g i) : farr n f = farr n g := by
  unfold farr
  rw [List.map_congr_left (fun i hi => h i (by simpa using hi))]
theorem bool_info : (Tryz.prog.info? 4).map (fun i => (i.zero, i.size, i.bytes)) = some (some (.bool false), 1, 1) := by kernel_rfl
theorem make_bools (n : Nat) (hn : n ≤ 1000000) (w : World) : (Instr.makeSlice 89 (.int .i64 (n : Int)) (.int .i64 (n : Int))).run Tryz.prog w = .ok (.slice (some ⟨w.heap.size, 0, none⟩) n n) (w.alloc (.cells (farr n fun _ => .bool false) 4)) := by
  obtain ⟨i0, hi, hz0, hz1, hz2⟩ := info_parts bool_info
  have hr := run_make (P := Tryz.prog) w 89 4 i0 (.bool false) Tryz.underlying89 hi hz0 .i64 .i64 n n (by omega) (by omega) (by rw [hz2]; omega) (by omega)
  rw [hz1, Nat.mul_one, Int.toNat_natCast, show (Value.bool false).cells = #[.bool false] from rfl, farr_made] at hr
  exact hr
def rowV (g n i : Nat) : Value := .slice (some ⟨g + 1 + i, 0, none⟩) n n
/-- The table at block g, its rows in the next n blocks. -/
structure TableAt (w : World) (g n : Nat) (t : Nat → Nat → Bool) : Prop where
  head : Blk w g 89 (farr n (rowV g n))
  row : ∀ i, i < n → Blk w (g + 1 + i) 4 (farr n fun j => .bool (t i j))
set_option maxHeartbeats 1000000
set_option maxRecDepth 100000
end Go.Proofs.Tg.Gx
end
section
/- The reference's Make. -/
namespace Go.Gr
def setT (t : Nat → Nat → Bool) (a b : Nat) : Nat → Nat → Bool := fun i j => if i = a ∧ j = b then true else t i j
def joinT (t : Nat → Nat → Bool) (a b : Nat) : Nat → Nat → Bool := setT (setT t a b) b a
def readT (es : List (Int × Int)) : Nat → Nat → Bool := es.foldl (fun t e => joinT t e.1.toNat e.2.toNat) (fun _ _ => false)
end Go.Gr
namespace Go.Proofs.Tg.Gx
open Go.RowKit Go.Gr
set_option maxHeartbeats 2000000
set_option maxRecDepth 100000
theorem TableAt.keep {w w' : World} {g n B : Nat} {t : Nat → Nat → Bool} (h : TableAt w g n t) (hb : Below B w w') (hB : w.heap.size ≤ B) : TableAt w' g n t :=
  ⟨h.head.keep hb (Nat.lt_of_lt_of_le h.head.lt hB), fun i hi => (h.row i hi).keep hb (Nat.lt_of_lt_of_le (h.row i hi).lt hB)⟩
theorem TableAt.drew {w : World} {g n : Nat} {t : Nat → Nat → Bool} (h : TableAt w g n t) : TableAt w.drew g n t := ⟨h.head, h.row⟩
theorem TableAt.drewN {w : World} {g n : Nat} {t : Nat → Nat → Bool} (h : TableAt w g n t) (k : Nat) : TableAt (w.drewN k) g n t := ⟨h.head, h.row⟩
theorem TableAt.set {w : World} {g n : Nat} {t : Nat → Nat → Bool} (h : TableAt w g n t) {a b : Nat} (ha : a < n) : TableAt (w.setCell ⟨g + 1 + a, b, none⟩ (.bool true)) g n (setT t a b) := by
  refine ⟨h.head.far (by simp; omega) _, fun i hi => ?_⟩
  by_cases e : i = a
  · subst e
    have := (h.row i hi).set b (.bool true)
    rw [farr_set] at this
    rw [show (farr n fun j => Value.bool (setT t i b i j)) = farr n (fun k => if k = b then Value.bool true else Value.bool (t i k)) from farr_congr (fun j _ => by unfold setT; by_cases hj : j = b <;> simp [hj])]
    exact this
  · have := (h.row i hi).far (p := ⟨g + 1 + a, b, none⟩) (by simp; omega) (.bool true)
    rw [show (farr n fun j => Value.bool (setT t a b i j)) = farr n (fun j => Value.bool (t i j)) from farr_congr (fun j _ => by unfold setT; simp [e])]
    exact this
end Go.Proofs.Tg.Gx
end
section
/- Plain law of Make: the edges that the library writes are the edges of the reference's table. -/
namespace Go.Gr
theorem joinT_at (t : Nat → Nat → Bool) (a b k m : Nat) : joinT t a b k m = (decide (k = a ∧ m = b) || decide (k = b ∧ m = a) || t k m) := by
  unfold joinT setT
  by_cases h1 : k = b ∧ m = a
  · simp [h1]
  · by_cases h2 : k = a ∧ m = b
    · simp [h2]
    · simp [h1, h2]
theorem filter_range_le {n N : Nat} (hn : n ≤ N) {p q : Nat → Bool} (h1 : ∀ k, k < n → p k = q k) (h2 : ∀ k, n ≤ k → k < N → p k = false) : (List.range N).filter p = (List.range n).filter q := by
  obtain ⟨d, rfl⟩ := Nat.le.dest hn
  rw [List.range_add, List.filter_append, List.filter_congr (fun x hx => h1 x (by simpa using hx))]
  rw [show ((List.range d).map (n + ·)).filter p = [] from List.filter_eq_nil_iff.2 (fun a ha => by
    obtain ⟨x, hx, rfl⟩ := List.mem_map.1 ha
    have : x < d := by simpa using hx
    simp [h2 (n + x) (by omega) (by omega)])]
  simp
end Go.Gr
end
section
/- Plain facts on lists of edges: those of a table are valid; what is read back. -/
namespace Go.Gr
/-- A table that reads a valid graph: symmetric, no loop, all within. -/
structure Nice (t : Nat → Nat → Bool) (n : Nat) : Prop where
  sym : ∀ i j, t i j = true → t j i = true
  irr : ∀ i, t i i = false
  lt : ∀ i j, t i j = true → i < n ∧ j < n
theorem Nice.symm {t : Nat → Nat → Bool} {n : Nat} (h : Nice t n) (i j : Nat) : t i j = t j i := by
  rw [Bool.eq_iff_iff]; exact ⟨h.sym i j, h.sym j i⟩
end Go.Gr
end
section
/- Plain functions for the tree of cliques. -/
namespace Go.Gr
/-- The first k numbers are from 0 to 63 and ascend. -/
def ascTo (l : List Int) (k : Nat) : Prop := ∀ i (h : i < l.length), i < k → (0 ≤ l[i] ∧ l[i] < 64) ∧ (0 < i → l[i - 1]'(by omega) < l[i])
def asc (l : List Int) : Prop := ascTo l l.length
def setOf (l : List Int) : Nat := l.foldl (fun s v => bset s v.toNat) 0
/-- One pair of sets is looked at: i outside the tree, k inside. -/
def pairStep (sets : List Nat) (inT i : Nat) (b : Int × Int × Int) (k : Nat) : Int × Int × Int :=
  if inT.testBit i = false ∧ inT.testBit k = true ∧ b.2.2 < ((size (sets.getD i 0 &&& sets.getD k 0) : Nat) : Int) then ((i : Int), (k : Int), ((size (sets.getD i 0 &&& sets.getD k 0) : Nat) : Int)) else b
def rowTo (sets : List Nat) (inT i : Nat) (b : Int × Int × Int) (k : Nat) : Int × Int × Int := (List.range k).foldl (pairStep sets inT i) b
def allTo (sets : List Nat) (inT m : Nat) : Nat → Int × Int × Int
  | 0 => (-1, -1, -1)
  | i + 1 => rowTo sets inT i (allTo sets inT m i) m
/-- The sets in the tree, and the parents, after r rounds. -/
def treeTo (sets : List Nat) : Nat → Nat × List Int
  | 0 => (bset 0 0, List.replicate sets.length (-1))
  | r + 1 =>
    let b := allTo sets (treeTo sets r).1 sets.length sets.length
    (bset (treeTo sets r).1 b.1.toNat, if 0 < b.2.2 then (treeTo sets r).2.set b.1.toNat b.2.1 else (treeTo sets r).2)
def tree (sets : List Nat) : List Int := (treeTo sets (sets.length - 1)).2
end Go.Gr
end
section
/- Plain law of Tree: the library's parents are the reference's. -/
namespace Go.Gr
/-- Two ascending lists with the same members are one. -/
theorem asc_ext : ∀ {l m : List Int}, l.Pairwise (· < ·) → m.Pairwise (· < ·) → (∀ x, x ∈ l ↔ x ∈ m) → l = m
  | [], [], _, _, _ => rfl
  | [], y :: m, _, _, h => by have := (h y).2 (by simp); simp at this
  | x :: l, [], _, _, h => by have := (h x).1 (by simp); simp at this
  | x :: l, y :: m, h1, h2, h => by
    rw [List.pairwise_cons] at h1 h2
    have hxy : x = y := by
      have a := (h x).1 (by simp)
      have b := (h y).2 (by simp)
      rcases List.mem_cons.1 a with e | e
      · exact e
      · rcases List.mem_cons.1 b with e2 | e2
        · exact e2.symm
        · have := h1.1 y e2
          have := h2.1 x e
          omega
    subst hxy
    congr 1
    refine asc_ext h1.2 h2.2 (fun z => ⟨fun hz => ?_, fun hz => ?_⟩)
    · rcases List.mem_cons.1 ((h z).1 (by simp [hz])) with e | e
      · subst e; have := h1.1 z hz; omega
      · exact e
    · rcases List.mem_cons.1 ((h z).2 (by simp [hz])) with e | e
      · subst e; have := h2.1 z hz; omega
      · exact e
/-- How many pairs of equal elements two lists have. -/
def common (a b : List Int) : Nat := (a.map fun x => b.count x).sum
/-- One pair of lists is looked at by the reference. -/
def rpair (ls : List (List Int)) (inn : Nat → Bool) (i : Nat) (b : Int × Int × Int) (k : Nat) : Int × Int × Int :=
  if inn i = false ∧ inn k = true ∧ b.2.2 < ((common (ls.getD i []) (ls.getD k []) : Nat) : Int) then ((i : Int), (k : Int), ((common (ls.getD i []) (ls.getD k []) : Nat) : Int)) else b
def rrow (ls : List (List Int)) (inn : Nat → Bool) (i : Nat) (b : Int × Int × Int) (k : Nat) : Int × Int × Int := (List.range k).foldl (rpair ls inn i) b
def rall (ls : List (List Int)) (inn : Nat → Bool) (m : Nat) : Nat → Int × Int × Int
  | 0 => (0, -1, -1)
  | i + 1 => rrow ls inn i (rall ls inn m i) m
def updF {α : Type} (f : Nat → α) (i : Nat) (x : α) : Nat → α := fun k => if k = i then x else f k
/-- What the reference has after r rounds: which lists are in the tree, and the parents. -/
def rtree (ls : List (List Int)) : Nat → (Nat → Bool) × (Nat → Int)
  | 0 => (fun _ => false, fun _ => 0)
  | r + 1 =>
    let b := rall ls (rtree ls r).1 ls.length ls.length
    (updF (rtree ls r).1 b.1.toNat true, updF (rtree ls r).2 b.1.toNat (if b.2.2 ≤ 0 then -1 else b.2.1))
structure Alike (ls : List (List Int)) (r : Nat) : Prop where
  inn : ∀ i, i < ls.length → (rtree ls (r + 1)).1 i = (treeTo (ls.map setOf) r).1.testBit i
  out : ∀ i, i < ls.length → (rtree ls (r + 1)).1 i = true → (rtree ls (r + 1)).2 i = (treeTo (ls.map setOf) r).2.getD i 0
  rest : ∀ i, i < ls.length → (rtree ls (r + 1)).1 i = false → (treeTo (ls.map setOf) r).2.getD i 0 = -1
  many : r + 1 ≤ ((List.range ls.length).filter (rtree ls (r + 1)).1).length
end Go.Gr
end
section
/- Reading a set; the tree of cliques. -/
namespace Go.Proofs.Tg.Gx
open Go.RowKit Go.Gr
set_option maxHeartbeats 1000000
set_option maxRecDepth 100000
/-- A slice of slices of numbers. -/
def Lists (w : World) (V : Option Addr) (ls : List (List Int)) : Prop :=
  ∃ f : Nat → Option Addr × Nat, Sl w V ls.length 1 ((List.range ls.length).map fun i => .slice (f i).1 (ls.getD i []).length (f i).2) ∧ ∀ i, i < ls.length → Ints w (f i).1 (ls.getD i [])
theorem Lists.keep {w w' : World} {V : Option Addr} {ls : List (List Int)} (h : Lists w V ls) (hb : Below w.heap.size w w') : Lists w' V ls := by
  obtain ⟨f, hs, hr⟩ := h
  exact ⟨f, hs.keep hb, fun i hi => (hr i hi).keep hb⟩
theorem Lists.at {w : World} {V : Option Addr} {ls : List (List Int)} (h : Lists w V ls) {k : Nat} (hk : k < ls.length) : ∃ ad A c, V = some ad ∧ w.cell? (ad.add k) = some (.slice A ls[k].length c) ∧ Ints w A ls[k] := by
  obtain ⟨f, hs, hr⟩ := h
  obtain ⟨ad, rfl, hc⟩ := Sl.at1 hs hk
  have e : ls.getD k [] = ls[k] := by simp [hk]
  have hi := hr k hk
  rw [e] at hi
  refine ⟨ad, (f k).1, (f k).2, rfl, ?_, hi⟩
  rw [hc]
  simp [hk]
def iarr (l : List Int) : Array Value := (l.map vi).toArray
theorem iarr_made (n : Nat) : madeCells #[.int .i64 0] n = iarr (List.replicate n 0) := by
  apply Array.ext
  · simp [iarr, size_madeCells]
  · intro i h1 h2
    simp [madeCells, iarr, vi, Nat.mod_one]
theorem iarr_set (l : List Int) (k : Nat) (s : Int) : (iarr l).setIfInBounds k (.int .i64 s) = iarr (l.set k s) := by
  simp [iarr, List.map_set, vi]
theorem iarr_at (l : List Int) {k : Nat} (hk : k < l.length) : (iarr l)[k]? = some (.int .i64 l[k]) := by simp [iarr, hk, vi]
theorem own_iarr {w : World} {b g n : Nat} {l : List Int} (h : Blk w g 3 (iarr l)) (hb : b ≤ g) (hn : l.length = n) (hm : n ≤ 1000000) : w.ownsRow b 3 1 (.slice (some ⟨g, 0, none⟩) n n) n (l.map vi) :=
  ⟨by simp [hn], .inr ⟨g, n, _, rfl, hb, h, Nat.le_refl _, by simp only [maxLen]; omega, by simp [iarr, hn], by rw [← hn]; simp only [iarr, Nat.mul_one]; exact List.take_of_length_le (by simp)⟩⟩
end Go.Proofs.Tg.Gx
end
section
/- Plain mathematics of an insertion sort by exchanges. -/
namespace Go.Gr
/-- Slices are compared by their first element that differs, and a slice comes ahead of its continuations. -/
def cmpL : List Int → List Int → Int
  | [], [] => 0
  | [], _ :: _ => -1
  | _ :: _, [] => 1
  | a :: l, b :: m => if a < b then -1 else if b < a then 1 else cmpL l m
theorem cmpL_asym : ∀ x y, cmpL x y < 0 → ¬ cmpL y x < 0
  | [], [], h => by simp [cmpL] at h
  | [], _ :: _, _ => by simp [cmpL]
  | _ :: _, [], h => by simp [cmpL] at h
  | a :: l, b :: m, h => by
    unfold cmpL at h ⊢
    by_cases h1 : a < b
    · rw [if_neg (by omega), if_pos h1]; omega
    · rw [if_neg h1] at h
      by_cases h2 : b < a
      · rw [if_pos h2] at h; omega
      · rw [if_neg h2] at h
        rw [if_neg h2, if_neg h1]
        exact cmpL_asym l m h
theorem cmpL_trans : ∀ x y z, ¬ cmpL y x < 0 → ¬ cmpL z y < 0 → ¬ cmpL z x < 0
  | [], _, [], _, _ => by simp [cmpL]
  | [], _, _ :: _, _, _ => by simp [cmpL]
  | a :: l, [], z, h, _ => by simp [cmpL] at h
  | a :: l, b :: m, [], _, h => by simp [cmpL] at h
  | a :: l, b :: m, c :: n, h1, h2 => by
    unfold cmpL at h1 h2 ⊢
    by_cases p1 : b < a
    · rw [if_pos p1] at h1; omega
    · rw [if_neg p1] at h1
      by_cases q1 : c < b
      · rw [if_pos q1] at h2; omega
      · rw [if_neg q1] at h2
        rw [if_neg (by omega)]
        by_cases r1 : a < c
        · rw [if_pos r1]; omega
        · rw [if_neg r1]
          rw [if_neg (by omega)] at h1 h2
          exact cmpL_trans l m n h1 h2
end Go.Gr
end
section
/- slices.Compare at []int, and slices.SortFunc at a few slices. -/
namespace Go.Proofs.Tg.Gx
open Go.RowKit Go.Gr
set_option maxHeartbeats 1000000
set_option maxRecDepth 100000
theorem compare_any (A B : Option Addr) (c d : Nat) (l m : List Int) (w : World) (hA : Ints w A l) (hB : Ints w B m) (hl : l.length ≤ 1000000) :
    Calls Tryz.prog 51 #[.slice A l.length c, .slice B m.length d] w fun e w' => e = .returned (.int .i64 (cmpL l m)) ∧ w = w' := by
  go_enter Tryz.func51, Tryz.ntmps51
  go_wp2
  go_loop [11] (fun i => ∃ k : Nat, i = .int .i64 k ∧ k ≤ l.length ∧ k ≤ m.length ∧ Hid (cmpL l m = cmpL (l.drop k) (m.drop k))) (fun i => l.length - (intOf i).toNat)
  case atStart => exact ⟨0, rfl, Nat.zero_le _, Nat.zero_le _, Lib.hid rfl⟩
  case round =>
    obtain ⟨k, rfl, hk1, hk2, HC⟩ := hrel
    by_cases hkl : k < l.length
    · obtain ⟨ad, rfl, hc⟩ := Ints.at hA hkl
      have HL : Hid (l.drop k = l[k] :: l.drop (k + 1)) := Lib.hid (List.drop_eq_getElem_cons hkl)
      generalize l[k] = x at hc HL
      by_cases hkm : k < m.length
      · obtain ⟨bd, rfl, hd⟩ := Ints.at hB hkm
        have HM : Hid (m.drop k = m[k] :: m.drop (k + 1)) := Lib.hid (List.drop_eq_getElem_cons hkm)
        generalize m[k] = y at hd HM
        have dm : decide ((m.length : Int) ≤ (k : Int)) = false := by simp; omega
        have hce : cmpL l m = if cmpI x y = 0 then cmpL (l.drop (k + 1)) (m.drop (k + 1)) else cmpI x y := by
          rw [HC.out, HL.out, HM.out, cmpL]
          unfold cmpI
          by_cases h1 : x < y
          · simp [h1]
          · by_cases h2 : y < x <;> simp [h1, h2]
        have HE := Lib.hid hce
        clear hce HC HL HM
        have hcc := cmp_any x y w
        generalize cmpI x y = z at HE hcc
        have HQ := Lib.hid hcc
        clear hcc
        by_cases hz : z = 0
        · have hzb : (z != 0) = false := by simp [hz]
          have HZ := Lib.hid hz
          clear hz
          go_wp2_with (go_at_call 82; refine HQ.out.mono ?_; rintro e w' ⟨rfl, rfl⟩)
          go_round
          case rel => exact ⟨k + 1, by go_num, by omega, by omega, Lib.hid (by rw [HE.out, if_pos HZ.out])⟩
          case measure => simp [intOf]; omega
        · have hzb : (z != 0) = true := by simp [hz]
          have HZ := Lib.hid hz
          clear hz
          go_wp2_with (go_at_call 82; refine HQ.out.mono ?_; rintro e w' ⟨rfl, rfl⟩)
          go_ret
          exact ⟨by rw [HE.out, if_neg HZ.out]; rfl, rfl⟩
      · have dm : decide ((m.length : Int) ≤ (k : Int)) = true := by simp; omega
        have HE : Hid (cmpL l m = 1) := Lib.hid (by rw [HC.out, HL.out, show m.drop k = [] from List.drop_of_length_le (by omega)]; rfl)
        clear HC HL
        go_wp2
        go_ret
        exact ⟨by rw [HE.out]; rfl, rfl⟩
    · obtain rfl : k = l.length := by omega
      by_cases hlm : l.length < m.length
      · have dm : decide ((l.length : Int) < (m.length : Int)) = true := by simp; omega
        have HE : Hid (cmpL l m = -1) := Lib.hid (by rw [HC.out, List.drop_length, List.drop_eq_getElem_cons hlm]; rfl)
        clear HC
        go_wp2
        go_ret
        exact ⟨by rw [HE.out]; rfl, rfl⟩
      · have dm : decide ((l.length : Int) < (m.length : Int)) = false := by simp; omega
        have HE : Hid (cmpL l m = 0) := Lib.hid (by rw [HC.out, List.drop_length, show m.drop l.length = [] from List.drop_of_length_le (by omega)]; rfl)
        clear HC
        go_wp2
        go_ret
        exact ⟨by rw [HE.out]; rfl, rfl⟩
/-- The values of slices that lie in a row: by a number for each. -/
def enc (F : Nat → Option Addr × Nat) (ls : Nat → List Int) (i : Nat) : Value := .slice (F i).1 (ls i).length (F i).2
end Go.Proofs.Tg.Gx
end
section
/- Sorting rows of the call's own. -/
namespace Go.Proofs.Tg.Gx
open Go.RowKit Go.Gr
set_option maxHeartbeats 1000000
set_option maxRecDepth 100000
/-- m rows of numbers, each the call's own. -/
def RowsIn (w : World) (base m : Nat) (F : Nat → Option Addr × Nat) (ls : Nat → List Int) : Prop := ∀ i, i < m → w.ownsRow base 3 1 (enc F ls i) (ls i).length ((ls i).map vi)
end Go.Proofs.Tg.Gx
end
section
/- Cliques. -/
namespace Go.Gr
end Go.Gr
namespace Go.Proofs.Tg.Gx
open Go.RowKit Go.Gr
set_option maxHeartbeats 4000000
set_option maxRecDepth 100000
theorem RowsIn.kept {w w' : World} {base m : Nat} {F : Nat → Option Addr × Nat} {ls : Nat → List Int} {row : Option Nat} (h : RowsIn w base m F ls) (hg : w.grownBy w' row) (hne : ∀ i, i < m → (enc F ls i).ownBlock = none ∨ (enc F ls i).ownBlock ≠ row) : RowsIn w' base m F ls :=
  fun i hi => (h i hi).kept hg (hne i hi)
theorem RowsIn.below {w w' : World} {base m B : Nat} {F : Nat → Option Addr × Nat} {ls : Nat → List Int} (h : RowsIn w base m F ls) (hb : Below B w w') (hB : w.heap.size ≤ B) : RowsIn w' base m F ls := fun i hi => own_below (h i hi) hb hB
theorem RowsIn.alloc {w : World} {base m : Nat} {F : Nat → Option Addr × Nat} {ls : Nat → List Int} (h : RowsIn w base m F ls) (o : Obj) : RowsIn (w.alloc o) base m F ls := fun i hi => (h i hi).alloc o
def snocF {α : Type} (F : Nat → α) (m : Nat) (x : α) : Nat → α := fun i => if i = m then x else F i
theorem enc_snoc_lt (F : Nat → Option Addr × Nat) (ls : Nat → List Int) (m : Nat) (x : Option Addr × Nat) (l : List Int) {i : Nat} (h : i < m) : enc (snocF F m x) (snocF ls m l) i = enc F ls i := by
  unfold enc snocF; rw [if_neg (by omega), if_neg (by omega)]
theorem enc_snoc_eq (F : Nat → Option Addr × Nat) (ls : Nat → List Int) (m : Nat) (x : Option Addr × Nat) (l : List Int) : enc (snocF F m x) (snocF ls m l) m = .slice x.1 l.length x.2 := by
  unfold enc snocF; simp
theorem RowsIn.snoc {w : World} {base m : Nat} {F : Nat → Option Addr × Nat} {ls : Nat → List Int} (h : RowsIn w base m F ls) {x : Option Addr × Nat} {l : List Int} (hx : w.ownsRow base 3 1 (.slice x.1 l.length x.2) l.length (l.map vi)) : RowsIn w base (m + 1) (snocF F m x) (snocF ls m l) := by
  intro i hi
  by_cases e : i = m
  · subst e
    rw [enc_snoc_eq]
    have : snocF ls i l i = l := by simp [snocF]
    rw [this]; exact hx
  · rw [enc_snoc_lt _ _ _ _ _ (by omega)]
    have : snocF ls m l i = ls i := by simp [snocF, e]
    rw [this]; exact h i (by omega)
end Go.Proofs.Tg.Gx
end
section
/- Comparisons of lists in the statements. -/
namespace Go.Proofs.Tg.Gx
open Go.RowKit Go.Gr
set_option maxHeartbeats 1000000
set_option maxRecDepth 100000
/-- The world has turned in draws alone. -/
def Dr (w w' : World) : Prop := ∃ n, w' = w.drewN n
theorem Dr.refl (w : World) : Dr w w := ⟨0, rfl⟩
theorem Dr.below {w w' : World} (h : Dr w w') : Below w.heap.size w w' := by
  obtain ⟨n, rfl⟩ := h
  exact below_drewN (Below.refl _ _) n
theorem Dr.drewN {w w' : World} (h : Dr w w') (k : Nat) : Dr w (w'.drewN k) := by
  obtain ⟨n, rfl⟩ := h
  exact ⟨n + k, by rw [World.drewN_drewN]⟩
theorem ints_any (A B : Option Addr) (xs ys : List Int) (c d : Nat) (w : World) (hx : Ints w A xs) (hy : Ints w B ys) (hn : xs.length ≤ 1000000) :
    Calls Tryz.prog 45 #[.slice A xs.length c, .slice B ys.length d] w fun e w' => e = .returned (.bool (decide (xs = ys))) ∧ Dr w w' := by
  by_cases hl : xs.length = ys.length
  · have hb : ((xs.length : Int) != (ys.length : Int)) = false := by simp [hl]
    have HL := Lib.hid hl; clear hl
    go_enter Tryz.func45, Tryz.ntmps45
    go_wp2
    go_loopw [5] (fun i wr => ∃ k : Nat, k ≤ xs.length ∧ i = .int .i64 k ∧ Hid (xs.take k = ys.take k) ∧ Dr w wr) (fun i _ => xs.length - (intOf i).toNat)
    case atStart => exact ⟨0, Nat.zero_le _, rfl, Lib.hid (by simp), Dr.refl _⟩
    case round =>
      obtain ⟨k, hk, rfl, HT, hbw⟩ := hrel
      by_cases hlt : k < xs.length
      · have hky : k < ys.length := by have := HL.out; omega
        obtain ⟨ad, rfl, hc⟩ := Ints.at (hx.keep hbw.below) hlt
        obtain ⟨bd, rfl, hd⟩ := Ints.at (hy.keep hbw.below) hky
        have HX : Hid (xs.take (k + 1) = xs.take k ++ [xs[k]]) := Lib.hid (List.take_succ_eq_append_getElem hlt)
        have HY : Hid (ys.take (k + 1) = ys.take k ++ [ys[k]]) := Lib.hid (List.take_succ_eq_append_getElem hky)
        have HNE : Hid (xs = ys → xs[k] = ys[k]) := Lib.hid (fun e => by subst e; rfl)
        clear hx hy
        generalize xs[k] = x at hc HX HNE
        generalize ys[k] = y at hd HY HNE
        by_cases heq : x = y
        · have hbb : (x != y) = false := by simp [heq]
          have HE := Lib.hid heq; clear heq
          go_wp2
          go_quiet (fail)
          go_wp2
          go_roundw
          case rel => exact ⟨k + 1, by omega, by go_num, Lib.hid (by rw [HX.out, HY.out, HT.out, HE.out]), hbw.drewN _⟩
          case measure => simp [intOf]; omega
        · have hbb : (x != y) = true := by simp [heq]
          have HF : Hid (decide (xs = ys) = false) := Lib.hid (decide_eq_false (fun e => heq (HNE.out e)))
          clear heq
          go_wp2
          go_quiet (fail)
          go_wp2
          go_ret
          exact ⟨by rw [HF.out]; rfl, hbw.drewN _⟩
      · have HF : Hid (decide (xs = ys) = true) := Lib.hid (decide_eq_true (by
          have := HT.out
          rwa [List.take_of_length_le (by omega), List.take_of_length_le (by have := HL.out; omega)] at this))
        go_wp2
        go_ret
        exact ⟨by rw [HF.out]; rfl, hbw⟩
  · have hb : ((xs.length : Int) != (ys.length : Int)) = true := by simp; omega
    have HF : Hid (decide (xs = ys) = false) := Lib.hid (decide_eq_false (fun e => hl (by rw [e])))
    clear hl
    go_enter Tryz.func45, Tryz.ntmps45
    go_wp2
    go_ret
    exact ⟨by rw [HF.out]; rfl, Dr.refl _⟩
theorem lists_any (A B : Option Addr) (xs ys : List (List Int)) (c d : Nat) (w : World) (hx : Lists w A xs) (hy : Lists w B ys) (hn : xs.length ≤ 1000000) (hi : ∀ l ∈ xs, l.length ≤ 1000000) :
    Calls Tryz.prog 15 #[.slice A xs.length c, .slice B ys.length d] w fun e w' => e = .returned (.bool (decide (xs = ys))) ∧ Dr w w' := by
  have HI := Lib.hid hi
  clear hi
  by_cases hl : xs.length = ys.length
  · have hb : ((xs.length : Int) != (ys.length : Int)) = false := by simp [hl]
    have HL := Lib.hid hl; clear hl
    go_enter Tryz.func15, Tryz.ntmps15
    go_wp2
    go_loopw [5] (fun i wr => ∃ k : Nat, k ≤ xs.length ∧ i = .int .i64 k ∧ Hid (xs.take k = ys.take k) ∧ Dr w wr) (fun i _ => xs.length - (intOf i).toNat)
    case atStart => exact ⟨0, Nat.zero_le _, rfl, Lib.hid (by simp), Dr.refl _⟩
    case round =>
      obtain ⟨k, hk, rfl, HT, hbw⟩ := hrel
      by_cases hlt : k < xs.length
      · have hky : k < ys.length := by have := HL.out; omega
        obtain ⟨ad, A1, c1, rfl, hc, hA1⟩ := Lists.at (hx.keep hbw.below) hlt
        obtain ⟨bd, B1, d1, rfl, hd, hB1⟩ := Lists.at (hy.keep hbw.below) hky
        have HX : Hid (xs.take (k + 1) = xs.take k ++ [xs[k]]) := Lib.hid (List.take_succ_eq_append_getElem hlt)
        have HY : Hid (ys.take (k + 1) = ys.take k ++ [ys[k]]) := Lib.hid (List.take_succ_eq_append_getElem hky)
        have HNE : Hid (xs = ys → xs[k] = ys[k]) := Lib.hid (fun e => by subst e; rfl)
        have hlen := HI.out xs[k] (List.getElem_mem _)
        clear hx hy
        generalize xs[k] = x at hc HX HNE hA1 hlen
        generalize ys[k] = y at hd HY HNE hB1
        have hq := fun W (h : Dr wr W) => ints_any A1 B1 x y c1 d1 W (hA1.keep h.below) (hB1.keep h.below) hlen
        by_cases heq : x = y
        · have HQ : Hid (∀ W, Dr wr W → Calls Tryz.prog 45 #[.slice A1 x.length c1, .slice B1 y.length d1] W fun e w' => e = .returned (.bool true) ∧ ∃ m, w' = W.drewN m) := Lib.hid (fun W h => (hq W h).mono fun e w' h2 => ⟨by rw [h2.1, decide_eq_true heq], h2.2⟩)
          have HE := Lib.hid heq; clear heq hq
          go_wp2
          go_quiet ((go_at_call 45; exact Calls.quiet_of (HQ.out _ ⟨_, rfl⟩)))
          go_wp2
          go_roundw
          case rel => exact ⟨k + 1, by omega, by go_num, Lib.hid (by rw [HX.out, HY.out, HT.out, HE.out]), hbw.drewN _⟩
          case measure => simp [intOf]; omega
        · have HF : Hid (decide (xs = ys) = false) := Lib.hid (decide_eq_false (fun e => heq (HNE.out e)))
          have HQ : Hid (∀ W, Dr wr W → Calls Tryz.prog 45 #[.slice A1 x.length c1, .slice B1 y.length d1] W fun e w' => e = .returned (.bool false) ∧ ∃ m, w' = W.drewN m) := Lib.hid (fun W h => (hq W h).mono fun e w' h2 => ⟨by rw [h2.1, decide_eq_false heq], h2.2⟩)
          clear heq hq
          go_wp2
          go_quiet ((go_at_call 45; exact Calls.quiet_of (HQ.out _ ⟨_, rfl⟩)))
          go_wp2
          go_ret
          exact ⟨by rw [HF.out]; rfl, hbw.drewN _⟩
      · have HF : Hid (decide (xs = ys) = true) := Lib.hid (decide_eq_true (by
          have := HT.out
          rwa [List.take_of_length_le (by omega), List.take_of_length_le (by have := HL.out; omega)] at this))
        go_wp2
        go_ret
        exact ⟨by rw [HF.out]; rfl, hbw⟩
  · have hb : ((xs.length : Int) != (ys.length : Int)) = true := by simp; omega
    have HF : Hid (decide (xs = ys) = false) := Lib.hid (decide_eq_false (fun e => hl (by rw [e])))
    clear hl
    go_enter Tryz.func15, Tryz.ntmps15
    go_wp2
    go_ret
    exact ⟨by rw [HF.out]; rfl, Dr.refl _⟩
end Go.Proofs.Tg.Gx
end
section
/- The statements' sanity check: the chapter's first two examples. -/
namespace Go.Gr
def es0 : List (Int × Int) := [(0, 1), (2, 1), (2, 3), (3, 0), (0, 1)]
def es1 : List (Int × Int) := [(0, 1), (0, 3), (1, 2), (2, 3)]
def es2 : List (Int × Int) := [(0, 1), (0, 3), (1, 2), (1, 3), (2, 3)]
theorem w1 : writeEdges (readAll es0) 4 = es1 := by decide +kernel
theorem w2 : writeEdges (extend (readAll es1) 4) 4 = es2 := by decide +kernel
theorem v1 : valid 4 es1 := by
  refine ⟨by omega, by omega, fun i hi _ => ?_⟩
  have h4 : i < 4 := hi
  have : i = 0 ∨ i = 1 ∨ i = 2 ∨ i = 3 := by omega
  rcases this with rfl | rfl | rfl | rfl <;> exact ⟨⟨by simp [es1], by simp [es1], by simp [es1]⟩, fun h0 => by first | exact absurd h0 (by omega) | simp [es1, cmpE, orI, cmpI]⟩
theorem v2 : valid 4 es2 := by
  refine ⟨by omega, by omega, fun i hi _ => ?_⟩
  have h4 : i < 5 := hi
  have : i = 0 ∨ i = 1 ∨ i = 2 ∨ i = 3 ∨ i = 4 := by omega
  rcases this with rfl | rfl | rfl | rfl | rfl <;> exact ⟨⟨by simp [es2], by simp [es2], by simp [es2]⟩, fun h0 => by first | exact absurd h0 (by omega) | simp [es2, cmpE, orI, cmpI]⟩
theorem r0 : rangeOk 4 es0 ∧ ∀ x ∈ es0, x.1 ≠ x.2 := by
  refine ⟨⟨by omega, fun e he => ?_⟩, by decide⟩
  simp only [es0, List.mem_cons, List.not_mem_nil, or_false] at he
  rcases he with rfl | rfl | rfl | rfl | rfl <;> exact ⟨by decide, by decide, by decide, by decide⟩
end Go.Gr
namespace Go.Proofs.Tg.Gx
open Go.RowKit Go.Gr
set_option maxHeartbeats 1000000
set_option maxRecDepth 100000
theorem sl_blk {w : World} {g n sz : Nat} {t : TypeId} {xs : List Value} (h : Blk w g t xs.toArray) (hl : xs.length = n * sz) : Sl w (some ⟨g, 0, none⟩) n sz xs :=
  ⟨hl, fun _ => ⟨_, rfl, h.lt, fun j u hu => by rw [add_lit, Nat.zero_add, h.cell j, List.getElem?_toArray]; exact hu⟩⟩
theorem aw_lists (W : World) (V : Option Addr) (c g1 g2 g3 : Nat) (hV : Lists W V [[0, 1, 3], [1, 2, 3]]) (h1 : Blk W g1 3 #[.int .i64 0, .int .i64 1, .int .i64 3]) (h2 : Blk W g2 3 #[.int .i64 1, .int .i64 2, .int .i64 3])
    (h3 : Blk W g3 22 #[.slice (some ⟨g1, 0, none⟩) 3 3, .slice (some ⟨g2, 0, none⟩) 3 3]) :
    Calls Tryz.prog 15 #[.slice V 2 c, .slice (some ⟨g3, 0, none⟩) 2 2] W fun e w' => e = .returned (.bool true) ∧ Below W.heap.size W w' := by
  have hL : Lists W (some ⟨g3, 0, none⟩) [[0, 1, 3], [1, 2, 3]] := by
    refine ⟨fun i => if i = 0 then (some ⟨g1, 0, none⟩, 3) else (some ⟨g2, 0, none⟩, 3), sl_blk h3 rfl, fun i hi => ?_⟩
    have : i = 0 ∨ i = 1 := by simp at hi; omega
    rcases this with rfl | rfl
    · exact sl_blk h1 rfl
    · exact sl_blk h2 rfl
  exact (lists_any V _ [[0, 1, 3], [1, 2, 3]] [[0, 1, 3], [1, 2, 3]] c 2 W hV hL (by decide) (by simp)).mono fun e w' h => ⟨by rw [h.1]; rfl, h.2.below⟩
end Go.Proofs.Tg.Gx
end
