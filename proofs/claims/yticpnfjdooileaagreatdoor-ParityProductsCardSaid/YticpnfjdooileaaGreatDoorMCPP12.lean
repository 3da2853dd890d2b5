/- Parts of the proof: E4, LC2, XK1, XK2. -/
import Derived.Test.YticpnfjdooileaaGreatDoorMCPP2
import Derived.Test.YticpnfjdooileaaGreatDoorMCPP7
import Derived.Test.YticpnfjdooileaaGreatDoorMCPP11
section
/- The reduced vectors, by search: a test that can be run. Plain numbers. -/
namespace Go.Ev
def Vb (rows : List (List Int)) (n x : Nat) : Bool := decide (x < 2 ^ n) && rows.all fun r => pr r x n % 2 == 0
theorem Vb_iff {rows : List (List Int)} {n x : Nat} : Vb rows n x = true ↔ V rows n x := by unfold Vb V; simp
def leadB (x k : Nat) : Bool := x.testBit k && (List.range k).all fun b => !x.testBit b
theorem leadB_iff {x k : Nat} : leadB x k = true ↔ Lead x k := by unfold leadB Lead; simp
def redB (rows : List (List Int)) (n x : Nat) : Bool := (List.range (2 ^ n)).all fun t => (List.range n).all fun k => (List.range n).all fun l => !(Vb rows n t && leadB t k && leadB x l && decide (l < k) && x.testBit k)
theorem redB_iff {rows : List (List Int)} {n x : Nat} (hx : x < 2 ^ n) : redB rows n x = true ↔ Red (V rows n) x := by
  unfold redB Red
  simp only [List.all_eq_true, List.mem_range]
  constructor
  · intro h t k l ht hk hl hlk
    have := h t ht.1 k (lead_lt ht.1 hk) l (lead_lt hx hl)
    cases hb : x.testBit k with
    | false => rfl
    | true => rw [Vb_iff.2 ht, leadB_iff.2 hk, leadB_iff.2 hl, decide_eq_true hlk, hb] at this; cases this
  · intro h t _ k _ l _
    by_cases hc : V rows n t ∧ Lead t k ∧ Lead x l ∧ l < k
    · rw [h t k l hc.1 hc.2.1 hc.2.2.1 hc.2.2.2]; simp
    · cases hv : Vb rows n t with
      | false => rfl
      | true =>
        cases h1 : leadB t k with
        | false => rfl
        | true =>
          cases h2 : leadB x l with
          | false => rfl
          | true =>
            have : ¬ l < k := fun h3 => hc ⟨Vb_iff.1 hv, leadB_iff.1 h1, leadB_iff.1 h2, h3⟩
            rw [decide_eq_false this]; rfl
def keepB (rows : List (List Int)) (n x : Nat) : Bool := Vb rows n x && redB rows n x
/-- The rows of the echelon form are those that the search keeps. -/
theorem rows_keep {rows : List (List Int)} {n r : Nat} {us : List Nat} {p : Nat → Nat} (h : EInv (V rows n) n us r p) : us.take r = kern (keepB rows n) n (2 ^ n - 1) :=
  rows_kern h (V_space rows n) (keepB rows n) (fun x _ hx => by unfold keepB; rw [Bool.and_eq_true, Vb_iff, redB_iff hx])
end Go.Ev
end
section
/- The sanity check of the statements on parity. -/
namespace Go.Proofs.Tg
open Go.RowKit Go.Gr Go.Ev Go.Mo Go.Qn
set_option maxHeartbeats 4000000
set_option maxRecDepth 100000
theorem sl_blk {w : World} {g n sz : Nat} {t : TypeId} {xs : List Value} (h : Blk w g t xs.toArray) (hl : xs.length = n * sz) : Sl w (some ⟨g, 0, none⟩) n sz xs :=
  ⟨hl, fun _ => ⟨_, rfl, h.lt, fun j u hu => by rw [add_lit, Nat.zero_add, h.cell j, List.getElem?_toArray]; exact hu⟩⟩
def one49 : ByteArray := ⟨#[49]⟩
theorem rd_one : rd [49] = some (false, 1, 1) := by decide
theorem coef_one : coefOk one49 = true := by
  unfold coefOk
  have e : one49.data.toList = [49] := rfl
  rw [e, rd_one]; rfl
def aw0 (g0 g1 g2 : Nat) : PVal := ⟨2, some ⟨g2, 0, none⟩, 2, [⟨one49, some ⟨g0, 0, none⟩, 2, [2, 0]⟩, ⟨one49, some ⟨g1, 0, none⟩, 2, [1, 1]⟩]⟩
theorem aw_ok (g0 g1 g2 : Nat) : (aw0 g0 g1 g2).ok := by
  refine ⟨by simp [aw0], ⟨by simp [aw0], by simp [aw0], ?_⟩, fun _ => (show vldM [2, 0] = true by decide)⟩
  intro i hi hl
  have h2 : i < 2 := hi
  have t1 : termOk 2 (one49, [2, 0]) = true := by rw [termOk_iff]; exact ⟨coef_one, rfl, by decide⟩
  have t2 : termOk 2 (one49, [1, 1]) = true := by rw [termOk_iff]; exact ⟨coef_one, rfl, by decide⟩
  have : i = 0 ∨ i = 1 := by omega
  rcases this with rfl | rfl
  · exact ⟨t1, fun h => absurd h (by omega)⟩
  · exact ⟨t2, fun _ => (show 0 < ord [2, 0] [1, 1] by decide)⟩
theorem aw_kern : (kern (keepB [[2, 0], [1, 1]] 2) 2 (2 ^ 2 - 1)).map (unp · 2) = [[1, 1]] := by decide +kernel
theorem aw_signs (W : World) (g0 g1 g2 g3 : Nat) (b0 : Blk W g0 3 #[.int .i64 2, .int .i64 0]) (b1 : Blk W g1 3 #[.int .i64 1, .int .i64 1])
    (b2 : Blk W g2 54 #[.string ⟨#[49]⟩, .slice (some ⟨g0, 0, none⟩) 2 2, .string ⟨#[49]⟩, .slice (some ⟨g1, 0, none⟩) 2 2]) (b3 : Blk W g3 36 #[.int .i64 2, .slice (some ⟨g2, 0, none⟩) 2 2]) (hT : Tab W) :
    Calls Tryz.prog 10 #[.slice (some ⟨g3, 0, none⟩) 1 1] W fun e w' => ∃ A c, e = .returned (.tuple #[.slice A 1 c, .int .i64 0]) ∧ Lists w' A [[1, 1]] ∧ Below W.heap.size W w' := by
  have hP : PolysAt W (some ⟨g3, 0, none⟩) [aw0 g0 g1 g2] := by
    refine ⟨sl_blk b3 rfl, fun p hp => ?_⟩
    simp only [List.mem_cons, List.not_mem_nil, or_false] at hp
    subst hp
    refine ⟨sl_blk b2 rfl, fun t ht => ?_⟩
    simp only [aw0, List.mem_cons, List.not_mem_nil, or_false] at ht
    rcases ht with rfl | rfl
    · exact sl_blk b0 rfl
    · exact sl_blk b1 rfl
  refine (signs_any (some ⟨g3, 0, none⟩) 1 [aw0 g0 g1 g2] W hP (by simp) ?_ hT).mono ?_
  · intro p hp
    simp only [List.mem_cons, List.not_mem_nil, or_false] at hp
    subst hp
    refine ⟨by simp [aw0], fun t ht => ?_⟩
    simp only [aw0, List.mem_cons, List.not_mem_nil, or_false] at ht
    rcases ht with rfl | rfl <;> exact ⟨(show one49.size ≤ 19 by decide), (show 2 ≤ 64 by decide)⟩
  · rintro e w' ⟨hb, h | h | h⟩
    · exact absurd (fun p hp => by simp only [List.mem_cons, List.not_mem_nil, or_false] at hp; subst hp; exact aw_ok g0 g1 g2) h.1
    · exfalso
      rcases h.2.1 with h1 | ⟨p, hp, hne⟩
      · cases h1
      · simp only [List.mem_cons, List.not_mem_nil, or_false] at hp
        subst hp
        exact hne rfl
    · obtain ⟨_, n, hn, _, hvn, A, c, us, r, q, hE, _, he, hL⟩ := h
      have hn2 : n = 2 := by
        have := hvn (aw0 g0 g1 g2) (by simp)
        have e2 : (aw0 g0 g1 g2).vars = 2 := rfl
        omega
      subst hn2
      have hrow : rowsOf [aw0 g0 g1 g2] = [[2, 0], [1, 1]] := rfl
      rw [hrow] at hE
      rw [rows_keep hE, aw_kern] at he hL
      exact ⟨A, c, he, hL, hb⟩
theorem aw_cls : clsL [[1, 1]] [[0, 0], [0, 1], [1, 0]] = [[0], [1, 2]] ∧ clsE [[1, 1]] [[0, 0], [0, 1], [1, 0]] = 0 := by
  have h0 : chk [[1, 1]] [[0, 0], [0, 1], [1, 0]] = 0 := by decide
  refine ⟨?_, ?_⟩
  · unfold clsL
    rw [if_pos ⟨h0, by decide⟩]
    decide +kernel
  · unfold clsE
    rw [if_pos h0]; rfl
theorem lists1 {W : World} {g0 g : Nat} {x y : Int} (b0 : Blk W g0 3 #[.int .i64 x, .int .i64 y]) (b : Blk W g 33 #[.slice (some ⟨g0, 0, none⟩) 2 2]) : Lists W (some ⟨g, 0, none⟩) [[x, y]] :=
  ⟨fun _ => (some ⟨g0, 0, none⟩, 2), sl_blk b rfl, fun i hi => by
    have : i = 0 := by simpa using hi
    subst this
    exact sl_blk b0 rfl⟩
theorem aw_classes (W : World) (g0 g1 g2 g3 g4 g5 : Nat) (b0 : Blk W g0 3 #[.int .i64 1, .int .i64 1]) (b1 : Blk W g1 33 #[.slice (some ⟨g0, 0, none⟩) 2 2])
    (b2 : Blk W g2 3 #[.int .i64 0, .int .i64 0]) (b3 : Blk W g3 3 #[.int .i64 0, .int .i64 1]) (b4 : Blk W g4 3 #[.int .i64 1, .int .i64 0])
    (b5 : Blk W g5 33 #[.slice (some ⟨g2, 0, none⟩) 2 2, .slice (some ⟨g3, 0, none⟩) 2 2, .slice (some ⟨g4, 0, none⟩) 2 2]) :
    Calls Tryz.prog 15 #[.slice (some ⟨g1, 0, none⟩) 1 1, .slice (some ⟨g5, 0, none⟩) 3 3] W fun e w' => ∃ A c, e = .returned (.tuple #[.slice A 2 c, .int .i64 0]) ∧ Lists w' A [[0], [1, 2]] ∧ Below W.heap.size W w' := by
  have hL : Lists W (some ⟨g5, 0, none⟩) [[0, 0], [0, 1], [1, 0]] := by
    refine ⟨fun i => if i = 0 then (some ⟨g2, 0, none⟩, 2) else if i = 1 then (some ⟨g3, 0, none⟩, 2) else (some ⟨g4, 0, none⟩, 2), sl_blk b5 rfl, fun i hi => ?_⟩
    have : i = 0 ∨ i = 1 ∨ i = 2 := by simp at hi; omega
    rcases this with rfl | rfl | rfl
    · exact sl_blk b2 rfl
    · exact sl_blk b3 rfl
    · exact sl_blk b4 rfl
  have := classes_any (some ⟨g1, 0, none⟩) (some ⟨g5, 0, none⟩) 1 3 [[1, 1]] [[0, 0], [0, 1], [1, 0]] W (lists1 b0 b1) hL (by simp) (by simp) (by simp) (by simp)
  rw [aw_cls.1, aw_cls.2] at this
  exact this
theorem aw_l1 (W : World) (A : Option Addr) (c g0 g1 : Nat) (hA : Lists W A [[1, 1]]) (b0 : Blk W g0 3 #[.int .i64 1, .int .i64 1]) (b1 : Blk W g1 33 #[.slice (some ⟨g0, 0, none⟩) 2 2]) :
    Calls Tryz.prog 12 #[.slice A 1 c, .slice (some ⟨g1, 0, none⟩) 1 1] W fun e w' => e = .returned (.bool true) ∧ Below W.heap.size W w' :=
  (lists_any A _ [[1, 1]] [[1, 1]] c 1 W hA (lists1 b0 b1) (by decide) (by simp)).mono fun e w' h => ⟨by rw [h.1]; rfl, h.2.below⟩
theorem aw_l2 (W : World) (A : Option Addr) (c g0 g1 g2 : Nat) (hA : Lists W A [[0], [1, 2]]) (b0 : Blk W g0 3 #[.int .i64 0]) (b1 : Blk W g1 3 #[.int .i64 1, .int .i64 2]) (b2 : Blk W g2 33 #[.slice (some ⟨g0, 0, none⟩) 1 1, .slice (some ⟨g1, 0, none⟩) 2 2]) :
    Calls Tryz.prog 12 #[.slice A 2 c, .slice (some ⟨g2, 0, none⟩) 2 2] W fun e w' => e = .returned (.bool true) ∧ Below W.heap.size W w' := by
  have hL : Lists W (some ⟨g2, 0, none⟩) [[0], [1, 2]] := by
    refine ⟨fun i => if i = 0 then (some ⟨g0, 0, none⟩, 1) else (some ⟨g1, 0, none⟩, 2), sl_blk b2 rfl, fun i hi => ?_⟩
    have : i = 0 ∨ i = 1 := by simp at hi; omega
    rcases this with rfl | rfl
    · exact sl_blk b0 rfl
    · exact sl_blk b1 rfl
  exact (lists_any A _ [[0], [1, 2]] [[0], [1, 2]] c 2 W hA hL (by decide) (by simp)).mono fun e w' h => ⟨by rw [h.1]; rfl, h.2.below⟩
/-- Blocks set down one behind another. -/
def al (w : World) (os : List Obj) : World := os.foldl World.alloc w
theorem al_size (w : World) (os : List Obj) : (al w os).heap.size = w.heap.size + os.length := by
  induction os generalizing w with
  | nil => rfl
  | cons o os ih =>
    have : al w (o :: os) = al (w.alloc o) os := rfl
    rw [this, ih]
    simp; omega
theorem al_below (w : World) (os : List Obj) : Below w.heap.size w (al w os) := by
  induction os generalizing w with
  | nil => exact Below.refl _ _
  | cons o os ih =>
    have : al w (o :: os) = al (w.alloc o) os := rfl
    rw [this]
    exact below_all ((Below.refl _ _).alloc (Nat.le_refl _) _) (ih _)
theorem al_blk (w : World) (os : List Obj) (i : Nat) {t : TypeId} {cs : Array Value} (h : os[i]? = some (.cells cs t)) : Blk (al w os) (w.heap.size + i) t cs := by
  induction os generalizing w i with
  | nil => simp at h
  | cons o os ih =>
    have e : al w (o :: os) = al (w.alloc o) os := rfl
    rw [e]
    cases i with
    | zero =>
      have : o = .cells cs t := by simpa using h
      subst this
      exact (Blk.new w t cs).keep (al_below _ _) (by simp)
    | succ i =>
      have := ih (w.alloc o) i (by simpa using h)
      have e2 : (w.alloc o).heap.size + i = w.heap.size + (i + 1) := by simp; omega
      rwa [e2] at this
theorem aw_signs' (w : World) (hT : Tab w) : Calls Tryz.prog 10 #[.slice (some ⟨w.heap.size + 1 + 1 + 1, 0, none⟩) 1 1]
    ((((w.alloc (.cells #[.int .i64 2, .int .i64 0] 3)).alloc (.cells #[.int .i64 1, .int .i64 1] 3)).alloc (.cells #[.string ⟨#[49]⟩, .slice (some ⟨w.heap.size, 0, none⟩) 2 2, .string ⟨#[49]⟩, .slice (some ⟨w.heap.size + 1, 0, none⟩) 2 2] 54)).alloc (.cells #[.int .i64 2, .slice (some ⟨w.heap.size + 1 + 1, 0, none⟩) 2 2] 36))
    fun e w' => ∃ A c, e = .returned (.tuple #[.slice A 1 c, .int .i64 0]) ∧ Lists w' A [[1, 1]] ∧ Below w.heap.size w w' := by
  let os : List Obj := [.cells #[.int .i64 2, .int .i64 0] 3, .cells #[.int .i64 1, .int .i64 1] 3, .cells #[.string ⟨#[49]⟩, .slice (some ⟨w.heap.size, 0, none⟩) 2 2, .string ⟨#[49]⟩, .slice (some ⟨w.heap.size + 1, 0, none⟩) 2 2] 54, .cells #[.int .i64 2, .slice (some ⟨w.heap.size + 1 + 1, 0, none⟩) 2 2] 36]
  refine (aw_signs (al w os) w.heap.size (w.heap.size + 1) (w.heap.size + 1 + 1) (w.heap.size + 1 + 1 + 1) (al_blk w os 0 rfl) (al_blk w os 1 rfl) (al_blk w os 2 rfl) (al_blk w os 3 rfl) (hT.below (al_below w os) hT.1)).mono ?_
  rintro e w' ⟨A, c, h1, h2, h3⟩
  exact ⟨A, c, h1, h2, below_all (al_below w os) h3⟩
theorem aw_classes' (w : World) : Calls Tryz.prog 15 #[.slice (some ⟨w.heap.size + 1, 0, none⟩) 1 1, .slice (some ⟨w.heap.size + 1 + 1 + 1 + 1 + 1, 0, none⟩) 3 3]
    ((((((w.alloc (.cells #[.int .i64 1, .int .i64 1] 3)).alloc (.cells #[.slice (some ⟨w.heap.size, 0, none⟩) 2 2] 33)).alloc (.cells #[.int .i64 0, .int .i64 0] 3)).alloc (.cells #[.int .i64 0, .int .i64 1] 3)).alloc (.cells #[.int .i64 1, .int .i64 0] 3)).alloc (.cells #[.slice (some ⟨w.heap.size + 1 + 1, 0, none⟩) 2 2, .slice (some ⟨w.heap.size + 1 + 1 + 1, 0, none⟩) 2 2, .slice (some ⟨w.heap.size + 1 + 1 + 1 + 1, 0, none⟩) 2 2] 33))
    fun e w' => ∃ A c, e = .returned (.tuple #[.slice A 2 c, .int .i64 0]) ∧ Lists w' A [[0], [1, 2]] ∧ Below w.heap.size w w' := by
  let os : List Obj := [.cells #[.int .i64 1, .int .i64 1] 3, .cells #[.slice (some ⟨w.heap.size, 0, none⟩) 2 2] 33, .cells #[.int .i64 0, .int .i64 0] 3, .cells #[.int .i64 0, .int .i64 1] 3, .cells #[.int .i64 1, .int .i64 0] 3, .cells #[.slice (some ⟨w.heap.size + 1 + 1, 0, none⟩) 2 2, .slice (some ⟨w.heap.size + 1 + 1 + 1, 0, none⟩) 2 2, .slice (some ⟨w.heap.size + 1 + 1 + 1 + 1, 0, none⟩) 2 2] 33]
  refine (aw_classes (al w os) w.heap.size (w.heap.size + 1) (w.heap.size + 1 + 1) (w.heap.size + 1 + 1 + 1) (w.heap.size + 1 + 1 + 1 + 1) (w.heap.size + 1 + 1 + 1 + 1 + 1) (al_blk w os 0 rfl) (al_blk w os 1 rfl) (al_blk w os 2 rfl) (al_blk w os 3 rfl) (al_blk w os 4 rfl) (al_blk w os 5 rfl)).mono ?_
  rintro e w' ⟨A, c, h1, h2, h3⟩
  exact ⟨A, c, h1, h2, below_all (al_below w os) h3⟩
theorem aw_l1' (w : World) (A : Option Addr) (c : Nat) (hA : Lists w A [[1, 1]]) : Calls Tryz.prog 12 #[.slice A 1 c, .slice (some ⟨w.heap.size + 1, 0, none⟩) 1 1]
    ((w.alloc (.cells #[.int .i64 1, .int .i64 1] 3)).alloc (.cells #[.slice (some ⟨w.heap.size, 0, none⟩) 2 2] 33))
    fun e w' => e = .returned (.bool true) ∧ Below w.heap.size w w' := by
  let os : List Obj := [.cells #[.int .i64 1, .int .i64 1] 3, .cells #[.slice (some ⟨w.heap.size, 0, none⟩) 2 2] 33]
  exact (aw_l1 (al w os) A c w.heap.size (w.heap.size + 1) (hA.keep (al_below w os)) (al_blk w os 0 rfl) (al_blk w os 1 rfl)).mono fun e w' h => ⟨h.1, below_all (al_below w os) h.2⟩
theorem aw_l2' (w : World) (A : Option Addr) (c : Nat) (hA : Lists w A [[0], [1, 2]]) : Calls Tryz.prog 12 #[.slice A 2 c, .slice (some ⟨w.heap.size + 1 + 1, 0, none⟩) 2 2]
    (((w.alloc (.cells #[.int .i64 0] 3)).alloc (.cells #[.int .i64 1, .int .i64 2] 3)).alloc (.cells #[.slice (some ⟨w.heap.size, 0, none⟩) 1 1, .slice (some ⟨w.heap.size + 1, 0, none⟩) 2 2] 33))
    fun e w' => e = .returned (.bool true) ∧ Below w.heap.size w w' := by
  let os : List Obj := [.cells #[.int .i64 0] 3, .cells #[.int .i64 1, .int .i64 2] 3, .cells #[.slice (some ⟨w.heap.size, 0, none⟩) 1 1, .slice (some ⟨w.heap.size + 1, 0, none⟩) 2 2] 33]
  exact (aw_l2 (al w os) A c w.heap.size (w.heap.size + 1) (w.heap.size + 1 + 1) (hA.keep (al_below w os)) (al_blk w os 0 rfl) (al_blk w os 1 rfl) (al_blk w os 2 rfl)).mono fun e w' h => ⟨h.1, below_all (al_below w os) h.2⟩
theorem awake_any (w : World) (hT : Tab w) : Calls Tryz.prog 9 #[] w fun e w' => e = .returned (.bool true) ∧ Below w.heap.size w w' := by
  go_enter Tryz.func9, Tryz.ntmps9
  go_wp2_with (fail)
  refine (aw_signs' w hT).mono ?_
  rintro e w1 ⟨A, c, rfl, hA, hb1⟩
  go_wp2_with (fail)
  refine (aw_classes' w1).mono ?_
  rintro e w2 ⟨B, d, rfl, hB, hb2⟩
  have hA2 := hA.keep hb2
  have hbw2 := below_all hb1 hb2
  clear hA hb1 hb2
  go_wp2_with (fail)
  refine (aw_l1' w2 A c hA2).mono ?_
  rintro e w3 ⟨rfl, hb3⟩
  have hB3 := hB.keep hb3
  have hbw3 := below_all hbw2 hb3
  clear hA2 hB hb3 hbw2
  go_wp2_with (fail)
  refine (aw_l2' w3 B d hB3).mono ?_
  rintro e w4 ⟨rfl, hb4⟩
  go_wp2_with (fail)
  go_ret
  exact ⟨rfl, below_all hbw3 hb4⟩
end Go.Proofs.Tg
end
section
/- The reference's leading and orthogonal; the harness's SmallPoly. -/
namespace Go.Ev
/-- Every row is even against v. -/
def orth (rs : List (List Int)) (v : List Int) : Bool := rs.all fun r => dotN r v v.length % 2 == 0
end Go.Ev
namespace Go.Proofs.Tg
open Go.RowKit Go.Gr Go.Ev Go.Mo
set_option maxHeartbeats 4000000
set_option maxRecDepth 100000
theorem Dr.trans {w w' w'' : World} (h : Dr w w') (k : Dr w' w'') : Dr w w'' := by
  obtain ⟨n, rfl⟩ := k
  exact h.drewN n
theorem fidx_hit {l : List Int} {k : Nat} (h : k ≤ l.findIdx (· == 1)) (hk : k < l.length) (hx : l[k] = 1) : l.findIdx (· == 1) = k := by
  by_cases e : k < l.findIdx (· == 1)
  · have := List.not_of_lt_findIdx e
    rw [hx] at this
    cases this
  · omega
theorem fidx_miss {l : List Int} {k : Nat} (h : k ≤ l.findIdx (· == 1)) (hk : k < l.length) (hx : l[k] ≠ 1) : k + 1 ≤ l.findIdx (· == 1) := by
  by_cases e : l.findIdx (· == 1) = k
  · exfalso
    have hlt : l.findIdx (· == 1) < l.length := by omega
    have := List.findIdx_getElem (w := hlt)
    rw [beq_iff_eq] at this
    apply hx
    rw [← this]
    congr 1
    exact e.symm
  · omega
theorem lead_any (A : Option Addr) (c : Nat) (l : List Int) (w : World) (hA : Ints w A l) (hn : l.length ≤ 1000) :
    Calls Tryz.prog 59 #[.slice A l.length c] w fun e w' => e = .returned (.int .i64 (l.findIdx (· == 1) : Nat)) ∧ w = w' := by
  obtain ⟨q, hq⟩ : ∃ q, l.findIdx (· == 1) = q := ⟨_, rfl⟩
  have HQ := Lib.hid hq
  rw [hq]
  clear hq
  go_enter Tryz.func59, Tryz.ntmps59
  go_wp2
  go_loop [3] (fun i => ∃ k : Nat, k ≤ l.length ∧ i = .int .i64 k ∧ Hid (k ≤ q)) (fun i => l.length - (intOf i).toNat)
  case atStart => exact ⟨0, Nat.zero_le _, rfl, Lib.hid (Nat.zero_le _)⟩
  case round =>
    obtain ⟨k, hk, rfl, HK⟩ := hrel
    by_cases hlt : k < l.length
    · obtain ⟨ad, rfl, hc⟩ := Ints.at hA hlt
      have H1 : Hid (l[k] = 1 → q = k) := Lib.hid (fun h => by have := fidx_hit (HQ.out ▸ HK.out) hlt h; rw [HQ.out] at this; exact this)
      have H2 : Hid (l[k] ≠ 1 → k + 1 ≤ q) := Lib.hid (fun h => by have := fidx_miss (HQ.out ▸ HK.out) hlt h; rw [HQ.out] at this; exact this)
      generalize l[k] = x at hc H1 H2
      by_cases hx : x = 1
      · have hb : (x == 1) = true := by simp [hx]
        obtain rfl := H1.out hx
        clear hx
        go_wp2
        go_ret
        exact ⟨rfl, rfl⟩
      · have hb : (x == 1) = false := by simp [hx]
        have HK2 := Lib.hid (H2.out hx)
        clear hx
        go_wp2
        go_round
        case rel => exact ⟨k + 1, by omega, by go_num, HK2⟩
        case measure => simp [intOf]; omega
    · obtain rfl : k = l.length := by omega
      obtain rfl : q = l.length := by
        have h1 := HK.out
        have h2 : l.findIdx (· == 1) ≤ l.length := List.findIdx_le_length
        rw [HQ.out] at h2
        omega
      go_wp2
      go_ret
      exact ⟨rfl, rfl⟩
theorem orth_any (R S : Option Addr) (c d : Nat) (rs : List (List Int)) (v : List Int) (w : World) (hR : Lists w R rs) (hS : Ints w S v) (hr : rs.length ≤ 1000000) (hn : v.length ≤ 64)
    (ha : ∀ r ∈ rs, v.length ≤ r.length ∧ ∀ x ∈ r, 0 ≤ x ∧ x ≤ 1048576) (hs : Ev.Bit01 v) :
    Calls Tryz.prog 48 #[.slice R rs.length c, .slice S v.length d] w fun e w' => e = .returned (.bool (orth rs v)) ∧ Dr w w' := by
  have HA := Lib.hid ha
  have HS := Lib.hid hs
  clear ha hs
  obtain ⟨b, hb⟩ : ∃ b, orth rs v = b := ⟨_, rfl⟩
  have HB := Lib.hid hb
  rw [hb]
  clear hb
  go_enter Tryz.func48, Tryz.ntmps48
  go_wp2
  go_loopw [5] (fun i wr => ∃ k : Nat, k ≤ rs.length ∧ i = .int .i64 k ∧ Hid (∀ r ∈ rs.take k, dotN r v v.length % 2 = 0) ∧ Dr w wr) (fun i _ => rs.length - (intOf i).toNat)
  case atStart => exact ⟨0, Nat.zero_le _, rfl, Lib.hid (by simp), Dr.refl _⟩
  case round =>
    obtain ⟨k, hk, rfl, HG, hbw⟩ := hrel
    by_cases hlt : k < rs.length
    · obtain ⟨ad, A, cl, rfl, hc, hA⟩ := Lists.at (hR.keep hbw.below) hlt
      have HM : Hid (rs[k] ∈ rs) := Lib.hid (List.getElem_mem _)
      have HT0 : Hid (rs.take (k + 1) = rs.take k ++ [rs[k]]) := Lib.hid (List.take_succ_eq_append_getElem hlt)
      generalize rs[k] = r at hc hA HM HT0
      have hS2 := hS.keep hbw.below
      have HD := Lib.hid (dot_any A S cl d r v wr hA hS2 (HA.out r HM.out).1 hn (HA.out r HM.out).2 HS.out)
      clear hA hS2
      obtain ⟨z, hz⟩ : ∃ z, dotN r v v.length % 2 = z := ⟨_, rfl⟩
      rw [hz] at HD
      have HZ := Lib.hid hz
      clear hz
      by_cases h0 : z = 0
      · subst h0
        have HG2 : Hid (∀ r ∈ rs.take (k + 1), dotN r v v.length % 2 = 0) := Lib.hid (by
          rw [HT0.out]
          intro r' hr'
          rcases List.mem_append.1 hr' with h | h
          · exact HG.out r' h
          · simp at h; subst h; exact HZ.out)
        go_wp2_with (go_at_call 43; refine HD.out.mono ?_; rintro e w2 ⟨rfl, hdr⟩)
        go_roundw
        case rel => exact ⟨k + 1, by omega, by go_num, HG2, hbw.trans hdr⟩
        case measure => simp [intOf]; omega
      · have hne : (z != 0) = true := by simp [h0]
        obtain rfl : b = false := by
          cases b
          · rfl
          · exfalso
            have := HB.out
            unfold orth at this
            rw [List.all_eq_true] at this
            have := this r HM.out
            rw [beq_iff_eq, HZ.out] at this
            exact h0 this
        clear h0
        go_wp2_with (go_at_call 43; refine HD.out.mono ?_; rintro e w2 ⟨rfl, hdr⟩)
        go_ret
        exact ⟨rfl, hbw.trans hdr⟩
    · obtain rfl : k = rs.length := by omega
      obtain rfl : b = true := by
        rw [← HB.out]
        unfold orth
        rw [List.all_eq_true]
        intro r hr
        rw [beq_iff_eq]
        exact HG.out r (by rw [List.take_length]; exact hr)
      go_wp2
      go_ret
      exact ⟨rfl, hbw⟩
def PVal.few (n m : Nat) (p : PVal) : Prop := p.tv.length ≤ n ∧ ∀ t ∈ p.tv, t.coef.size ≤ m ∧ t.exps.length ≤ 12
theorem spoly_any (p : PVal) (n m : Nat) (b : Bool) (w : World) (hP : TermsAt w p.adr p.tv) (hv : b = true ↔ p.few n m) (hn : n ≤ 1000) (_hm : m ≤ 1000) :
    Calls Tryz.prog 20 #[.agg #[.int .i64 p.vars, .slice p.adr p.tv.length p.cap], .int .i64 n, .int .i64 m] w fun e w' => e = .returned (.bool b) ∧ Below w.heap.size w w' := by
  have hbA : Below w.heap.size w (w.alloc (.cells #[.int .i64 p.vars, .slice p.adr p.tv.length p.cap] 36)) := (Below.refl _ _).alloc (Nat.le_refl _) _
  have hP1 := hP.keep hbA
  have hB := Blk.new w 36 #[.int .i64 p.vars, .slice p.adr p.tv.length p.cap]
  obtain ⟨P, T, cp, tv⟩ := p
  simp only at *
  have HV := Lib.hid hv
  clear hv hP
  by_cases hl : tv.length ≤ n
  · have hd : decide ((n : Int) < (tv.length : Int)) = false := by simp; omega
    have hd' : decide (n < tv.length) = false := by simp; omega
    go_enter Tryz.func20, Tryz.ntmps20
    go_wp2
    generalize w.alloc (.cells #[.int .i64 P, .slice T tv.length cp] 36) = W at hbA hP1 hB
    generalize hg : w.heap.size = G at hB ⊢
    obtain ⟨c0, c1, f0, f1⟩ := hB.two
    have hgl := hB.lt
    have HG := Lib.hid hg
    clear hg hB
    go_loop [7] (fun i => ∃ k : Nat, i = .int .i64 k ∧ k ≤ tv.length ∧ Hid (∀ t ∈ tv.take k, t.coef.size ≤ m ∧ t.exps.length ≤ 12)) (fun i => tv.length - (intOf i).toNat)
    case atStart => exact ⟨0, rfl, Nat.zero_le _, Lib.hid (by simp)⟩
    case round =>
      obtain ⟨k, rfl, hk, HI⟩ := hrel
      by_cases hkl : k < tv.length
      · obtain ⟨ad, rfl, hc1, hc2, _⟩ := TermsAt.at hP1 hkl
        have HM : Hid (tv[k] ∈ tv) := Lib.hid (List.getElem_mem _)
        have HT0 : Hid (tv.take (k + 1) = tv.take k ++ [tv[k]]) := Lib.hid (List.take_succ_eq_append_getElem hkl)
        generalize tv[k] = t at *
        obtain ⟨s, A, ca, el⟩ := t
        simp only at *
        by_cases h1 : s.size ≤ m
        · have hb1 : decide ((m : Int) < (s.size : Int)) = false := by simp; omega
          have hb1' : decide (m < s.size) = false := by simp; omega
          by_cases h2 : el.length ≤ 12
          · have hb2 : decide ((12 : Int) < (el.length : Int)) = false := by simp; omega
            have hb2' : decide (12 < el.length) = false := by simp; omega
            have HG2 : Hid (∀ t ∈ tv.take (k + 1), t.coef.size ≤ m ∧ t.exps.length ≤ 12) := Lib.hid (by
              rw [HT0.out]
              intro l' hl'
              rcases List.mem_append.1 hl' with h | h
              · exact HI.out l' h
              · simp at h; subst h; exact ⟨h1, h2⟩)
            go_wp2
            go_round
            case rel => exact ⟨k + 1, by go_num, by omega, HG2⟩
            case measure => simp [intOf]; omega
          · have hb2 : decide ((12 : Int) < (el.length : Int)) = true := by simp; omega
            have hb2' : decide (12 < el.length) = true := by simp; omega
            obtain rfl : b = false := by
              cases b
              · rfl
              · exact absurd ((HV.out.1 rfl).2 _ HM.out).2 h2
            go_wp2
            go_ret
            exact ⟨rfl, HG.out ▸ hbA⟩
        · have hb1 : decide ((m : Int) < (s.size : Int)) = true := by simp; omega
          have hb1' : decide (m < s.size) = true := by simp; omega
          obtain rfl : b = false := by
            cases b
            · rfl
            · exact absurd ((HV.out.1 rfl).2 _ HM.out).1 h1
          go_wp2
          go_ret
          exact ⟨rfl, HG.out ▸ hbA⟩
      · obtain rfl : k = tv.length := by omega
        obtain rfl : b = true := HV.out.2 ⟨hl, by have := HI.out; rwa [List.take_length] at this⟩
        go_wp2
        go_ret
        exact ⟨rfl, HG.out ▸ hbA⟩
  · have hd : decide ((n : Int) < (tv.length : Int)) = true := by simp; omega
    have hd' : decide (n < tv.length) = true := by simp; omega
    obtain rfl : b = false := by
      cases b
      · rfl
      · exact absurd (HV.out.1 rfl).1 hl
    go_enter Tryz.func20, Tryz.ntmps20
    go_wp2
    go_ret
    exact ⟨rfl, hbA⟩
end Go.Proofs.Tg
end
section
/- The harness's SmallPolys. -/
namespace Go.Proofs.Tg
open Go.RowKit Go.Gr Go.Ev Go.Mo
set_option maxHeartbeats 4000000
set_option maxRecDepth 100000
theorem spolys_any (L : Option Addr) (c n t m : Nat) (ps : List PVal) (b : Bool) (w : World) (hL : PolysAt w L ps) (hv : b = true ↔ ps.length ≤ n ∧ ∀ p ∈ ps, p.few t m) (hn : n ≤ 1000) (ht : t ≤ 1000) (hm : m ≤ 1000) :
    Calls Tryz.prog 8 #[.slice L ps.length c, .int .i64 n, .int .i64 t, .int .i64 m] w fun e w' => e = .returned (.bool b) ∧ Below w.heap.size w w' := by
  have HV := Lib.hid hv
  clear hv
  by_cases hl : ps.length ≤ n
  · have hd : decide ((n : Int) < (ps.length : Int)) = false := by simp; omega
    have hd' : decide (n < ps.length) = false := by simp; omega
    go_enter Tryz.func8, Tryz.ntmps8
    go_wp2
    go_loopw [9] (fun i wr => ∃ k : Nat, i = .int .i64 k ∧ k ≤ ps.length ∧ Hid (∀ p ∈ ps.take k, p.few t m) ∧ Below w.heap.size w wr) (fun i _ => ps.length - (intOf i).toNat)
    case atStart => exact ⟨0, rfl, Nat.zero_le _, Lib.hid (by simp), Below.refl _ _⟩
    case round =>
      obtain ⟨k, rfl, hk, HI, hbw⟩ := hrel
      by_cases hkl : k < ps.length
      · obtain ⟨ad, rfl, hc1, hc2, hT⟩ := PolysAt.at (hL.keep hbw) hkl
        have HM : Hid (ps[k] ∈ ps) := Lib.hid (List.getElem_mem _)
        have HT0 : Hid (ps.take (k + 1) = ps.take k ++ [ps[k]]) := Lib.hid (List.take_succ_eq_append_getElem hkl)
        generalize ps[k] = p at *
        by_cases h1 : p.few t m
        · have HS := Lib.hid (spoly_any p t m true wr hT (by simp [h1]) ht hm)
          have HG2 : Hid (∀ p ∈ ps.take (k + 1), p.few t m) := Lib.hid (by
            rw [HT0.out]
            intro l' hl'
            rcases List.mem_append.1 hl' with h | h
            · exact HI.out l' h
            · simp at h; subst h; exact h1)
          clear h1 hT
          obtain ⟨P, T, cp, tv⟩ := p
          simp only at *
          go_wp2_with (go_at_call 20; refine HS.out.mono ?_; rintro e w2 ⟨rfl, hb2⟩)
          go_roundw
          case rel => exact ⟨k + 1, by go_num, by omega, HG2, below_all hbw hb2⟩
          case measure => simp [intOf]; omega
        · have HS := Lib.hid (spoly_any p t m false wr hT (by simp [h1]) ht hm)
          obtain rfl : b = false := by
            cases b
            · rfl
            · exact absurd ((HV.out.1 rfl).2 _ HM.out) h1
          clear h1 hT
          obtain ⟨P, T, cp, tv⟩ := p
          simp only at *
          go_wp2_with (go_at_call 20; refine HS.out.mono ?_; rintro e w2 ⟨rfl, hb2⟩)
          go_ret
          exact ⟨rfl, below_all hbw hb2⟩
      · obtain rfl : k = ps.length := by omega
        obtain rfl : b = true := HV.out.2 ⟨hl, by have := HI.out; rwa [List.take_length] at this⟩
        go_wp2
        go_ret
        exact ⟨rfl, hbw⟩
  · have hd : decide ((n : Int) < (ps.length : Int)) = true := by simp; omega
    have hd' : decide (n < ps.length) = true := by simp; omega
    obtain rfl : b = false := by
      cases b
      · rfl
      · exact absurd (HV.out.1 rfl).1 hl
    go_enter Tryz.func8, Tryz.ntmps8
    go_wp2
    go_ret
    exact ⟨rfl, Below.refl _ _⟩
end Go.Proofs.Tg
end
