/- The sanity check of the statements on parity. -/
import Derived.Test.YtapkdofmcchdcaaGreatDoorLC1
import Derived.Test.YtapkdofmcchdcaaGreatDoorWB3
import Derived.Test.YtapkdofmcchdcaaGreatDoorE4
namespace Go.Proofs.Tg
open Go.RowKit Go.Gr Go.Ev Go.Mo Go.Qn
set_option maxHeartbeats 4000000
set_option maxRecDepth 100000
theorem sl_blk {w : World} {g n sz : Nat} {t : TypeId} {xs : List Value} (h : Blk w g t xs.toArray) (hl : xs.length = n * sz) : Sl w (some ⟨g, 0, none⟩) n sz xs :=
  ⟨hl, fun _ => ⟨_, rfl, h.lt, fun j u hu => by rw [add_lit, Nat.zero_add, h.cell j, List.getElem?_toArray]; exact hu⟩⟩
def one49 : ByteArray := ⟨#[49]⟩
theorem rd_one : rd [49] = some (false, 1, 1) := by decide
theorem coef_one : coefOk one49 = true := by
  unfold coefOk
  have e : one49.data.toList = [49] := rfl
  rw [e, rd_one]; rfl
def aw0 (g0 g1 g2 : Nat) : PVal := ⟨2, some ⟨g2, 0, none⟩, 2, [⟨one49, some ⟨g0, 0, none⟩, 2, [2, 0]⟩, ⟨one49, some ⟨g1, 0, none⟩, 2, [1, 1]⟩]⟩
theorem aw_ok (g0 g1 g2 : Nat) : (aw0 g0 g1 g2).ok := by
  refine ⟨by simp [aw0], ⟨by simp [aw0], by simp [aw0], ?_⟩, fun _ => (show vldM [2, 0] = true by decide)⟩
  intro i hi hl
  have h2 : i < 2 := hi
  have t1 : termOk 2 (one49, [2, 0]) = true := by rw [termOk_iff]; exact ⟨coef_one, rfl, by decide⟩
  have t2 : termOk 2 (one49, [1, 1]) = true := by rw [termOk_iff]; exact ⟨coef_one, rfl, by decide⟩
  have : i = 0 ∨ i = 1 := by omega
  rcases this with rfl | rfl
  · exact ⟨t1, fun h => absurd h (by omega)⟩
  · exact ⟨t2, fun _ => (show 0 < ord [2, 0] [1, 1] by decide)⟩
theorem aw_kern : (kern (keepB [[2, 0], [1, 1]] 2) 2 (2 ^ 2 - 1)).map (unp · 2) = [[1, 1]] := by decide +kernel
theorem aw_signs (W : World) (g0 g1 g2 g3 : Nat) (b0 : Blk W g0 3 #[.int .i64 2, .int .i64 0]) (b1 : Blk W g1 3 #[.int .i64 1, .int .i64 1])
    (b2 : Blk W g2 87 #[.string ⟨#[49]⟩, .slice (some ⟨g0, 0, none⟩) 2 2, .string ⟨#[49]⟩, .slice (some ⟨g1, 0, none⟩) 2 2]) (b3 : Blk W g3 40 #[.int .i64 2, .slice (some ⟨g2, 0, none⟩) 2 2]) (hT : Tab W) :
    Calls Tryz.prog 17 #[.slice (some ⟨g3, 0, none⟩) 1 1] W fun e w' => ∃ A c, e = .returned (.tuple #[.slice A 1 c, .int .i64 0]) ∧ Lists w' A [[1, 1]] ∧ Below W.heap.size W w' := by
  have hP : PolysAt W (some ⟨g3, 0, none⟩) [aw0 g0 g1 g2] := by
    refine ⟨sl_blk b3 rfl, fun p hp => ?_⟩
    simp only [List.mem_cons, List.not_mem_nil, or_false] at hp
    subst hp
    refine ⟨sl_blk b2 rfl, fun t ht => ?_⟩
    simp only [aw0, List.mem_cons, List.not_mem_nil, or_false] at ht
    rcases ht with rfl | rfl
    · exact sl_blk b0 rfl
    · exact sl_blk b1 rfl
  refine (signs_any (some ⟨g3, 0, none⟩) 1 [aw0 g0 g1 g2] W hP (by simp) ?_ hT).mono ?_
  · intro p hp
    simp only [List.mem_cons, List.not_mem_nil, or_false] at hp
    subst hp
    refine ⟨by simp [aw0], fun t ht => ?_⟩
    simp only [aw0, List.mem_cons, List.not_mem_nil, or_false] at ht
    rcases ht with rfl | rfl <;> exact ⟨(show one49.size ≤ 19 by decide), (show 2 ≤ 64 by decide)⟩
  · rintro e w' ⟨hb, h | h | h⟩
    · exact absurd (fun p hp => by simp only [List.mem_cons, List.not_mem_nil, or_false] at hp; subst hp; exact aw_ok g0 g1 g2) h.1
    · exfalso
      rcases h.2.1 with h1 | ⟨p, hp, hne⟩
      · cases h1
      · simp only [List.mem_cons, List.not_mem_nil, or_false] at hp
        subst hp
        exact hne rfl
    · obtain ⟨_, n, hn, _, hvn, A, c, us, r, q, hE, _, he, hL⟩ := h
      have hn2 : n = 2 := by
        have := hvn (aw0 g0 g1 g2) (by simp)
        have e2 : (aw0 g0 g1 g2).vars = 2 := rfl
        omega
      subst hn2
      have hrow : rowsOf [aw0 g0 g1 g2] = [[2, 0], [1, 1]] := rfl
      rw [hrow] at hE
      rw [rows_keep hE, aw_kern] at he hL
      exact ⟨A, c, he, hL, hb⟩
theorem aw_cls : clsL [[1, 1]] [[0, 0], [0, 1], [1, 0]] = [[0], [1, 2]] ∧ clsE [[1, 1]] [[0, 0], [0, 1], [1, 0]] = 0 := by
  have h0 : chk [[1, 1]] [[0, 0], [0, 1], [1, 0]] = 0 := by decide
  refine ⟨?_, ?_⟩
  · unfold clsL
    rw [if_pos ⟨h0, by decide⟩]
    decide +kernel
  · unfold clsE
    rw [if_pos h0]; rfl
theorem lists1 {W : World} {g0 g : Nat} {x y : Int} (b0 : Blk W g0 3 #[.int .i64 x, .int .i64 y]) (b : Blk W g 31 #[.slice (some ⟨g0, 0, none⟩) 2 2]) : Lists W (some ⟨g, 0, none⟩) [[x, y]] :=
  ⟨fun _ => (some ⟨g0, 0, none⟩, 2), sl_blk b rfl, fun i hi => by
    have : i = 0 := by simpa using hi
    subst this
    exact sl_blk b0 rfl⟩
theorem aw_classes (W : World) (g0 g1 g2 g3 g4 g5 : Nat) (b0 : Blk W g0 3 #[.int .i64 1, .int .i64 1]) (b1 : Blk W g1 31 #[.slice (some ⟨g0, 0, none⟩) 2 2])
    (b2 : Blk W g2 3 #[.int .i64 0, .int .i64 0]) (b3 : Blk W g3 3 #[.int .i64 0, .int .i64 1]) (b4 : Blk W g4 3 #[.int .i64 1, .int .i64 0])
    (b5 : Blk W g5 31 #[.slice (some ⟨g2, 0, none⟩) 2 2, .slice (some ⟨g3, 0, none⟩) 2 2, .slice (some ⟨g4, 0, none⟩) 2 2]) :
    Calls Tryz.prog 23 #[.slice (some ⟨g1, 0, none⟩) 1 1, .slice (some ⟨g5, 0, none⟩) 3 3] W fun e w' => ∃ A c, e = .returned (.tuple #[.slice A 2 c, .int .i64 0]) ∧ Lists w' A [[0], [1, 2]] ∧ Below W.heap.size W w' := by
  have hL : Lists W (some ⟨g5, 0, none⟩) [[0, 0], [0, 1], [1, 0]] := by
    refine ⟨fun i => if i = 0 then (some ⟨g2, 0, none⟩, 2) else if i = 1 then (some ⟨g3, 0, none⟩, 2) else (some ⟨g4, 0, none⟩, 2), sl_blk b5 rfl, fun i hi => ?_⟩
    have : i = 0 ∨ i = 1 ∨ i = 2 := by simp at hi; omega
    rcases this with rfl | rfl | rfl
    · exact sl_blk b2 rfl
    · exact sl_blk b3 rfl
    · exact sl_blk b4 rfl
  have := classes_any (some ⟨g1, 0, none⟩) (some ⟨g5, 0, none⟩) 1 3 [[1, 1]] [[0, 0], [0, 1], [1, 0]] W (lists1 b0 b1) hL (by simp) (by simp) (by simp) (by simp)
  rw [aw_cls.1, aw_cls.2] at this
  exact this
theorem aw_l1 (W : World) (A : Option Addr) (c g0 g1 : Nat) (hA : Lists W A [[1, 1]]) (b0 : Blk W g0 3 #[.int .i64 1, .int .i64 1]) (b1 : Blk W g1 31 #[.slice (some ⟨g0, 0, none⟩) 2 2]) :
    Calls Tryz.prog 19 #[.slice A 1 c, .slice (some ⟨g1, 0, none⟩) 1 1] W fun e w' => e = .returned (.bool true) ∧ Below W.heap.size W w' :=
  (lists_any A _ [[1, 1]] [[1, 1]] c 1 W hA (lists1 b0 b1) (by decide) (by simp)).mono fun e w' h => ⟨by rw [h.1]; rfl, h.2.below⟩
theorem aw_l2 (W : World) (A : Option Addr) (c g0 g1 g2 : Nat) (hA : Lists W A [[0], [1, 2]]) (b0 : Blk W g0 3 #[.int .i64 0]) (b1 : Blk W g1 3 #[.int .i64 1, .int .i64 2]) (b2 : Blk W g2 31 #[.slice (some ⟨g0, 0, none⟩) 1 1, .slice (some ⟨g1, 0, none⟩) 2 2]) :
    Calls Tryz.prog 19 #[.slice A 2 c, .slice (some ⟨g2, 0, none⟩) 2 2] W fun e w' => e = .returned (.bool true) ∧ Below W.heap.size W w' := by
  have hL : Lists W (some ⟨g2, 0, none⟩) [[0], [1, 2]] := by
    refine ⟨fun i => if i = 0 then (some ⟨g0, 0, none⟩, 1) else (some ⟨g1, 0, none⟩, 2), sl_blk b2 rfl, fun i hi => ?_⟩
    have : i = 0 ∨ i = 1 := by simp at hi; omega
    rcases this with rfl | rfl
    · exact sl_blk b0 rfl
    · exact sl_blk b1 rfl
  exact (lists_any A _ [[0], [1, 2]] [[0], [1, 2]] c 2 W hA hL (by decide) (by simp)).mono fun e w' h => ⟨by rw [h.1]; rfl, h.2.below⟩
/-- Blocks set down one behind another. -/
def al (w : World) (os : List Obj) : World := os.foldl World.alloc w
theorem al_size (w : World) (os : List Obj) : (al w os).heap.size = w.heap.size + os.length := by
  induction os generalizing w with
  | nil => rfl
  | cons o os ih =>
    have : al w (o :: os) = al (w.alloc o) os := rfl
    rw [this, ih]
    simp; omega
theorem al_below (w : World) (os : List Obj) : Below w.heap.size w (al w os) := by
  induction os generalizing w with
  | nil => exact Below.refl _ _
  | cons o os ih =>
    have : al w (o :: os) = al (w.alloc o) os := rfl
    rw [this]
    exact below_all ((Below.refl _ _).alloc (Nat.le_refl _) _) (ih _)
theorem al_blk (w : World) (os : List Obj) (i : Nat) {t : TypeId} {cs : Array Value} (h : os[i]? = some (.cells cs t)) : Blk (al w os) (w.heap.size + i) t cs := by
  induction os generalizing w i with
  | nil => simp at h
  | cons o os ih =>
    have e : al w (o :: os) = al (w.alloc o) os := rfl
    rw [e]
    cases i with
    | zero =>
      have : o = .cells cs t := by simpa using h
      subst this
      exact (Blk.new w t cs).keep (al_below _ _) (by simp)
    | succ i =>
      have := ih (w.alloc o) i (by simpa using h)
      have e2 : (w.alloc o).heap.size + i = w.heap.size + (i + 1) := by simp; omega
      rwa [e2] at this
theorem aw_signs' (w : World) (hT : Tab w) : Calls Tryz.prog 17 #[.slice (some ⟨w.heap.size + 1 + 1 + 1, 0, none⟩) 1 1]
    ((((w.alloc (.cells #[.int .i64 2, .int .i64 0] 3)).alloc (.cells #[.int .i64 1, .int .i64 1] 3)).alloc (.cells #[.string ⟨#[49]⟩, .slice (some ⟨w.heap.size, 0, none⟩) 2 2, .string ⟨#[49]⟩, .slice (some ⟨w.heap.size + 1, 0, none⟩) 2 2] 87)).alloc (.cells #[.int .i64 2, .slice (some ⟨w.heap.size + 1 + 1, 0, none⟩) 2 2] 40))
    fun e w' => ∃ A c, e = .returned (.tuple #[.slice A 1 c, .int .i64 0]) ∧ Lists w' A [[1, 1]] ∧ Below w.heap.size w w' := by
  let os : List Obj := [.cells #[.int .i64 2, .int .i64 0] 3, .cells #[.int .i64 1, .int .i64 1] 3, .cells #[.string ⟨#[49]⟩, .slice (some ⟨w.heap.size, 0, none⟩) 2 2, .string ⟨#[49]⟩, .slice (some ⟨w.heap.size + 1, 0, none⟩) 2 2] 87, .cells #[.int .i64 2, .slice (some ⟨w.heap.size + 1 + 1, 0, none⟩) 2 2] 40]
  refine (aw_signs (al w os) w.heap.size (w.heap.size + 1) (w.heap.size + 1 + 1) (w.heap.size + 1 + 1 + 1) (al_blk w os 0 rfl) (al_blk w os 1 rfl) (al_blk w os 2 rfl) (al_blk w os 3 rfl) (hT.below (al_below w os) hT.1)).mono ?_
  rintro e w' ⟨A, c, h1, h2, h3⟩
  exact ⟨A, c, h1, h2, below_all (al_below w os) h3⟩
theorem aw_classes' (w : World) : Calls Tryz.prog 23 #[.slice (some ⟨w.heap.size + 1, 0, none⟩) 1 1, .slice (some ⟨w.heap.size + 1 + 1 + 1 + 1 + 1, 0, none⟩) 3 3]
    ((((((w.alloc (.cells #[.int .i64 1, .int .i64 1] 3)).alloc (.cells #[.slice (some ⟨w.heap.size, 0, none⟩) 2 2] 31)).alloc (.cells #[.int .i64 0, .int .i64 0] 3)).alloc (.cells #[.int .i64 0, .int .i64 1] 3)).alloc (.cells #[.int .i64 1, .int .i64 0] 3)).alloc (.cells #[.slice (some ⟨w.heap.size + 1 + 1, 0, none⟩) 2 2, .slice (some ⟨w.heap.size + 1 + 1 + 1, 0, none⟩) 2 2, .slice (some ⟨w.heap.size + 1 + 1 + 1 + 1, 0, none⟩) 2 2] 31))
    fun e w' => ∃ A c, e = .returned (.tuple #[.slice A 2 c, .int .i64 0]) ∧ Lists w' A [[0], [1, 2]] ∧ Below w.heap.size w w' := by
  let os : List Obj := [.cells #[.int .i64 1, .int .i64 1] 3, .cells #[.slice (some ⟨w.heap.size, 0, none⟩) 2 2] 31, .cells #[.int .i64 0, .int .i64 0] 3, .cells #[.int .i64 0, .int .i64 1] 3, .cells #[.int .i64 1, .int .i64 0] 3, .cells #[.slice (some ⟨w.heap.size + 1 + 1, 0, none⟩) 2 2, .slice (some ⟨w.heap.size + 1 + 1 + 1, 0, none⟩) 2 2, .slice (some ⟨w.heap.size + 1 + 1 + 1 + 1, 0, none⟩) 2 2] 31]
  refine (aw_classes (al w os) w.heap.size (w.heap.size + 1) (w.heap.size + 1 + 1) (w.heap.size + 1 + 1 + 1) (w.heap.size + 1 + 1 + 1 + 1) (w.heap.size + 1 + 1 + 1 + 1 + 1) (al_blk w os 0 rfl) (al_blk w os 1 rfl) (al_blk w os 2 rfl) (al_blk w os 3 rfl) (al_blk w os 4 rfl) (al_blk w os 5 rfl)).mono ?_
  rintro e w' ⟨A, c, h1, h2, h3⟩
  exact ⟨A, c, h1, h2, below_all (al_below w os) h3⟩
theorem aw_l1' (w : World) (A : Option Addr) (c : Nat) (hA : Lists w A [[1, 1]]) : Calls Tryz.prog 19 #[.slice A 1 c, .slice (some ⟨w.heap.size + 1, 0, none⟩) 1 1]
    ((w.alloc (.cells #[.int .i64 1, .int .i64 1] 3)).alloc (.cells #[.slice (some ⟨w.heap.size, 0, none⟩) 2 2] 31))
    fun e w' => e = .returned (.bool true) ∧ Below w.heap.size w w' := by
  let os : List Obj := [.cells #[.int .i64 1, .int .i64 1] 3, .cells #[.slice (some ⟨w.heap.size, 0, none⟩) 2 2] 31]
  exact (aw_l1 (al w os) A c w.heap.size (w.heap.size + 1) (hA.keep (al_below w os)) (al_blk w os 0 rfl) (al_blk w os 1 rfl)).mono fun e w' h => ⟨h.1, below_all (al_below w os) h.2⟩
theorem aw_l2' (w : World) (A : Option Addr) (c : Nat) (hA : Lists w A [[0], [1, 2]]) : Calls Tryz.prog 19 #[.slice A 2 c, .slice (some ⟨w.heap.size + 1 + 1, 0, none⟩) 2 2]
    (((w.alloc (.cells #[.int .i64 0] 3)).alloc (.cells #[.int .i64 1, .int .i64 2] 3)).alloc (.cells #[.slice (some ⟨w.heap.size, 0, none⟩) 1 1, .slice (some ⟨w.heap.size + 1, 0, none⟩) 2 2] 31))
    fun e w' => e = .returned (.bool true) ∧ Below w.heap.size w w' := by
  let os : List Obj := [.cells #[.int .i64 0] 3, .cells #[.int .i64 1, .int .i64 2] 3, .cells #[.slice (some ⟨w.heap.size, 0, none⟩) 1 1, .slice (some ⟨w.heap.size + 1, 0, none⟩) 2 2] 31]
  exact (aw_l2 (al w os) A c w.heap.size (w.heap.size + 1) (w.heap.size + 1 + 1) (hA.keep (al_below w os)) (al_blk w os 0 rfl) (al_blk w os 1 rfl) (al_blk w os 2 rfl)).mono fun e w' h => ⟨h.1, below_all (al_below w os) h.2⟩
theorem awake_any (w : World) (hT : Tab w) : Calls Tryz.prog 16 #[] w fun e w' => e = .returned (.bool true) ∧ Below w.heap.size w w' := by
  go_enter Tryz.func16, Tryz.ntmps16
  go_wp2_with (fail)
  refine (aw_signs' w hT).mono ?_
  rintro e w1 ⟨A, c, rfl, hA, hb1⟩
  go_wp2_with (fail)
  refine (aw_classes' w1).mono ?_
  rintro e w2 ⟨B, d, rfl, hB, hb2⟩
  have hA2 := hA.keep hb2
  have hbw2 := below_all hb1 hb2
  clear hA hb1 hb2
  go_wp2_with (fail)
  refine (aw_l1' w2 A c hA2).mono ?_
  rintro e w3 ⟨rfl, hb3⟩
  have hB3 := hB.keep hb3
  have hbw3 := below_all hbw2 hb3
  clear hA2 hB hb3 hbw2
  go_wp2_with (fail)
  refine (aw_l2' w3 B d hB3).mono ?_
  rintro e w4 ⟨rfl, hb4⟩
  go_wp2_with (fail)
  go_ret
  exact ⟨rfl, below_all hbw3 hb4⟩
end Go.Proofs.Tg
