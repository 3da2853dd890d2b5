/- Parts of the proof: XK1, LR1, LR2, GXG, LR0, LR3. -/
import Derived.Test.YtodapfjmgnekkaaGreatDoorMCSR2
import Derived.Test.YtodapfjmgnekkaaGreatDoorMCSR7
import Derived.Test.YtodapfjmgnekkaaGreatDoorMCSR23
section
/- The reference's leading and orthogonal; the harness's SmallPoly. -/
namespace Go.Ev
/-- Every row is even against v. -/
def orth (rs : List (List Int)) (v : List Int) : Bool := rs.all fun r => dotN r v v.length % 2 == 0
end Go.Ev
namespace Go.Proofs.Tg
open Go.RowKit Go.Gr Go.Ev Go.Mo
set_option maxHeartbeats 4000000
set_option maxRecDepth 100000
theorem Dr.trans {w w' w'' : World} (h : Dr w w') (k : Dr w' w'') : Dr w w'' := by
  obtain ⟨n, rfl⟩ := k
  exact h.drewN n
theorem fidx_hit {l : List Int} {k : Nat} (h : k ≤ l.findIdx (· == 1)) (hk : k < l.length) (hx : l[k] = 1) : l.findIdx (· == 1) = k := by
  by_cases e : k < l.findIdx (· == 1)
  · have := List.not_of_lt_findIdx e
    rw [hx] at this
    cases this
  · omega
theorem fidx_miss {l : List Int} {k : Nat} (h : k ≤ l.findIdx (· == 1)) (hk : k < l.length) (hx : l[k] ≠ 1) : k + 1 ≤ l.findIdx (· == 1) := by
  by_cases e : l.findIdx (· == 1) = k
  · exfalso
    have hlt : l.findIdx (· == 1) < l.length := by omega
    have := List.findIdx_getElem (w := hlt)
    rw [beq_iff_eq] at this
    apply hx
    rw [← this]
    congr 1
    exact e.symm
  · omega
def PVal.few (n m : Nat) (p : PVal) : Prop := p.tv.length ≤ n ∧ ∀ t ∈ p.tv, t.coef.size ≤ m ∧ t.exps.length ≤ 12
theorem spoly_any (p : PVal) (n m : Nat) (b : Bool) (w : World) (hP : TermsAt w p.adr p.tv) (hv : b = true ↔ p.few n m) (hn : n ≤ 1000) (_hm : m ≤ 1000) :
    Calls Tryz.prog 27 #[.agg #[.int .i64 p.vars, .slice p.adr p.tv.length p.cap], .int .i64 n, .int .i64 m] w fun e w' => e = .returned (.bool b) ∧ Below w.heap.size w w' := by
  have hbA : Below w.heap.size w (w.alloc (.cells #[.int .i64 p.vars, .slice p.adr p.tv.length p.cap] 24)) := (Below.refl _ _).alloc (Nat.le_refl _) _
  have hP1 := hP.keep hbA
  have hB := Blk.new w 24 #[.int .i64 p.vars, .slice p.adr p.tv.length p.cap]
  obtain ⟨P, T, cp, tv⟩ := p
  simp only at *
  have HV := Lib.hid hv
  clear hv hP
  by_cases hl : tv.length ≤ n
  · have hd : decide ((n : Int) < (tv.length : Int)) = false := by simp; omega
    have hd' : decide (n < tv.length) = false := by simp; omega
    go_enter Tryz.func27, Tryz.ntmps27
    go_wp2
    generalize w.alloc (.cells #[.int .i64 P, .slice T tv.length cp] 24) = W at hbA hP1 hB
    generalize hg : w.heap.size = G at hB ⊢
    obtain ⟨c0, c1, f0, f1⟩ := hB.two
    have hgl := hB.lt
    have HG := Lib.hid hg
    clear hg hB
    go_loop [7] (fun i => ∃ k : Nat, i = .int .i64 k ∧ k ≤ tv.length ∧ Hid (∀ t ∈ tv.take k, t.coef.size ≤ m ∧ t.exps.length ≤ 12)) (fun i => tv.length - (intOf i).toNat)
    case atStart => exact ⟨0, rfl, Nat.zero_le _, Lib.hid (by simp)⟩
    case round =>
      obtain ⟨k, rfl, hk, HI⟩ := hrel
      by_cases hkl : k < tv.length
      · obtain ⟨ad, rfl, hc1, hc2, _⟩ := TermsAt.at hP1 hkl
        have HM : Hid (tv[k] ∈ tv) := Lib.hid (List.getElem_mem _)
        have HT0 : Hid (tv.take (k + 1) = tv.take k ++ [tv[k]]) := Lib.hid (List.take_succ_eq_append_getElem hkl)
        generalize tv[k] = t at *
        obtain ⟨s, A, ca, el⟩ := t
        simp only at *
        by_cases h1 : s.size ≤ m
        · have hb1 : decide ((m : Int) < (s.size : Int)) = false := by simp; omega
          have hb1' : decide (m < s.size) = false := by simp; omega
          by_cases h2 : el.length ≤ 12
          · have hb2 : decide ((12 : Int) < (el.length : Int)) = false := by simp; omega
            have hb2' : decide (12 < el.length) = false := by simp; omega
            have HG2 : Hid (∀ t ∈ tv.take (k + 1), t.coef.size ≤ m ∧ t.exps.length ≤ 12) := Lib.hid (by
              rw [HT0.out]
              intro l' hl'
              rcases List.mem_append.1 hl' with h | h
              · exact HI.out l' h
              · simp at h; subst h; exact ⟨h1, h2⟩)
            go_wp2
            go_round
            case rel => exact ⟨k + 1, by go_num, by omega, HG2⟩
            case measure => simp [intOf]; omega
          · have hb2 : decide ((12 : Int) < (el.length : Int)) = true := by simp; omega
            have hb2' : decide (12 < el.length) = true := by simp; omega
            obtain rfl : b = false := by
              cases b
              · rfl
              · exact absurd ((HV.out.1 rfl).2 _ HM.out).2 h2
            go_wp2
            go_ret
            exact ⟨rfl, HG.out ▸ hbA⟩
        · have hb1 : decide ((m : Int) < (s.size : Int)) = true := by simp; omega
          have hb1' : decide (m < s.size) = true := by simp; omega
          obtain rfl : b = false := by
            cases b
            · rfl
            · exact absurd ((HV.out.1 rfl).2 _ HM.out).1 h1
          go_wp2
          go_ret
          exact ⟨rfl, HG.out ▸ hbA⟩
      · obtain rfl : k = tv.length := by omega
        obtain rfl : b = true := HV.out.2 ⟨hl, by have := HI.out; rwa [List.take_length] at this⟩
        go_wp2
        go_ret
        exact ⟨rfl, HG.out ▸ hbA⟩
  · have hd : decide ((n : Int) < (tv.length : Int)) = true := by simp; omega
    have hd' : decide (n < tv.length) = true := by simp; omega
    obtain rfl : b = false := by
      cases b
      · rfl
      · exact absurd (HV.out.1 rfl).1 hl
    go_enter Tryz.func27, Tryz.ntmps27
    go_wp2
    go_ret
    exact ⟨rfl, hbA⟩
end Go.Proofs.Tg
end
section
/- The sanity check of the statements on sparsity. -/
namespace Go.Proofs.Tg.Sx
open Go.RowKit Go.Gr Go.Sp Go.Ev Go.Mo Go.Qn
set_option maxHeartbeats 4000000
set_option maxRecDepth 100000
theorem sl_blk {w : World} {g n sz : Nat} {t : TypeId} {xs : List Value} (h : Blk w g t xs.toArray) (hl : xs.length = n * sz) : Sl w (some ⟨g, 0, none⟩) n sz xs :=
  ⟨hl, fun _ => ⟨_, rfl, h.lt, fun j u hu => by rw [add_lit, Nat.zero_add, h.cell j, List.getElem?_toArray]; exact hu⟩⟩
/-- Blocks set down one behind another. -/
def al (w : World) (os : List Obj) : World := os.foldl World.alloc w
theorem al_below (w : World) (os : List Obj) : Below w.heap.size w (al w os) := by
  induction os generalizing w with
  | nil => exact Below.refl _ _
  | cons o os ih =>
    have : al w (o :: os) = al (w.alloc o) os := rfl
    rw [this]
    exact below_all ((Below.refl _ _).alloc (Nat.le_refl _) _) (ih _)
theorem al_blk (w : World) (os : List Obj) (i : Nat) {t : TypeId} {cs : Array Value} (h : os[i]? = some (.cells cs t)) : Blk (al w os) (w.heap.size + i) t cs := by
  induction os generalizing w i with
  | nil => simp at h
  | cons o os ih =>
    have e : al w (o :: os) = al (w.alloc o) os := rfl
    rw [e]
    cases i with
    | zero =>
      have : o = .cells cs t := by simpa using h
      subst this
      exact (Blk.new w t cs).keep (al_below _ _) (by simp)
    | succ i =>
      have := ih (w.alloc o) i (by simpa using h)
      have e2 : (w.alloc o).heap.size + i = w.heap.size + (i + 1) := by simp; omega
      rwa [e2] at this
def one49 : ByteArray := ⟨#[49]⟩
theorem rd_one : rd [49] = some (false, 1, 1) := by decide
theorem coef_one : coefOk one49 = true := by
  unfold coefOk
  have e : one49.data.toList = [49] := rfl
  rw [e, rd_one]; rfl
def awP (g0 g1 g2 g3 : Nat) : PVal := ⟨2, some ⟨g3, 0, none⟩, 3, [⟨one49, some ⟨g0, 0, none⟩, 2, [4, 0]⟩, ⟨one49, some ⟨g1, 0, none⟩, 2, [0, 4]⟩, ⟨one49, some ⟨g2, 0, none⟩, 2, [0, 0]⟩]⟩
theorem awP_ok (g0 g1 g2 g3 : Nat) : (awP g0 g1 g2 g3).ok := by
  refine ⟨by simp [awP], ⟨by simp [awP], by simp [awP], ?_⟩, fun _ => (show vldM [4, 0] = true by decide)⟩
  intro i hi hl
  have h2 : i < 3 := hi
  have t1 : termOk 2 (one49, [4, 0]) = true := by rw [termOk_iff]; exact ⟨coef_one, rfl, by decide⟩
  have t2 : termOk 2 (one49, [0, 4]) = true := by rw [termOk_iff]; exact ⟨coef_one, rfl, by decide⟩
  have t3 : termOk 2 (one49, [0, 0]) = true := by rw [termOk_iff]; exact ⟨coef_one, rfl, by decide⟩
  have : i = 0 ∨ i = 1 ∨ i = 2 := by omega
  rcases this with rfl | rfl | rfl
  · exact ⟨t1, fun h => absurd h (by omega)⟩
  · exact ⟨t2, fun _ => (show 0 < Mo.ord [4, 0] [0, 4] by decide)⟩
  · exact ⟨t3, fun _ => (show 0 < Mo.ord [0, 4] [0, 0] by decide)⟩
theorem aw_err : errS true 2 awB = 0 := by decide
theorem aw_final (h : awB.length ≤ 64) : (rnd awB (S0 awE awB) h).Final bigK 1 ∧ (rnd awB (S0 awE awB) h).B 0 = [[0, 3, 5], [1], [2], [4]] := by
  refine ⟨⟨Nat.le_refl _, by decide, fun t ht => by omega, .inr ?_⟩, ?_⟩
  · rw [rnd_B, rnd_B, aw_c1, show setAt awB (S0 awE awB) (1 - 1) = S0 awE awB from rfl, aw_c0]
  · rw [rnd_B]; exact aw_c0
theorem aw_stable (w : World) (hT : Tab w) : Calls Tryz.prog 13 #[.agg #[.int .i64 2, .slice (some ⟨w.heap.size + 1 + 1 + 1, 0, none⟩) 3 3], .slice (some ⟨w.heap.size + 1 + 1 + 1 + 1 + 1 + 1 + 1 + 1 + 1 + 1 + 1, 0, none⟩) 6 6]
    ((((((((((((w.alloc (.cells #[.int .i64 4, .int .i64 0] 3)).alloc (.cells #[.int .i64 0, .int .i64 4] 3)).alloc (.cells #[.int .i64 0, .int .i64 0] 3)).alloc (.cells #[.string ⟨#[49]⟩, .slice (some ⟨w.heap.size, 0, none⟩) 2 2, .string ⟨#[49]⟩, .slice (some ⟨w.heap.size + 1, 0, none⟩) 2 2, .string ⟨#[49]⟩, .slice (some ⟨w.heap.size + 1 + 1, 0, none⟩) 2 2] 69)).alloc (.cells #[.int .i64 2, .slice (some ⟨w.heap.size + 1 + 1 + 1, 0, none⟩) 3 3] 24)).alloc (.cells #[.int .i64 0, .int .i64 0] 3)).alloc (.cells #[.int .i64 0, .int .i64 1] 3)).alloc (.cells #[.int .i64 1, .int .i64 0] 3)).alloc (.cells #[.int .i64 0, .int .i64 2] 3)).alloc (.cells #[.int .i64 1, .int .i64 1] 3)).alloc (.cells #[.int .i64 2, .int .i64 0] 3)).alloc (.cells #[.slice (some ⟨w.heap.size + 1 + 1 + 1 + 1 + 1, 0, none⟩) 2 2, .slice (some ⟨w.heap.size + 1 + 1 + 1 + 1 + 1 + 1, 0, none⟩) 2 2, .slice (some ⟨w.heap.size + 1 + 1 + 1 + 1 + 1 + 1 + 1, 0, none⟩) 2 2, .slice (some ⟨w.heap.size + 1 + 1 + 1 + 1 + 1 + 1 + 1 + 1, 0, none⟩) 2 2, .slice (some ⟨w.heap.size + 1 + 1 + 1 + 1 + 1 + 1 + 1 + 1 + 1, 0, none⟩) 2 2, .slice (some ⟨w.heap.size + 1 + 1 + 1 + 1 + 1 + 1 + 1 + 1 + 1 + 1, 0, none⟩) 2 2] 36))
    fun e w' => ∃ R c, e = .returned (.tuple #[.slice R 4 c, .int .i64 1, .int .i64 0]) ∧ Lists w' R [[0, 3, 5], [1], [2], [4]] ∧ Below w.heap.size w w' := by
  let os : List Obj := [.cells #[.int .i64 4, .int .i64 0] 3, .cells #[.int .i64 0, .int .i64 4] 3, .cells #[.int .i64 0, .int .i64 0] 3, .cells #[.string ⟨#[49]⟩, .slice (some ⟨w.heap.size, 0, none⟩) 2 2, .string ⟨#[49]⟩, .slice (some ⟨w.heap.size + 1, 0, none⟩) 2 2, .string ⟨#[49]⟩, .slice (some ⟨w.heap.size + 1 + 1, 0, none⟩) 2 2] 69, .cells #[.int .i64 2, .slice (some ⟨w.heap.size + 1 + 1 + 1, 0, none⟩) 3 3] 24, .cells #[.int .i64 0, .int .i64 0] 3, .cells #[.int .i64 0, .int .i64 1] 3, .cells #[.int .i64 1, .int .i64 0] 3, .cells #[.int .i64 0, .int .i64 2] 3, .cells #[.int .i64 1, .int .i64 1] 3, .cells #[.int .i64 2, .int .i64 0] 3, .cells #[.slice (some ⟨w.heap.size + 1 + 1 + 1 + 1 + 1, 0, none⟩) 2 2, .slice (some ⟨w.heap.size + 1 + 1 + 1 + 1 + 1 + 1, 0, none⟩) 2 2, .slice (some ⟨w.heap.size + 1 + 1 + 1 + 1 + 1 + 1 + 1, 0, none⟩) 2 2, .slice (some ⟨w.heap.size + 1 + 1 + 1 + 1 + 1 + 1 + 1 + 1, 0, none⟩) 2 2, .slice (some ⟨w.heap.size + 1 + 1 + 1 + 1 + 1 + 1 + 1 + 1 + 1, 0, none⟩) 2 2, .slice (some ⟨w.heap.size + 1 + 1 + 1 + 1 + 1 + 1 + 1 + 1 + 1 + 1, 0, none⟩) 2 2] 36]
  have hP : TermsAt (al w os) (some ⟨w.heap.size + 1 + 1 + 1, 0, none⟩) (awP w.heap.size (w.heap.size + 1) (w.heap.size + 1 + 1) (w.heap.size + 1 + 1 + 1)).tv := by
    refine ⟨sl_blk (al_blk w os 3 rfl) rfl, fun t ht => ?_⟩
    simp only [awP, List.mem_cons, List.not_mem_nil, or_false] at ht
    rcases ht with rfl | rfl | rfl
    · exact sl_blk (al_blk w os 0 rfl) rfl
    · exact sl_blk (al_blk w os 1 rfl) rfl
    · exact sl_blk (al_blk w os 2 rfl) rfl
  have hB : Lists (al w os) (some ⟨w.heap.size + 1 + 1 + 1 + 1 + 1 + 1 + 1 + 1 + 1 + 1 + 1, 0, none⟩) awB := by
    refine ⟨fun i => if i = 0 then ((some ⟨w.heap.size + 1 + 1 + 1 + 1 + 1, 0, none⟩), 2) else if i = 1 then ((some ⟨w.heap.size + 1 + 1 + 1 + 1 + 1 + 1, 0, none⟩), 2) else if i = 2 then ((some ⟨w.heap.size + 1 + 1 + 1 + 1 + 1 + 1 + 1, 0, none⟩), 2) else if i = 3 then ((some ⟨w.heap.size + 1 + 1 + 1 + 1 + 1 + 1 + 1 + 1, 0, none⟩), 2) else if i = 4 then ((some ⟨w.heap.size + 1 + 1 + 1 + 1 + 1 + 1 + 1 + 1 + 1, 0, none⟩), 2) else ((some ⟨w.heap.size + 1 + 1 + 1 + 1 + 1 + 1 + 1 + 1 + 1 + 1, 0, none⟩), 2), sl_blk (al_blk w os 11 rfl) rfl, fun i hi => ?_⟩
    have hi : i < 6 := hi
    have : i = 0 ∨ i = 1 ∨ i = 2 ∨ i = 3 ∨ i = 4 ∨ i = 5 := by omega
    rcases this with rfl | rfl | rfl | rfl | rfl | rfl
    · exact sl_blk (al_blk w os 5 rfl) rfl
    · exact sl_blk (al_blk w os 6 rfl) rfl
    · exact sl_blk (al_blk w os 7 rfl) rfl
    · exact sl_blk (al_blk w os 8 rfl) rfl
    · exact sl_blk (al_blk w os 9 rfl) rfl
    · exact sl_blk (al_blk w os 10 rfl) rfl
  have hsm : (awP w.heap.size (w.heap.size + 1) (w.heap.size + 1 + 1) (w.heap.size + 1 + 1 + 1)).small := by
    refine ⟨by simp [awP], fun t ht => ?_⟩
    simp only [awP, List.mem_cons, List.not_mem_nil, or_false] at ht
    rcases ht with rfl | rfl | rfl <;> exact ⟨(show one49.size ≤ 19 by decide), (show 2 ≤ 64 by decide)⟩
  have hbl : awB.length ≤ 64 := by decide
  refine (sstable_any (awP w.heap.size (w.heap.size + 1) (w.heap.size + 1 + 1) (w.heap.size + 1 + 1 + 1)) (some ⟨w.heap.size + 1 + 1 + 1 + 1 + 1 + 1 + 1 + 1 + 1 + 1 + 1, 0, none⟩) 6 awB true (al w os) hP hsm hB hbl (by decide) ⟨fun _ => awP_ok _ _ _ _, fun _ => rfl⟩ (hT.below (al_below w os) hT.1)).mono ?_
  rintro e w' ⟨hb, ⟨h, _⟩ | ⟨_, m, R, c, hF, he, hL⟩⟩
  · exact absurd aw_err h
  · obtain ⟨h1, h2⟩ := aw_final hbl
    obtain rfl := hF.uniq h1
    have h3 : (rnd awB (kn (awP w.heap.size (w.heap.size + 1) (w.heap.size + 1 + 1) (w.heap.size + 1 + 1 + 1)) awB) hbl).B (1 - 1) = [[0, 3, 5], [1], [2], [4]] := h2
    rw [h3] at he hL
    exact ⟨R, c, he, hL, below_all (al_below w os) hb⟩
theorem aw_lists (w : World) (A : Option Addr) (c : Nat) (hA : Lists w A [[0, 3, 5], [1], [2], [4]]) : Calls Tryz.prog 14 #[.slice A 4 c, .slice (some ⟨w.heap.size + 1 + 1 + 1 + 1, 0, none⟩) 4 4]
    (((((w.alloc (.cells #[.int .i64 0, .int .i64 3, .int .i64 5] 3)).alloc (.cells #[.int .i64 1] 3)).alloc (.cells #[.int .i64 2] 3)).alloc (.cells #[.int .i64 4] 3)).alloc (.cells #[.slice (some ⟨w.heap.size, 0, none⟩) 3 3, .slice (some ⟨w.heap.size + 1, 0, none⟩) 1 1, .slice (some ⟨w.heap.size + 1 + 1, 0, none⟩) 1 1, .slice (some ⟨w.heap.size + 1 + 1 + 1, 0, none⟩) 1 1] 36))
    fun e w' => e = .returned (.bool true) ∧ Below w.heap.size w w' := by
  let os : List Obj := [.cells #[.int .i64 0, .int .i64 3, .int .i64 5] 3, .cells #[.int .i64 1] 3, .cells #[.int .i64 2] 3, .cells #[.int .i64 4] 3, .cells #[.slice (some ⟨w.heap.size, 0, none⟩) 3 3, .slice (some ⟨w.heap.size + 1, 0, none⟩) 1 1, .slice (some ⟨w.heap.size + 1 + 1, 0, none⟩) 1 1, .slice (some ⟨w.heap.size + 1 + 1 + 1, 0, none⟩) 1 1] 36]
  have hB : Lists (al w os) (some ⟨w.heap.size + 1 + 1 + 1 + 1, 0, none⟩) [[0, 3, 5], [1], [2], [4]] := by
    refine ⟨fun i => if i = 0 then ((some ⟨w.heap.size, 0, none⟩), 3) else if i = 1 then ((some ⟨w.heap.size + 1, 0, none⟩), 1) else if i = 2 then ((some ⟨w.heap.size + 1 + 1, 0, none⟩), 1) else ((some ⟨w.heap.size + 1 + 1 + 1, 0, none⟩), 1), sl_blk (al_blk w os 4 rfl) rfl, fun i hi => ?_⟩
    have hi : i < 4 := hi
    have : i = 0 ∨ i = 1 ∨ i = 2 ∨ i = 3 := by omega
    rcases this with rfl | rfl | rfl | rfl
    · exact sl_blk (al_blk w os 0 rfl) rfl
    · exact sl_blk (al_blk w os 1 rfl) rfl
    · exact sl_blk (al_blk w os 2 rfl) rfl
    · exact sl_blk (al_blk w os 3 rfl) rfl
  refine (lists_any A _ [[0, 3, 5], [1], [2], [4]] [[0, 3, 5], [1], [2], [4]] c 4 (al w os) (hA.keep (al_below w os)) hB (by decide) (by decide)).mono fun e w' h => ⟨by rw [h.1]; rfl, below_all (al_below w os) h.2.below⟩
theorem awake_any (w : World) (hT : Tab w) : Calls Tryz.prog 10 #[] w fun e w' => e = .returned (.bool true) ∧ Below w.heap.size w w' := by
  go_enter Tryz.func10, Tryz.ntmps10
  go_wp2_with (fail)
  refine (aw_stable w hT).mono ?_
  rintro e w1 ⟨A, c, rfl, hA, hb1⟩
  go_wp2_with (fail)
  refine (aw_lists w1 A c hA).mono ?_
  rintro e w2 ⟨rfl, hb2⟩
  go_wp2_with (fail)
  go_ret
  exact ⟨rfl, below_all hb1 hb2⟩
theorem small16_any (p : PVal) (B : Option Addr) (cb : Nat) (b : List (List Int)) (sm : Bool) (w : World) (hP : TermsAt w p.adr p.tv) (hB : Lists w B b) (hsm : sm = true ↔ p.few 8 8 ∧ b.length ≤ 10 ∧ ∀ l ∈ b, l.length ≤ 8) :
    Calls Tryz.prog 9 #[.agg #[.int .i64 p.vars, .slice p.adr p.tv.length p.cap], .slice B b.length cb] w fun e w' => e = .returned (.bool sm) ∧ Below w.heap.size w w' := by
  obtain ⟨q1, h1⟩ : ∃ q1 : Bool, q1 = true ↔ p.few 8 8 := by classical exact ⟨decide (p.few 8 8), decide_eq_true_iff⟩
  obtain ⟨q2, h2⟩ : ∃ q2 : Bool, q2 = true ↔ b.length ≤ 10 ∧ ∀ l ∈ b, l.length ≤ 8 := by classical exact ⟨decide (b.length ≤ 10 ∧ ∀ l ∈ b, l.length ≤ 8), decide_eq_true_iff⟩
  have hbA : Below w.heap.size w (w.alloc (.cells #[.int .i64 p.vars, .slice p.adr p.tv.length p.cap] 24)) := (Below.refl _ _).alloc (Nat.le_refl _) _
  have HSP := Lib.hid (spoly_any p 8 8 q1 _ (hP.keep hbA) h1 (by omega) (by omega))
  have HSL := Lib.hid (fun V (h : Below w.heap.size w V) => small_any B cb 10 8 b q2 V (hB.keep h) h2 (by omega))
  obtain rfl : sm = (q1 && q2) := by
    rw [Bool.eq_iff_iff, hsm, Bool.and_eq_true, h1, h2]
  obtain ⟨P, T, cT, tv⟩ := p
  simp only at *
  clear hsm h1 h2 hP hB
  cases q1 with
  | false =>
    go_enter Tryz.func9, Tryz.ntmps9
    go_wp2_with (go_at_call 27; refine HSP.out.mono ?_; rintro e w1 ⟨rfl, hb1⟩)
    go_ret
    exact ⟨rfl, below_all hbA hb1⟩
  | true =>
    go_enter Tryz.func9, Tryz.ntmps9
    go_wp2_with (first
      | (go_at_call 27; refine HSP.out.mono ?_; rintro e w1 ⟨rfl, hb1⟩
         have hb2 := below_all hbA hb1)
      | (go_at_call 35; refine (HSL.out _ hb2).mono ?_; rintro e w' ⟨rfl, rfl⟩))
    go_ret
    exact ⟨rfl, hb2⟩
end Go.Proofs.Tg.Sx
end
section
/- Whether a list lies in another one: the statements' own function. -/
namespace Go.Proofs.Tg.Sx
open Go.RowKit Go.Gr Go.Sp Go.Ev Go.Mo Go.Qn
set_option maxHeartbeats 4000000
set_option maxRecDepth 100000
theorem subset_any (A B : Option Addr) (ca cb : Nat) (a b : List Int) (q : Bool) (w : World) (hA : Ints w A a) (hB : Ints w B b) (hla : a.length ≤ 1000000) (hlb : b.length ≤ 1000000) (hq : q = true ↔ ∀ x ∈ a, x ∈ b) :
    Calls Tryz.prog 15 #[.slice A a.length ca, .slice B b.length cb] w fun e w' => e = .returned (.bool q) ∧ Dr w w' := by
  have HQ := Lib.hid hq
  clear hq
  go_enter Tryz.func15, Tryz.ntmps15
  go_wp2
  go_loopw [5] (fun s5 wr => ∃ i : Nat, s5 = .int .i64 i ∧ i ≤ a.length ∧ Hid (∀ x ∈ a.take i, x ∈ b) ∧ Dr w wr) (fun s5 _ => a.length - (intOf s5).toNat)
  case atStart => exact ⟨0, rfl, Nat.zero_le _, Lib.hid (by simp), Dr.refl _⟩
  case round =>
    obtain ⟨wo, rfl⟩ : ∃ wo : World, wo = wr := ⟨_, rfl⟩
    obtain ⟨i, rfl, hi, HG, hdr⟩ := hrel
    by_cases hlt : i < a.length
    · have HN : Hid (a[i] ∈ b → ∀ x ∈ a.take (i + 1), x ∈ b) := Lib.hid (all_take (P := fun x => x ∈ b) hlt HG.out)
      have HM : Hid (a[i] ∈ a) := Lib.hid (List.getElem_mem _)
      obtain ⟨ad, rfl, hca0⟩ := Ints.at hA hlt
      generalize a[i] = x at *
      go_wp2
      go_loopw [7, 6] (fun s7 s6 wr => ∃ k : Nat, s7 = .int .i64 k ∧ k ≤ b.length ∧ s6 = .bool (decide (x ∈ b.take k)) ∧ Dr w wr) (fun s7 _ _ => b.length - (intOf s7).toNat)
      case atStart => exact ⟨0, rfl, Nat.zero_le _, by simp, hdr⟩
      case round =>
        clear hdr
        obtain ⟨wp, rfl⟩ : ∃ wp : World, wp = wr := ⟨_, rfl⟩
        obtain ⟨k, rfl, hk, rfl, hdr⟩ := hrel
        by_cases hkl : k < b.length
        · obtain ⟨bd, rfl, hcb0⟩ := Ints.at hB hkl
          have hca := keep_cell hdr.below hca0
          have hcb := keep_cell hdr.below hcb0
          have HTK : Hid (∀ v, v ∈ b.take (k + 1) ↔ v = b[k] ∨ v ∈ b.take k) := Lib.hid (fun v => by rw [← take_mem_succ hkl, List.mem_cons])
          clear hcb0
          generalize b[k] = y at *
          have p0 : (0 : Int) ≤ (i : Int) := by omega
          have p1 : (i : Int) < (a.length : Int) := by omega
          have p3 : ((i : Int)).toNat = i := by omega
          have r0 : (0 : Int) ≤ (k : Int) := by omega
          have r1 : (k : Int) < (b.length : Int) := by omega
          have r3 : ((k : Int)).toNat = k := by omega
          by_cases hin : x ∈ b.take k
          · have HD2 : Hid (decide (x ∈ b.take (k + 1)) = true) := Lib.hid (decide_eq_true ((HTK.out x).2 (.inr hin)))
            have hd : decide (x ∈ b.take k) = true := decide_eq_true hin
            generalize decide (x ∈ b.take k) = fd at *
            subst hd
            clear hin
            go_wp2
            go_quiet (fail)
            go_wp2
            go_roundw
            case rel => exact ⟨k + 1, by go_num, by omega, by rw [HD2.out], hdr.drewN _⟩
            case measure => simp [intOf]; omega
          · have hd : decide (x ∈ b.take k) = false := decide_eq_false hin
            have HD2 : Hid (decide (x ∈ b.take (k + 1)) = (x == y)) := Lib.hid (by
              rw [Bool.eq_iff_iff, decide_eq_true_eq, HTK.out, beq_iff_eq]
              exact ⟨fun h => h.elim id (fun h => absurd h hin), .inl⟩)
            generalize decide (x ∈ b.take k) = fd at *
            subst hd
            clear hin
            go_wp2
            go_quiet (fail)
            go_wp2
            go_roundw
            case rel => exact ⟨k + 1, by go_num, by omega, by rw [HD2.out], hdr.drewN _⟩
            case measure => simp [intOf]; omega
        · obtain rfl : k = b.length := by omega
          rw [List.take_length]
          have dk : decide ((b.length : Int) < (b.length : Int)) = false := by simp
          by_cases hin : x ∈ b
          · have hd : decide (x ∈ b) = true := decide_eq_true hin
            have HG2 := Lib.hid (HN.out hin)
            generalize decide (x ∈ b) = fd at *
            subst hd
            clear hin
            go_wp2
            go_roundw
            case rel => exact ⟨i + 1, by go_num, by omega, HG2, hdr⟩
            case measure => simp [intOf]; omega
          · have hd : decide (x ∈ b) = false := decide_eq_false hin
            obtain rfl : q = false := by
              apply eq_false_of_ne_true
              rw [HQ.out]
              exact fun h => hin (h x HM.out)
            generalize decide (x ∈ b) = fd at *
            subst hd
            clear hin
            go_wp2
            go_ret
            exact ⟨rfl, hdr⟩
    · obtain rfl : i = a.length := by omega
      have dk : decide ((a.length : Int) < (a.length : Int)) = false := by simp
      obtain rfl : q = true := HQ.out.2 (by have := HG.out; rwa [List.take_length] at this)
      go_wp2
      go_ret
      exact ⟨rfl, hdr⟩
end Go.Proofs.Tg.Sx
end
section
/- The statements' Mod and made. -/
namespace Go.Gr
/-- The rest that is not negative. -/
def modZ (a n : Int) : Int := if a.tmod n < 0 then a.tmod n + n else a.tmod n
theorem modZ_in (a : Int) {n : Int} (hn : 0 < n) : 0 ≤ modZ a n ∧ modZ a n < n := by
  have h1 := Int.tmod_lt_of_pos a hn
  have h2 := Int.lt_tmod_of_pos a hn
  unfold modZ
  split <;> omega
/-- The pairs that made keeps. -/
def madeEs (m : Int) (es : List (Int × Int)) : List (Int × Int) := (es.map fun e => (modZ e.1 m, modZ e.2 m)).filter fun e => decide (e.1 ≠ e.2)
theorem madeEs_snoc (m : Int) (es : List (Int × Int)) (a b : Int) : madeEs m (es ++ [(a, b)]) = madeEs m es ++ if modZ a m = modZ b m then [] else [(modZ a m, modZ b m)] := by
  unfold madeEs
  rw [List.map_append, List.filter_append]
  by_cases h : modZ a m = modZ b m <;> simp [h]
theorem madeEs_ok {m : Int} (hm : 0 < m) (h64 : m ≤ 64) (es : List (Int × Int)) : rangeOk m (madeEs m es) ∧ ∀ x ∈ madeEs m es, x.1 ≠ x.2 := by
  refine ⟨⟨⟨by omega, h64⟩, fun e he => ?_⟩, fun x hx => ?_⟩
  · unfold madeEs at he
    obtain ⟨x, _, rfl⟩ := List.mem_map.1 (List.mem_filter.1 he).1
    have h1 := modZ_in x.1 hm
    have h2 := modZ_in x.2 hm
    exact ⟨h1.1, h1.2, h2.1, h2.2⟩
  · unfold madeEs at hx
    simpa using (List.mem_filter.1 hx).2
end Go.Gr
namespace Go.Proofs.Tg.Gx
open Go.RowKit Go.Gr
set_option maxHeartbeats 2000000
set_option maxRecDepth 100000
theorem mod_any (a n : Int) (w : World) (hn : 0 < n) (hn2 : n ≤ 1000) : Calls Tryz.prog 11 #[.int .i64 a, .int .i64 n] w fun e w' => e = .returned (.int .i64 (modZ a n)) ∧ w' = w := by
  have h1 := Int.tmod_lt_of_pos a hn
  have h2 := Int.lt_tmod_of_pos a hn
  have HM : Hid (modZ a n = if a.tmod n < 0 then a.tmod n + n else a.tmod n) := Lib.hid rfl
  have hne : (n == 0) = false := by simp; omega
  by_cases h : a.tmod n < 0
  · have d : decide (a.tmod n < 0) = true := by simpa using h
    rw [if_pos h] at HM
    go_enter Tryz.func11, Tryz.ntmps11
    go_wp2
    go_ret
    exact ⟨by rw [HM.out]; rfl, rfl⟩
  · have d : decide (a.tmod n < 0) = false := by simpa using h
    rw [if_neg h] at HM
    go_enter Tryz.func11, Tryz.ntmps11
    go_wp2
    go_ret
    exact ⟨by rw [HM.out]; rfl, rfl⟩
end Go.Proofs.Tg.Gx
end
section
/- Small polynomials; the lengths of blocks. -/
namespace Go.Proofs.Tg.Sx
open Go.RowKit Go.Gr Go.Sp Go.Ev Go.Mo Go.Qn
set_option maxHeartbeats 4000000
set_option maxRecDepth 100000
theorem few_small {p : PVal} (h : p.few 8 8) : p.small := ⟨by have := h.1; omega, fun t ht => by have := h.2 t ht; omega⟩
theorem B_lens {b S : List (List Int)} (h : b.length ≤ 64) (t : Nat) : ((rnd b S h).B t).length ≤ 64 ∧ ∀ l ∈ (rnd b S h).B t, l.length ≤ 64 := by
  refine ⟨by rw [rnd_B]; exact comps_len h, fun l hl => ?_⟩
  rw [rnd_B] at hl
  have hv := ed_valid b (setAt b S t) h
  have hm := comps_made hv
  have hp : ∀ {k : Nat} {ls : List (List Int)}, MadeL (edTo b (setAt b S t) b.length) k ls → ∀ l ∈ ls, l.Pairwise (· < ·) := by
    intro k ls hM
    induction hM with
    | zero => intro l hl; cases hl
    | skip _ _ ih => exact ih
    | add _ _ p _ ih =>
      intro l hl
      rcases List.mem_append.1 hl with h | h
      · exact ih l h
      · rw [List.mem_singleton.1 h]; exact p
  have hpw := hp hm l hl
  have hnd : l.Nodup := hpw.imp (fun hab e => by omega)
  have hsub : ∀ x ∈ l, x ∈ (List.range b.length).map fun v : Nat => (v : Int) := fun x hx => by
    obtain ⟨v, rfl, hv2⟩ := comps_lt hv l hl x hx
    exact List.mem_map.2 ⟨v, List.mem_range.2 hv2, rfl⟩
  have := hnd.length_le_of_subset hsub
  rw [List.length_map, List.length_range] at this
  omega
end Go.Proofs.Tg.Sx
end
section
/- The statement SparsityRounds, walked. -/
namespace Go.Proofs.Tg.Sx
open Go.RowKit Go.Gr Go.Sp Go.Ev Go.Mo Go.Qn
set_option maxHeartbeats 4000000
set_option maxRecDepth 100000
theorem law_rounds (p : PVal) (B : Option Addr) (cb : Nat) (b : List (List Int)) (k : Int) (w : World) (hP : TermsAt w p.adr p.tv) (hB : Lists w B b) (hT : Tab w) :
    Calls Tryz.prog 3 #[.agg #[.int .i64 p.vars, .slice p.adr p.tv.length p.cap], .slice B b.length cb, .int .i64 k] w fun e w' => e = .returned (.bool true) ∧ Below w.heap.size w w' := by
  obtain ⟨W, hW⟩ : ∃ W, w.alloc (.cells #[.int .i64 p.vars, .slice p.adr p.tv.length p.cap] 24) = W := ⟨_, rfl⟩
  have hbA : Below w.heap.size w W := by rw [← hW]; exact (Below.refl _ _).alloc (Nat.le_refl _) _
  have B0 : Blk W w.heap.size 24 #[.int .i64 p.vars, .slice p.adr p.tv.length p.cap] := by rw [← hW]; exact Blk.new _ _ _
  obtain ⟨sm, hsm⟩ : ∃ sm : Bool, sm = true ↔ p.few 8 8 ∧ b.length ≤ 10 ∧ ∀ l ∈ b, l.length ≤ 8 := by classical exact ⟨decide (p.few 8 8 ∧ b.length ≤ 10 ∧ ∀ l ∈ b, l.length ≤ 8), decide_eq_true_iff⟩
  have HSM := Lib.hid (small16_any p B cb b sm W (hP.keep hbA) (hB.keep hbA) hsm)
  have HAW : Hid (∀ V, Below w.heap.size w V → Calls Tryz.prog 10 #[] V fun e w' => e = .returned (.bool true) ∧ Below V.heap.size V w') := Lib.hid (fun V h => awake_any V (hT.below h hT.1))
  have HWW := Lib.hid hW
  obtain ⟨c0, c1, _, _⟩ := B0.two
  cases sm with
  | false =>
    clear hsm hP hB hW
    generalize p.vars = P at *
    generalize p.adr = T at *
    generalize p.tv.length = L at *
    generalize p.cap = cT at *
    go_enter Tryz.func3, Tryz.ntmps3
    go_upto_region 1 with (fail)
    rw [HWW.out]
    go_wp2_with (first
      | (go_at_call 9; refine HSM.out.mono ?_; rintro e w1 ⟨rfl, hb1⟩
         have hb2 := below_all hbA hb1)
      | (go_at_call 10; refine (HAW.out _ hb2).mono ?_; rintro e w3 ⟨rfl, hb3⟩))
    go_ret
    exact ⟨rfl, below_all hb2 hb3⟩
  | true =>
    obtain ⟨hfew, hbl, hml⟩ := hsm.1 rfl
    obtain ⟨ok, hok⟩ : ∃ ok : Bool, ok = true ↔ p.ok := by classical exact ⟨decide p.ok, decide_eq_true_iff⟩
    have hbl64 : b.length ≤ 64 := by omega
    have hml2 : ∀ m ∈ b, m.length ≤ 1000 := fun m hm => by have := hml m hm; omega
    obtain ⟨er, her⟩ : ∃ er, errS ok p.vars b = er := ⟨_, rfl⟩
    have HBK : Hid (∀ V K, Below w.heap.size w V → Calls Tryz.prog 12 #[.agg #[.int .i64 p.vars, .slice p.adr p.tv.length p.cap], .slice B b.length cb, .int .i64 K] V (RetSB p b hbl64 er K V)) := Lib.hid (fun V K h => by
      rw [← her]; exact sblocks_any p B cb b ok V (hP.keep h) (few_small hfew) (hB.keep h) hbl64 hml2 hok (hT.below h hT.1) K)
    have HSS : Hid (∀ V, Below w.heap.size w V → Calls Tryz.prog 13 #[.agg #[.int .i64 p.vars, .slice p.adr p.tv.length p.cap], .slice B b.length cb] V (RetSS p b hbl64 er V)) := Lib.hid (fun V h => by
      rw [← her]; exact sstable_any p B cb b ok V (hP.keep h) (few_small hfew) (hB.keep h) hbl64 hml2 hok (hT.below h hT.1))
    have HMD := Lib.hid (fun V => Gx.mod_any k 12 V (by omega) (by omega))
    obtain ⟨hz0, hz1⟩ := modZ_in k (show (0 : Int) < 12 by omega)
    generalize modZ k 12 = z at *
    have w1 : IntKind.i64.wrap (z + 1) = z + 1 := IntWalk.i64_in _ (by omega)
    have w2 : IntKind.i64.wrap (z + 1 + 1) = z + 1 + 1 := IntWalk.i64_in _ (by omega)
    by_cases her0 : er = 0
    · subst her0
      have HRL := Lib.hid (fun n k m1 m2 (h1 : (rnd b (kn p b) hbl64).Final bigK n) h2 h3 => (rnd b (kn p b) hbl64).law (k := k) (m1 := m1) (m2 := m2) h1 (by unfold bigK; omega) h2 h3)
      have HSL := Lib.hid (fun n (h : (rnd b (kn p b) hbl64).Final bigK n) => And.intro h.pos ((rnd b (kn p b) hbl64).stable_le h))
      have HLE := Lib.hid (fun t => B_lens (b := b) (S := kn p b) hbl64 t)
      have HB2 : Hid (∀ V K, Below w.heap.size w V → 1 ≤ K → Calls Tryz.prog 12 #[.agg #[.int .i64 p.vars, .slice p.adr p.tv.length p.cap], .slice B b.length cb, .int .i64 K] V fun e w' =>
          ∃ m R c, (rnd b (kn p b) hbl64).Final K.toNat m ∧ e = .returned (.tuple #[.slice R ((rnd b (kn p b) hbl64).B (m - 1)).length c, .int .i64 0]) ∧ Lists w' R ((rnd b (kn p b) hbl64).B (m - 1)) ∧ Below V.heap.size V w') := Lib.hid (fun V K h hK => (HBK.out V K h).mono (by
        rintro e w' ⟨hb, ⟨h, _⟩ | ⟨_, h, _⟩ | ⟨_, _, m, R, c, h1, h2, h3⟩⟩
        · exact absurd rfl h
        · omega
        · exact ⟨m, R, c, h1, h2, h3, hb⟩))
      have HS2 : Hid (∀ V, Below w.heap.size w V → Calls Tryz.prog 13 #[.agg #[.int .i64 p.vars, .slice p.adr p.tv.length p.cap], .slice B b.length cb] V fun e w' =>
          ∃ m R c, (rnd b (kn p b) hbl64).Final bigK m ∧ e = .returned (.tuple #[.slice R ((rnd b (kn p b) hbl64).B (m - 1)).length c, .int .i64 (m : Nat), .int .i64 0]) ∧ Lists w' R ((rnd b (kn p b) hbl64).B (m - 1)) ∧ Below V.heap.size V w') := Lib.hid (fun V h => (HSS.out V h).mono (by
        rintro e w' ⟨hb, ⟨h, _⟩ | ⟨_, m, R, c, h1, h2, h3⟩⟩
        · exact absurd rfl h
        · exact ⟨m, R, c, h1, h2, h3, hb⟩))
      clear HBK HSS hsm hfew hml hml2 hok her hP hB hW
      generalize rnd b (kn p b) hbl64 = RR at *
      generalize p.vars = P at *
      generalize p.adr = T at *
      generalize p.tv.length = L at *
      generalize p.cap = cT at *
      go_enter Tryz.func3, Tryz.ntmps3
      go_upto_region 1 with (fail)
      rw [HWW.out]
      clear HWW
      go_upto_region 4 with (first
        | (go_at_call 9; refine HSM.out.mono ?_; rintro e w1 ⟨rfl, hb1⟩
           have C0 := B0.keep hb1 B0.lt
           obtain ⟨d0, d1, _, _⟩ := C0.two
           have hb2 := below_all hbA hb1)
        | (go_at_call 11; refine (HMD.out _).mono ?_; rintro e w' ⟨rfl, rfl⟩))
      clear c0 c1 B0 HSM HMD hbA hb1
      go_wp2_with (fail)
      refine (HB2.out _ _ hb2 (by omega)).mono ?_
      rintro e w3 ⟨m1, R1, r1, hF1, rfl, hL1, hb3⟩
      have D0 := C0.keep hb3 C0.lt
      obtain ⟨d0, d1, _, _⟩ := D0.two
      have hb3 := below_all hb2 hb3
      clear C0 hb2
      go_wp2_with (fail)
      refine (HB2.out _ _ hb3 (by omega)).mono ?_
      rintro e w4 ⟨m2, R2, r2, hF2, rfl, hL2, hb4⟩
      have E0 := D0.keep hb4 D0.lt
      obtain ⟨d0, d1, _, _⟩ := E0.two
      have hL1 := hL1.keep hb4
      have hb4 := below_all hb3 hb4
      clear D0 hb3
      go_wp2_with (fail)
      refine (HS2.out _ hb4).mono ?_
      rintro e w5 ⟨n, R3, r3, hF3, rfl, hL3, hb5⟩
      have hL1 := hL1.keep hb5
      have hL2 := hL2.keep hb5
      have hb5 := below_all hb4 hb5
      clear E0 hb4 d0 d1
      have hlaw := HRL.out n (z + 1).toNat m1 m2 hF3 hF1 (by rw [show (z + 1).toNat + 1 = (z + 1 + 1).toNat by omega]; exact hF2)
      obtain ⟨hn1, hn2⟩ := HSL.out n hF3
      have hq1 := HLE.out (m1 - 1)
      have hq2 := HLE.out (m2 - 1)
      have hq3 := HLE.out (n - 1)
      clear HRL HSL HLE HB2 HS2 hF1 hF2 hF3
      generalize RR.B (m1 - 1) = Ba at *
      generalize RR.B (m2 - 1) = Bb at *
      generalize RR.B (n - 1) = Bc at *
      obtain ⟨hlw1, hlw2, hlw3⟩ := hlaw
      have HLW := Lib.hid hlw3
      have HLN := Lib.hid (And.intro hq1 hq2)
      clear hlw3
      have HA5 : Hid (∀ V, Dr w5 V → Calls Tryz.prog 10 #[] V fun e w' => e = .returned (.bool true) ∧ Below w.heap.size w w') := Lib.hid (fun V h => (HAW.out V (below_all hb5 h.below)).mono fun e w' h2 => ⟨h2.1, below_all (below_all hb5 h.below) h2.2⟩)
      clear HAW hb5
      have e1 : decide ((n : Int) < 1) = false := decide_eq_false (by omega)
      have w3' : IntKind.i64.wrap ((b.length : Int) + 1) = (b.length : Int) + 1 := IntWalk.i64_in _ (by omega)
      have e2 : decide ((b.length : Int) + 1 < (n : Int)) = false := decide_eq_false (by omega)
      by_cases hnk : (n : Int) ≤ z + 1
      all_goals
        have HNK := Lib.hid hnk
      · obtain ⟨q1, q2⟩ := hlw1 (by omega)
        have hd5 : Dr w5 w5 := Dr.refl _
        have HQ1 : Hid (∀ V, Dr w5 V → Calls Tryz.prog 14 #[.slice R1 Ba.length r1, .slice R3 Bc.length r3] V fun e w' => e = .returned (.bool true) ∧ Dr w5 w') := Lib.hid (fun V h => (lists_any R1 R3 Ba Bc r1 r3 V (hL1.keep h.below) (hL3.keep h.below) (by have := HLN.out.1.1; omega) (fun l hl => by have := HLN.out.1.2 l hl; omega)).mono fun e w' h2 => ⟨by rw [h2.1, decide_eq_true q1], by obtain ⟨x, hx⟩ := h; obtain ⟨y, hy⟩ := h2.2; rw [hy, hx, World.drewN_drewN]; exact ⟨_, rfl⟩⟩)
        have HQ2 : Hid (∀ V, Dr w5 V → Calls Tryz.prog 14 #[.slice R2 Bb.length r2, .slice R3 Bc.length r3] V fun e w' => e = .returned (.bool true) ∧ Dr w5 w') := Lib.hid (fun V h => (lists_any R2 R3 Bb Bc r2 r3 V (hL2.keep h.below) (hL3.keep h.below) (by have := HLN.out.2.1; omega) (fun l hl => by have := HLN.out.2.2 l hl; omega)).mono fun e w' h2 => ⟨by rw [h2.1, decide_eq_true q2], by obtain ⟨x, hx⟩ := h; obtain ⟨y, hy⟩ := h2.2; rw [hy, hx, World.drewN_drewN]; exact ⟨_, rfl⟩⟩)
        have e3 : decide ((n : Int) ≤ z + 1) = true := decide_eq_true hnk
        have e4 : decide (z + 1 < (n : Int)) = false := decide_eq_false (by omega)
        clear q1 q2 hlw1 hlw2 hq1 hq2 hq3 hnk
        go_upto_region 13 with (first
          | (go_at_call 14; with_reducible refine Calls.mono (HQ1.out _ hd5) ?_; rintro e w6 ⟨rfl, hd5⟩)
          | (go_at_call 14; with_reducible refine Calls.mono (HQ2.out _ hd5) ?_; rintro e w7 ⟨rfl, hd5⟩))
        go_wp2
        go_loopw [14] (fun s14 wr => ∃ i : Nat, s14 = .int .i64 i ∧ i ≤ Ba.length ∧ Dr w5 wr) (fun s14 _ => Ba.length - (intOf s14).toNat)
        case atStart => exact ⟨0, rfl, Nat.zero_le _, hd5⟩
        case round =>
          clear hd5
          obtain ⟨wo, rfl⟩ : ∃ wo : World, wo = wr := ⟨_, rfl⟩
          obtain ⟨i, rfl, hi, hdr⟩ := hrel
          have hla := HLN.out.1
          by_cases hlt : i < Ba.length
          · have HLI := Lib.hid (HLW.out Ba[i] (List.getElem_mem _))
            have hll := hla.2 Ba[i] (List.getElem_mem _)
            obtain ⟨rd, A1, a1, rfl, hcA, hIA⟩ := hL1.at hlt
            generalize Ba[i] = l at *
            go_wp2
            go_loopw [16, 15] (fun s16 s15 wr => ∃ (j : Nat) (fd : Bool), s16 = .int .i64 j ∧ j ≤ Bb.length ∧ s15 = .bool fd ∧ Hid (fd = true ↔ ∃ m ∈ Bb.take j, ∀ x ∈ l, x ∈ m) ∧ Dr w5 wr) (fun s16 _ _ => Bb.length - (intOf s16).toNat)
            case atStart => exact ⟨0, false, rfl, Nat.zero_le _, rfl, Lib.hid (by simp), hdr⟩
            case round =>
              clear hdr
              obtain ⟨wp, rfl⟩ : ∃ wp : World, wp = wr := ⟨_, rfl⟩
              obtain ⟨j, fd, rfl, hj, rfl, HFD, hdr⟩ := hrel
              by_cases hjl : j < Bb.length
              · obtain ⟨rd2, A2, a2, rfl, hcB, hIB⟩ := hL2.at hjl
                have hmm := HLN.out.2.2 Bb[j] (List.getElem_mem _)
                have HTK : Hid (∀ v, v ∈ Bb.take (j + 1) ↔ v = Bb[j] ∨ v ∈ Bb.take j) := Lib.hid (fun v => by rw [← take_mem_succ hjl, List.mem_cons])
                have hcA := keep_cell hdr.below hcA
                have hcB := keep_cell hdr.below hcB
                have hIB := hIB
                generalize Bb[j] = m at *
                have p0 : (0 : Int) ≤ (i : Int) := by omega
                have p1 : (i : Int) < (Ba.length : Int) := by omega
                have p3 : ((i : Int)).toNat = i := by omega
                have r0 : (0 : Int) ≤ (j : Int) := by omega
                have r1' : (j : Int) < (Bb.length : Int) := by omega
                have r3' : ((j : Int)).toNat = j := by omega
                have w9 : IntKind.i64.wrap ((j : Int) + 1) = (j : Int) + 1 := IntWalk.i64_in _ (by have := HLN.out.2.1; omega)
                cases fd with
                | true =>
                  have HF2 : Hid (true = true ↔ ∃ m ∈ Bb.take (j + 1), ∀ x ∈ l, x ∈ m) := Lib.hid (iff_of_true rfl (by
                    obtain ⟨m', h1, h2⟩ := HFD.out.1 rfl
                    exact ⟨m', (HTK.out m').2 (.inr h1), h2⟩))
                  go_wp2
                  go_quiet (fail)
                  go_wp2
                  go_roundw
                  case rel => first | exact ⟨j + 1, true, by go_num, by omega, rfl, Lib.hid (by have := HF2.out; simpa using this), hdr.drewN _⟩ | ((repeat apply Exists.intro); exact ⟨⟨j + 1, true, by go_num, by omega, rfl, Lib.hid (by have := HF2.out; simpa using this), hdr.drewN _⟩, rfl⟩)
                  case measure => simp [intOf]; omega
                | false =>
                  obtain ⟨q, hq⟩ : ∃ q : Bool, q = true ↔ ∀ x ∈ l, x ∈ m := ⟨decide (∀ x ∈ l, x ∈ m), decide_eq_true_iff⟩
                  have HSB : Hid (∀ V, Dr wp V → Calls Tryz.prog 15 #[.slice A1 l.length a1, .slice A2 m.length a2] V fun e w' => e = .returned (.bool q) ∧ ∃ y, w' = V.drewN y) := Lib.hid (fun V h =>
                    subset_any A1 A2 a1 a2 l m q V (hIA.keep (below_all hdr.below h.below)) (hIB.keep (below_all hdr.below h.below)) (by omega) (by omega) hq)
                  have HF2 : Hid (q = true ↔ ∃ m ∈ Bb.take (j + 1), ∀ x ∈ l, x ∈ m) := Lib.hid (by
                    rw [hq]
                    constructor
                    · exact fun h => ⟨m, (HTK.out m).2 (.inl rfl), h⟩
                    · rintro ⟨m', h1, h2⟩
                      rcases (HTK.out m').1 h1 with rfl | h3
                      · exact h2
                      · exact absurd (HFD.out.2 ⟨m', h3, h2⟩) (by decide))
                  clear hq hIB
                  cases q
                  all_goals
                    go_wp2
                    go_quiet ((go_at_call 15; exact Calls.quiet_of (HSB.out _ ⟨_, rfl⟩)))
                    go_wp2
                    go_roundw
                    case rel => first | exact ⟨j + 1, _, by go_num, by omega, rfl, Lib.hid (by have := HF2.out; simpa using this), hdr.drewN _⟩ | ((repeat apply Exists.intro); exact ⟨⟨j + 1, _, by go_num, by omega, rfl, Lib.hid (by have := HF2.out; simpa using this), hdr.drewN _⟩, rfl⟩)
                    case measure => simp [intOf]; omega
              · obtain rfl : j = Bb.length := by omega
                have dk : decide ((Bb.length : Int) < (Bb.length : Int)) = false := by simp
                obtain rfl : fd = true := HFD.out.2 (by rw [List.take_length]; exact HLI.out)
                have w9 : IntKind.i64.wrap ((i : Int) + 1) = (i : Int) + 1 := IntWalk.i64_in _ (by omega)
                go_wp2
                go_roundw
                case rel => exact ⟨i + 1, by go_num, by omega, hdr⟩
                case measure => simp [intOf]; omega
          · obtain rfl : i = Ba.length := by omega
            have dk : decide ((Ba.length : Int) < (Ba.length : Int)) = false := by simp
            go_wp2_with (go_at_call 10; refine (HA5.out _ hdr).mono ?_; rintro e w9 ⟨rfl, hb9⟩)
            go_ret
            exact ⟨rfl, hb9⟩
      · have hlt := hlw2 (by omega)
        have hd5 : Dr w5 w5 := Dr.refl _
        have e3 : decide ((n : Int) ≤ z + 1) = false := decide_eq_false hnk
        have e4 : decide (z + 1 < (n : Int)) = true := decide_eq_true (by omega)
        have e5 : decide ((Ba.length : Int) ≤ (Bb.length : Int)) = false := decide_eq_false (by omega)
        have e5' : decide (Ba.length ≤ Bb.length) = false := decide_eq_false (by omega)
        clear hlw1 hlw2 hq1 hq2 hq3 hnk
        go_upto_region 13 with (fail)
        go_wp2
        go_loopw [14] (fun s14 wr => ∃ i : Nat, s14 = .int .i64 i ∧ i ≤ Ba.length ∧ Dr w5 wr) (fun s14 _ => Ba.length - (intOf s14).toNat)
        case atStart => exact ⟨0, rfl, Nat.zero_le _, hd5⟩
        case round =>
          clear hd5
          obtain ⟨wo, rfl⟩ : ∃ wo : World, wo = wr := ⟨_, rfl⟩
          obtain ⟨i, rfl, hi, hdr⟩ := hrel
          have hla := HLN.out.1
          by_cases hlt : i < Ba.length
          · have HLI := Lib.hid (HLW.out Ba[i] (List.getElem_mem _))
            have hll := hla.2 Ba[i] (List.getElem_mem _)
            obtain ⟨rd, A1, a1, rfl, hcA, hIA⟩ := hL1.at hlt
            generalize Ba[i] = l at *
            go_wp2
            go_loopw [16, 15] (fun s16 s15 wr => ∃ (j : Nat) (fd : Bool), s16 = .int .i64 j ∧ j ≤ Bb.length ∧ s15 = .bool fd ∧ Hid (fd = true ↔ ∃ m ∈ Bb.take j, ∀ x ∈ l, x ∈ m) ∧ Dr w5 wr) (fun s16 _ _ => Bb.length - (intOf s16).toNat)
            case atStart => exact ⟨0, false, rfl, Nat.zero_le _, rfl, Lib.hid (by simp), hdr⟩
            case round =>
              clear hdr
              obtain ⟨wp, rfl⟩ : ∃ wp : World, wp = wr := ⟨_, rfl⟩
              obtain ⟨j, fd, rfl, hj, rfl, HFD, hdr⟩ := hrel
              by_cases hjl : j < Bb.length
              · obtain ⟨rd2, A2, a2, rfl, hcB, hIB⟩ := hL2.at hjl
                have hmm := HLN.out.2.2 Bb[j] (List.getElem_mem _)
                have HTK : Hid (∀ v, v ∈ Bb.take (j + 1) ↔ v = Bb[j] ∨ v ∈ Bb.take j) := Lib.hid (fun v => by rw [← take_mem_succ hjl, List.mem_cons])
                have hcA := keep_cell hdr.below hcA
                have hcB := keep_cell hdr.below hcB
                have hIB := hIB
                generalize Bb[j] = m at *
                have p0 : (0 : Int) ≤ (i : Int) := by omega
                have p1 : (i : Int) < (Ba.length : Int) := by omega
                have p3 : ((i : Int)).toNat = i := by omega
                have r0 : (0 : Int) ≤ (j : Int) := by omega
                have r1' : (j : Int) < (Bb.length : Int) := by omega
                have r3' : ((j : Int)).toNat = j := by omega
                have w9 : IntKind.i64.wrap ((j : Int) + 1) = (j : Int) + 1 := IntWalk.i64_in _ (by have := HLN.out.2.1; omega)
                cases fd with
                | true =>
                  have HF2 : Hid (true = true ↔ ∃ m ∈ Bb.take (j + 1), ∀ x ∈ l, x ∈ m) := Lib.hid (iff_of_true rfl (by
                    obtain ⟨m', h1, h2⟩ := HFD.out.1 rfl
                    exact ⟨m', (HTK.out m').2 (.inr h1), h2⟩))
                  go_wp2
                  go_quiet (fail)
                  go_wp2
                  go_roundw
                  case rel => first | exact ⟨j + 1, true, by go_num, by omega, rfl, Lib.hid (by have := HF2.out; simpa using this), hdr.drewN _⟩ | ((repeat apply Exists.intro); exact ⟨⟨j + 1, true, by go_num, by omega, rfl, Lib.hid (by have := HF2.out; simpa using this), hdr.drewN _⟩, rfl⟩)
                  case measure => simp [intOf]; omega
                | false =>
                  obtain ⟨q, hq⟩ : ∃ q : Bool, q = true ↔ ∀ x ∈ l, x ∈ m := ⟨decide (∀ x ∈ l, x ∈ m), decide_eq_true_iff⟩
                  have HSB : Hid (∀ V, Dr wp V → Calls Tryz.prog 15 #[.slice A1 l.length a1, .slice A2 m.length a2] V fun e w' => e = .returned (.bool q) ∧ ∃ y, w' = V.drewN y) := Lib.hid (fun V h =>
                    subset_any A1 A2 a1 a2 l m q V (hIA.keep (below_all hdr.below h.below)) (hIB.keep (below_all hdr.below h.below)) (by omega) (by omega) hq)
                  have HF2 : Hid (q = true ↔ ∃ m ∈ Bb.take (j + 1), ∀ x ∈ l, x ∈ m) := Lib.hid (by
                    rw [hq]
                    constructor
                    · exact fun h => ⟨m, (HTK.out m).2 (.inl rfl), h⟩
                    · rintro ⟨m', h1, h2⟩
                      rcases (HTK.out m').1 h1 with rfl | h3
                      · exact h2
                      · exact absurd (HFD.out.2 ⟨m', h3, h2⟩) (by decide))
                  clear hq hIB
                  cases q
                  all_goals
                    go_wp2
                    go_quiet ((go_at_call 15; exact Calls.quiet_of (HSB.out _ ⟨_, rfl⟩)))
                    go_wp2
                    go_roundw
                    case rel => first | exact ⟨j + 1, _, by go_num, by omega, rfl, Lib.hid (by have := HF2.out; simpa using this), hdr.drewN _⟩ | ((repeat apply Exists.intro); exact ⟨⟨j + 1, _, by go_num, by omega, rfl, Lib.hid (by have := HF2.out; simpa using this), hdr.drewN _⟩, rfl⟩)
                    case measure => simp [intOf]; omega
              · obtain rfl : j = Bb.length := by omega
                have dk : decide ((Bb.length : Int) < (Bb.length : Int)) = false := by simp
                obtain rfl : fd = true := HFD.out.2 (by rw [List.take_length]; exact HLI.out)
                have w9 : IntKind.i64.wrap ((i : Int) + 1) = (i : Int) + 1 := IntWalk.i64_in _ (by omega)
                go_wp2
                go_roundw
                case rel => exact ⟨i + 1, by go_num, by omega, hdr⟩
                case measure => simp [intOf]; omega
          · obtain rfl : i = Ba.length := by omega
            have dk : decide ((Ba.length : Int) < (Ba.length : Int)) = false := by simp
            go_wp2_with (go_at_call 10; refine (HA5.out _ hdr).mono ?_; rintro e w9 ⟨rfl, hb9⟩)
            go_ret
            exact ⟨rfl, hb9⟩
    · have HB2 : Hid (∀ V K, Below w.heap.size w V → Calls Tryz.prog 12 #[.agg #[.int .i64 p.vars, .slice p.adr p.tv.length p.cap], .slice B b.length cb, .int .i64 K] V fun e w' => e = .returned (.tuple #[.slice none 0 0, .int .i64 er]) ∧ Below V.heap.size V w') := Lib.hid (fun V K h => (HBK.out V K h).mono (by
        rintro e w' ⟨hb, ⟨_, h⟩ | ⟨h, _⟩ | ⟨h, _⟩⟩
        · exact ⟨h, hb⟩
        · exact absurd h her0
        · exact absurd h her0))
      have HS2 : Hid (∀ V, Below w.heap.size w V → Calls Tryz.prog 13 #[.agg #[.int .i64 p.vars, .slice p.adr p.tv.length p.cap], .slice B b.length cb] V fun e w' => e = .returned (.tuple #[.slice none 0 0, .int .i64 0, .int .i64 er]) ∧ Below V.heap.size V w') := Lib.hid (fun V h => (HSS.out V h).mono (by
        rintro e w' ⟨hb, ⟨_, h⟩ | ⟨h, _⟩⟩
        · exact ⟨h, hb⟩
        · exact absurd h her0))
      have hne : (er != 0) = true := by simp [her0]
      have hne2 : (er != er) = false := by simp
      clear HBK HSS hsm hfew hml hml2 hok her hP hB hW her0
      generalize p.vars = P at *
      generalize p.adr = T at *
      generalize p.tv.length = L at *
      generalize p.cap = cT at *
      go_enter Tryz.func3, Tryz.ntmps3
      go_upto_region 1 with (fail)
      rw [HWW.out]
      clear HWW
      go_upto_region 4 with (first
        | (go_at_call 9; refine HSM.out.mono ?_; rintro e w1 ⟨rfl, hb1⟩
           have C0 := B0.keep hb1 B0.lt
           obtain ⟨d0, d1, _, _⟩ := C0.two
           have hb2 := below_all hbA hb1)
        | (go_at_call 11; refine (HMD.out _).mono ?_; rintro e w' ⟨rfl, rfl⟩))
      clear c0 c1 B0 HSM HMD hbA hb1
      go_wp2_with (fail)
      refine (HB2.out _ _ hb2).mono ?_
      rintro e w3 ⟨rfl, hb3⟩
      have D0 := C0.keep hb3 C0.lt
      obtain ⟨d0, d1, _, _⟩ := D0.two
      have hb3 := below_all hb2 hb3
      clear C0 hb2
      go_wp2_with (fail)
      refine (HB2.out _ _ hb3).mono ?_
      rintro e w4 ⟨rfl, hb4⟩
      have E0 := D0.keep hb4 D0.lt
      obtain ⟨d0, d1, _, _⟩ := E0.two
      have hb4 := below_all hb3 hb4
      clear D0 hb3
      go_wp2_with (fail)
      refine (HS2.out _ hb4).mono ?_
      rintro e w5 ⟨rfl, hb5⟩
      have hb5 := below_all hb4 hb5
      clear E0 hb4 d0 d1
      go_wp2_with (go_at_call 10; refine (HAW.out _ hb5).mono ?_; rintro e w9 ⟨rfl, hb9⟩)
      go_ret
      exact ⟨rfl, below_all hb5 hb9⟩
end Go.Proofs.Tg.Sx
end
