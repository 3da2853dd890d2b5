/- Sorting rows of the call's own. -/
import Derived.Test.YtamipjpcphghaaaDoorWL
namespace Go.Proofs.Tg
open Go.RowKit Go.Gr
set_option maxHeartbeats 1000000
set_option maxRecDepth 100000
/-- m rows of numbers, each the call's own. -/
def RowsIn (w : World) (base m : Nat) (F : Nat → Option Addr × Nat) (ls : Nat → List Int) : Prop := ∀ i, i < m → w.ownsRow base 3 1 (enc F ls i) (ls i).length ((ls i).map vi)
theorem insertion_nil (w : World) : Calls Tryd.prog 79 #[.slice none 0 0, .int .i64 0, .int .i64 0, .func (.func 56) #[] #[]] w fun e w' => e = .returned (.tuple #[]) ∧ w = w' := by
  go_enter Tryd.func79, Tryd.ntmps79
  go_wp2
  refine wp_loop_rounds 1 ?_
  rw [rounds_succ]
  go_wp2
  go_end0
  exact ⟨rfl, rfl⟩
theorem pdq_nil (lim : Int) (w : World) : Calls Tryd.prog 71 #[.slice none 0 0, .int .i64 0, .int .i64 0, .int .i64 lim, .func (.func 56) #[] #[]] w fun e w' => e = .returned (.tuple #[]) ∧ w = w' := by
  go_enter Tryd.func71, Tryd.ntmps71
  go_wp2
  refine wp_loop_rounds 1 ?_
  rw [rounds_succ]
  go_wp2_with (go_at_call 79; refine (insertion_nil _).mono ?_; rintro e w1 ⟨rfl, rfl⟩)
  (try simp only [Exit.inBlock, Exit.then])
  refine bodyPost_ret (results_none rfl _ _ _) rfl ?_
  exact ⟨rfl, rfl⟩
theorem bitsLen0 (w : World) : Calls Tryd.prog 72 #[.int .u64 0] w fun e w' => (∃ l : Int, e = .returned (.int .i64 l)) ∧ w = w' := bitsLen_any 0 w (by omega)
theorem sort_nil (w : World) : Calls Tryd.prog 55 #[.slice none 0 0, .func (.func 56) #[] #[]] w fun e w' => e = .returned (.tuple #[]) ∧ w = w' := by
  go_enter Tryd.func55, Tryd.ntmps55
  go_wp2_with (first
    | (go_at_call 72; refine (bitsLen0 _).mono ?_; rintro e w' ⟨⟨z, rfl⟩, rfl⟩)
    | (go_at_call 71; refine (pdq_nil _ _).mono ?_; rintro e w1 ⟨rfl, rfl⟩))
  go_end0
  exact ⟨rfl, rfl⟩
def sortedL (lo : List (List Int)) : Prop := ∀ a b, a < b → b < lo.length → ¬ cmpL (lo.getD b []) (lo.getD a []) < 0
def cutF {α : Type} (F : Nat → α) (m : Nat) (z : α) : Nat → α := fun i => if i < m then F i else z
theorem map_cut (F : Nat → Option Addr × Nat) (ls : Nat → List Int) (m : Nat) : (List.range m).map (enc (cutF F m (none, 0)) (cutF ls m [])) = (List.range m).map (enc F ls) := by
  apply List.map_congr_left
  intro i hi
  have : i < m := by simpa using hi
  unfold enc cutF; rw [if_pos this, if_pos this]
theorem sort_rows (R : Option Addr) (m cr base : Nat) (F : Nat → Option Addr × Nat) (ls : Nat → List Int) (w : World) (hR : w.ownsRow base 40 1 (.slice R m cr) m ((List.range m).map (enc F ls))) (hRows : RowsIn w base m F ls) (hm : m ≤ 12)
    (hlen : ∀ i, i < m → (ls i).length ≤ 1000000) :
    Calls Tryd.prog 55 #[.slice R m cr, .func (.func 56) #[] #[]] w fun e w' => e = .returned (.tuple #[]) ∧ ∃ lo : List (List Int), lo.length = m ∧ lo.Perm ((List.range m).map ls) ∧ sortedL lo ∧ Lists w' R lo ∧ Below base w w' := by
  rcases hR.2 with ⟨hv, rfl⟩ | ⟨g, cap, cur, hv, hgb, hg, hmc, _, hcs, htake⟩
  · injection hv with h1 h2 h3
    subst h1; subst h3
    refine (sort_nil w).mono fun e w' ⟨he, hw⟩ => ⟨he, [], rfl, by simp, fun a b _ hb => by simp at hb, ?_, ?_⟩
    · exact ⟨fun _ => (none, 0), ⟨by simp, fun h => by simp at h⟩, fun i hi => by simp at hi⟩
    · rw [← hw]; exact Below.refl _ _
  · injection hv with h1 h2 h3
    subst h1; subst h3
    have hB : Blk w g 40 (rarr (cutF F m (none, 0)) (cutF ls m []) (List.range m) (cur.toList.drop m)) := by
      unfold Blk
      rw [hg, rarr, map_cut, ← htake, Nat.mul_one, List.take_append_drop]
    have hrow : ∀ i, i < m → ∀ w', w.grownBy w' (some g) → Ints w' (F i).1 (ls i) := by
      intro i hi w' hgr
      have h := (hRows i hi).kept hgr (by
        have := own_ne (hRows i hi) hR (by decide)
        simpa [Value.ownBlock] using this)
      have := Sl.own (by unfold enc at h; exact h)
      simpa using this
    have hOK : RowsOk w g (cutF F m (none, 0)) (cutF ls m []) := by
      intro w' hgr i
      unfold cutF
      by_cases hi : i < m
      · rw [if_pos hi, if_pos hi]; exact ⟨hrow i hi w' hgr, hlen i hi⟩
      · rw [if_neg hi, if_neg hi]; exact ⟨⟨by simp, fun h => by simp at h⟩, by simp⟩
    have hs := sort_any g cr (cutF F m (none, 0)) (cutF ls m []) (List.range m) (cur.toList.drop m) w hB hOK (by simpa using hm)
    rw [List.length_range] at hs
    refine hs.mono fun e w' ⟨he, l', hp, hsrt, hB', hgr⟩ => ⟨he, l'.map (cutF ls m []), ?_, ?_, ?_, ?_, ?_⟩
    · simp [hp.length_eq]
    · have e1 : (List.range m).map (cutF ls m []) = (List.range m).map ls := by
        apply List.map_congr_left
        intro i hi
        have : i < m := by simpa using hi
        unfold cutF; rw [if_pos this]
      rw [← e1]; exact hp.map _
    · intro a b hab hb
      have hbl : b < l'.length := by simpa using hb
      have := hsrt a b hab (by rw [List.length_range]; have := hp.length_eq; simp at this; omega)
      simp only [List.getD_eq_getElem?_getD, List.getElem?_map, List.getElem?_eq_getElem hbl, List.getElem?_eq_getElem (show a < l'.length by omega)] at this ⊢
      exact this
    · have hl' : l'.length = m := by have := hp.length_eq; simpa using this
      refine ⟨fun i => cutF F m (none, 0) (l'.getD i 0), ⟨by simp, fun hn => ?_⟩, fun i hi => ?_⟩
      · refine ⟨⟨g, 0, none⟩, rfl, Blk.lt hB', fun j u hu => ?_⟩
        have hj : j < l'.length := by
          rcases Nat.lt_or_ge j l'.length with h | h
          · exact h
          · rw [List.getElem?_eq_none (by simp; omega)] at hu; cases hu
        rw [add_lit, Nat.zero_add, hB'.cell j, rarr_at _ _ _ _ hj, ← hu]
        simp [enc, hj]
      · have hi2 : i < l'.length := by simpa using hi
        have := (hOK w' hgr (l'.getD i 0)).1
        have e2 : (l'.map (cutF ls m [])).getD i [] = cutF ls m [] (l'.getD i 0) := by simp [hi2]
        rw [e2]; exact this
    · exact ⟨hgr.os, hgr.tape, hgr.output, hgr.size, fun k hk => by
        rcases Nat.lt_or_ge k w.heap.size with h | h
        · exact hgr.block k h (by intro e; injection e with e; omega)
        · have hgl := (Array.getElem?_eq_some_iff.1 hg).1; omega⟩
end Go.Proofs.Tg
