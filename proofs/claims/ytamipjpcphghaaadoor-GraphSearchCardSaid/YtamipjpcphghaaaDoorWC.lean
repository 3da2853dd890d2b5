/- The adjacency: 64 sets in a block; connect. -/
import Derived.Test.YtamipjpcphghaaaDoorWB
import Derived.Deep.RegionWith
import Derived.Deep.RegionHeld3
import Derived.Deep.DeepCutAuto
namespace Go.Gr
def upd (A : Nat → Nat) (i s : Nat) : Nat → Nat := fun k => if k = i then s else A k
def connect (A : Nat → Nat) (i j : Nat) : Nat → Nat := upd (upd A i (bset (A i) j)) j (bset (upd A i (bset (A i) j) j) i)
def Small (A : Nat → Nat) : Prop := ∀ i, A i < 18446744073709551616
theorem Small.upd {A : Nat → Nat} (h : Small A) {i s : Nat} (hs : s < 18446744073709551616) : Small (upd A i s) := fun k => by
  unfold Gr.upd; split
  · exact hs
  · exact h k
theorem Small.connect {A : Nat → Nat} (h : Small A) {i j : Nat} (hi : i < 64) (hj : j < 64) : Small (connect A i j) :=
  (h.upd (bset_lt (h i) hj)).upd (bset_lt ((h.upd (bset_lt (h i) hj)) j) hi)
theorem Small.zero : Small (fun _ => 0) := fun _ => by simp
end Go.Gr
namespace Go.Proofs.Tg
open Go.RowKit Go.Gr
def adjA (A : Nat → Nat) : Array Value := ((List.range 64).map fun i => vs (A i)).toArray
theorem adjA_size (A : Nat → Nat) : (adjA A).size = 64 := by simp [adjA]
theorem adjA_at (A : Nat → Nat) {i : Nat} (hi : i < 64) : (adjA A)[i]? = some (.int .u64 (A i : Nat)) := by
  simp [adjA, hi, vs]
theorem adjA_set (A : Nat → Nat) {i : Nat} (_ : i < 64) (s : Nat) : (adjA A).setIfInBounds i (.int .u64 s) = adjA (upd A i s) := by
  apply Array.ext
  · simp [adjA]
  · intro k h1 h2
    rw [Array.getElem_setIfInBounds (by simpa using h1)]
    simp only [adjA, upd, vs, List.getElem_toArray, List.getElem_map, List.getElem_range]
    by_cases hk : i = k
    · subst hk; simp
    · rw [if_neg hk, if_neg (fun e => hk e.symm)]
abbrev AdjAt (w : World) (g : Nat) (A : Nat → Nat) : Prop := Blk w g 56 (adjA A)
theorem AdjAt.cell {w : World} {g : Nat} {A : Nat → Nat} (h : AdjAt w g A) {i : Nat} (hi : i < 64) : w.cell? ⟨g, i, none⟩ = some (.int .u64 (A i : Nat)) := (Blk.cell h i).trans (adjA_at A hi)
set_option maxHeartbeats 1000000
theorem grown_set {w w' : World} {g : Nat} (h : w.grownBy w' (some g)) (i : Nat) (u : Value) : w.grownBy (w'.setCell ⟨g, i, none⟩ u) (some g) :=
  ⟨h.os, h.tape, h.output, by simpa [World.setCell] using h.size, fun k hk hne => (Below.heap_setCell w' ⟨g, i, none⟩ u k (fun e => hne (by rw [e]))).trans (h.block k hk hne)⟩
theorem grown_drew {w w' : World} {row : Option Nat} (h : w.grownBy w' row) : w.grownBy w'.drew row := ⟨h.os, h.tape, h.output, h.size, h.block⟩
theorem grown_drewN {w w' : World} {row : Option Nat} (h : w.grownBy w' row) (n : Nat) : w.grownBy (w'.drewN n) row := ⟨h.os, h.tape, h.output, h.size, h.block⟩
theorem AdjAt.set {w : World} {g : Nat} {A : Nat → Nat} (h : AdjAt w g A) {i : Nat} (hi : i < 64) (s : Nat) : AdjAt (w.setCell ⟨g, i, none⟩ (.int .u64 s)) g (upd A i s) := by
  have := Blk.set h i (.int .u64 s)
  rwa [adjA_set A hi] at this
theorem connect_any (g i j : Nat) (A : Nat → Nat) (w : World) (hA : AdjAt w g A) (hS : Small A) (hi : i < 64) (hj : j < 64) :
    Calls Tryd.prog 40 #[.pointer (some ⟨g, 0, none⟩), .int .i64 i, .int .i64 j] w fun e w' => e = .returned (.tuple #[]) ∧ AdjAt w' g (connect A i j) ∧ w.grownBy w' (some g) := by
  go_enter Tryd.func40, Tryd.ntmps40
  go_upto_region 0 with fail
  go_cut [] (fun wx => AdjAt wx g (upd A i (bset (A i) j)) ∧ w.grownBy wx (some g))
  case first =>
    have hc := hA.cell hi
    have hf := Blk.frozen hA i
    have hs := hS i
    go_region_with (go_at_call 51; refine (with_any _ _ _ hs hj).mono ?_; rintro e w' ⟨rfl, rfl⟩)
    go_wp2_with fail
    go_meet
    exact ⟨Blk.drew (hA.set hi _), grown_drew (grown_set (World.grownBy.refl _ _) i _)⟩
  case rest =>
    obtain ⟨hA1, hg1⟩ := hcut
    have hs := (hS.upd (i := i) (bset_lt (hS i) hj)) j
    have hc := hA1.cell hj
    have hf := Blk.frozen hA1 j
    go_wp2
    go_region_with (go_at_call 51; refine (with_any _ _ _ hs hi).mono ?_; rintro e w' ⟨rfl, rfl⟩)
    go_wp2
    go_end0
    exact ⟨rfl, Blk.drew (hA1.set hj _), grown_drew (grown_set hg1 j _)⟩
end Go.Proofs.Tg
