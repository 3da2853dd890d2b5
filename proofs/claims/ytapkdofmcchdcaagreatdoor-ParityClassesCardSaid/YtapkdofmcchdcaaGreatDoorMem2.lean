/- Words for memory, more: a slice that lies outside a block. -/
import Derived.Test.YtapkdofmcchdcaaGreatDoorMem
namespace Go.Proofs.Tg
open Go.RowKit
/-- The slice does not lie in block g. -/
def Off (A : Option Addr) (n g : Nat) : Prop := 0 < n → ∀ ad, A = some ad → ad.block ≠ g
theorem Sl.off {w : World} {A : Option Addr} {n sz g : Nat} {t : TypeId} {xs : List Value} {cs : Array Value} (h : Sl w A n sz xs) (hsz : 0 < sz) (B : Blk w g t cs) (hd : ∀ v ∈ cs.toList, v ∉ xs) : Off A n g := by
  intro hn ad he hg
  obtain ⟨ad', e, _, ha⟩ := h.lies hn
  rw [he] at e
  injection e with e
  subst e
  have hl : 0 < xs.length := by rw [h.len]; exact Nat.mul_pos hn hsz
  have hc := ha 0 xs[0] (List.getElem?_eq_getElem hl)
  have hb : (ad.add 0).block = g := by rw [add_block]; exact hg
  unfold Blk at B
  unfold World.cell? at hc
  rw [hb, B] at hc
  simp only at hc
  split at hc
  · cases hc
  · have := Array.mem_of_getElem? hc
    exact hd _ (by simpa using this) (List.getElem_mem hl)
theorem Sl.off_new {w : World} {A : Option Addr} {n sz g : Nat} {xs : List Value} (h : Sl w A n sz xs) (hg : w.heap.size ≤ g) : Off A n g := by
  intro hn ad he
  obtain ⟨ad', e, hl, _⟩ := h.lies hn
  rw [he] at e
  injection e with e
  subst e
  omega
theorem Sl.far {w : World} {A : Option Addr} {n sz g : Nat} {xs : List Value} (h : Sl w A n sz xs) (ho : Off A n g) (i : Nat) (u : Value) : Sl (w.setCell ⟨g, i, none⟩ u) A n sz xs :=
  ⟨h.len, fun hn => by
    obtain ⟨ad, e, hl, ha⟩ := h.lies hn
    refine ⟨ad, e, by simpa [World.setCell] using hl, fun j x hx => ?_⟩
    rw [World.cell?_setCell_other _ _ _ _ (fun e' => ho hn ad e (by rw [← add_block ad j, ← e']))]
    exact ha j x hx⟩
theorem Sl.alloc {w : World} {A : Option Addr} {n sz : Nat} {xs : List Value} (h : Sl w A n sz xs) (o : Obj) : Sl (w.alloc o) A n sz xs := h.keep ((Below.refl _ _).alloc (Nat.le_refl _) _)
theorem below_far {w w' : World} {B g : Nat} (h : Below B w w') (hg : B ≤ g) (i : Nat) (u : Value) : Below B w (w'.setCell ⟨g, i, none⟩ u) := h.setCell hg u
end Go.Proofs.Tg
