/- A slice of slices of numbers that a call makes and lets grow: the outer row, the inner rows, all apart. -/
import Derived.Test.YtapkdofmcchdcaaGreatDoorWL1
import Derived.Laws.OwnMore
import Derived.Maps.AppendAt
namespace Go.Proofs.Tg
open Go.RowKit
/-- The outer row holds the slices val j; each is a row of the call's own; no two share a block. -/
structure Fam (base : Nat) (C : Option Addr) (cc : Nat) (Cl : List (List Nat)) (val : Nat → Value) (w : World) : Prop where
  row : w.ownsRow base 31 1 (.slice C Cl.length cc) Cl.length ((List.range Cl.length).map val)
  own : ∀ j, j < Cl.length → w.ownsRow base 3 1 (val j) (Cl.getD j []).length ((Cl.getD j []).map vn)
  sep : ∀ i j, i < Cl.length → j < Cl.length → i ≠ j → (val i).ownBlock = none ∨ (val i).ownBlock ≠ (val j).ownBlock
theorem Fam.nil (base : Nat) (w : World) : Fam base none 0 [] (fun _ => .slice none 0 0) w :=
  ⟨World.ownsRow_nil _ _ _ _, fun j h => absurd h (by simp), fun i j h => absurd h (by simp)⟩
theorem Fam.keep {base : Nat} {C : Option Addr} {cc : Nat} {Cl : List (List Nat)} {val : Nat → Value} {w w' : World} (h : Fam base C cc Cl val w) (hb : Below w.heap.size w w') : Fam base C cc Cl val w' :=
  ⟨own_below h.row hb (Nat.le_refl _), fun j hj => own_below (h.own j hj) hb (Nat.le_refl _), h.sep⟩
theorem Fam.alloc {base : Nat} {C : Option Addr} {cc : Nat} {Cl : List (List Nat)} {val : Nat → Value} {w : World} (h : Fam base C cc Cl val w) (o : Obj) : Fam base C cc Cl val (w.alloc o) :=
  h.keep ((Below.refl _ _).alloc (Nat.le_refl _) o)
/-- Another block was written. -/
theorem Fam.other {base : Nat} {C : Option Addr} {cc : Nat} {Cl : List (List Nat)} {val : Nat → Value} {w w' : World} {row : Option Nat} (h : Fam base C cc Cl val w) (hg : w.grownBy w' row)
    (h1 : (Value.slice C Cl.length cc).ownBlock = none ∨ (Value.slice C Cl.length cc).ownBlock ≠ row) (h2 : ∀ j, j < Cl.length → (val j).ownBlock = none ∨ (val j).ownBlock ≠ row) : Fam base C cc Cl val w' :=
  ⟨h.row.kept hg h1, fun j hj => (h.own j hj).kept hg (h2 j hj), h.sep⟩
/-- A new, empty class. -/
theorem Fam.push {base : Nat} {C C' : Option Addr} {cc cc' : Nat} {Cl : List (List Nat)} {val : Nat → Value} {w w' : World} (h : Fam base C cc Cl val w)
    (hr : w'.ownsRow base 31 1 (.slice C' (Cl.length + 1) cc') (Cl.length + 1) ((List.range Cl.length).map val ++ [.slice none 0 0])) (hg : w.grownBy w' (Value.slice C Cl.length cc).ownBlock) :
    Fam base C' cc' (Cl ++ [[]]) (fun j => if j = Cl.length then .slice none 0 0 else val j) w' := by
  have hlen : (Cl ++ [[]]).length = Cl.length + 1 := by simp
  refine ⟨?_, fun j hj => ?_, fun i j hi hj hne => ?_⟩
  · rw [hlen]
    have e : (List.range (Cl.length + 1)).map (fun j => if j = Cl.length then Value.slice none 0 0 else val j) = (List.range Cl.length).map val ++ [.slice none 0 0] := by
      rw [List.range_succ, List.map_append]
      congr 1
      · refine List.map_congr_left fun j hj => ?_
        have := List.mem_range.1 hj
        rw [if_neg (by omega)]
      · simp
    rw [e]; exact hr
  · rw [hlen] at hj
    by_cases e : j = Cl.length
    · subst e
      rw [if_pos rfl]
      simp only [List.getD_eq_getElem?_getD, List.getElem?_append_right (Nat.le_refl _), Nat.sub_self]
      exact World.ownsRow_nil _ _ _ _
    · rw [if_neg e]
      have e2 : (Cl ++ [[]]).getD j [] = Cl.getD j [] := by
        simp only [List.getD_eq_getElem?_getD, List.getElem?_append_left (show j < Cl.length by omega)]
      rw [e2]
      exact (h.own j (by omega)).kept hg (own_ne (h.own j (by omega)) h.row (by decide))
  · rw [hlen] at hi hj
    by_cases e1 : i = Cl.length
    · rw [if_pos e1]; exact .inl rfl
    · rw [if_neg e1]
      by_cases e2 : j = Cl.length
      · rw [if_pos e2]
        cases hb : (val i).ownBlock with
        | none => exact .inl rfl
        | some g => exact .inr (by simp [Value.ownBlock])
      · rw [if_neg e2]
        exact h.sep i j (by omega) (by omega) hne
/-- A number is appended to class k and the new slice is stored. -/
theorem Fam.add {base : Nat} {g : Nat} {cc : Nat} {Cl : List (List Nat)} {val : Nat → Value} {w w' : World} {k i : Nat} {v' : Value} (h : Fam base (some ⟨g, 0, none⟩) cc Cl val w) (hk : k < Cl.length)
    (hr : w'.ownsRow base 3 1 v' ((Cl.getD k []).length + 1) ((Cl.getD k []).map vn ++ [vn i])) (hg : w.grownBy w' (val k).ownBlock) (hat : v'.ownBlock = (val k).ownBlock ∨ v'.ownBlock = some w.heap.size) :
    Fam base (some ⟨g, 0, none⟩) cc (Cl.set k (Cl.getD k [] ++ [i])) (fun j => if j = k then v' else val j) (w'.setCell ⟨g, k, none⟩ v') := by
  have hlen : (Cl.set k (Cl.getD k [] ++ [i])).length = Cl.length := by simp
  have hrow' := h.row.kept hg (own_ne h.row (h.own k hk) (by decide))
  have hst := hrow'.stored k v'
  have hgd : ∀ j, (Cl.set k (Cl.getD k [] ++ [i])).getD j [] = if j = k then Cl.getD k [] ++ [i] else Cl.getD j [] := by
    intro j
    simp only [List.getD_eq_getElem?_getD, List.getElem?_set]
    by_cases e : k = j
    · subst e; simp [hk]
    · simp [e, Ne.symm e]
  refine ⟨?_, fun j hj => ?_, fun a b ha hb hne => ?_⟩
  · rw [hlen]
    have e : (List.range Cl.length).map (fun j => if j = k then v' else val j) = ((List.range Cl.length).map val).set k v' := by
      refine List.ext_getElem (by simp) fun j h1 h2 => ?_
      simp only [List.getElem_map, List.getElem_range, List.getElem_set]
      by_cases e : k = j
      · subst e; simp
      · simp [e, Ne.symm e]
    rw [e]
    exact hst.1
  · rw [hlen] at hj
    rw [hgd]
    by_cases e : j = k
    · rw [if_pos e, if_pos e]
      have hr2 : w'.ownsRow base 3 1 v' (Cl.getD k [] ++ [i]).length ((Cl.getD k [] ++ [i]).map vn) := by simpa using hr
      exact hr2.kept hst.2 (own_ne hr2 hrow' (by decide))
    · rw [if_neg e, if_neg e]
      have h1 := (h.own j hj).kept hg (h.sep j k hj hk e)
      exact h1.kept hst.2 (own_ne h1 hrow' (by decide))
  · rw [hlen] at ha hb
    have hlt : ∀ j, j < Cl.length → (val j).ownBlock ≠ some w.heap.size := by
      intro j hj e
      have := ((h.own j hj).lt _ e).2
      omega
    by_cases e1 : a = k
    · rw [if_pos e1, if_neg (by omega)]
      rcases hat with hx | hx
      · rw [hx, ← e1]
        exact h.sep a b ha hb hne
      · right; rw [hx]; exact fun e => hlt b hb e.symm
    · rw [if_neg e1]
      by_cases e2 : b = k
      · rw [if_pos e2]
        rcases hat with hx | hx
        · rw [hx, ← e2]
          exact h.sep a b ha hb hne
        · right; rw [hx]; exact hlt a ha
      · rw [if_neg e2]
        exact h.sep a b ha hb hne
def toI (l : List Nat) : List Int := l.map fun x : Nat => (x : Int)
theorem Fam.lists {base : Nat} {C : Option Addr} {cc : Nat} {Cl : List (List Nat)} {val : Nat → Value} {w : World} (h : Fam base C cc Cl val w) : Lists w C (Cl.map toI) := by
  have hsl : ∀ j, j < Cl.length → ∃ A c, val j = .slice A (Cl.getD j []).length c ∧ Sl w A (Cl.getD j []).length 1 ((Cl.getD j []).map vn) := by
    intro j hj
    obtain ⟨A, c, h1, _, h3⟩ := Sl.of_own (h.own j hj)
    exact ⟨A, c, h1, h3⟩
  have hch : ∃ f : Nat → Option Addr × Nat, ∀ j, j < Cl.length → val j = .slice (f j).1 (Cl.getD j []).length (f j).2 ∧ Sl w (f j).1 (Cl.getD j []).length 1 ((Cl.getD j []).map vn) := by
    have : ∀ j, ∃ p : Option Addr × Nat, j < Cl.length → val j = .slice p.1 (Cl.getD j []).length p.2 ∧ Sl w p.1 (Cl.getD j []).length 1 ((Cl.getD j []).map vn) := by
      intro j
      by_cases hj : j < Cl.length
      · obtain ⟨A, c, h1⟩ := hsl j hj
        exact ⟨(A, c), fun _ => h1⟩
      · exact ⟨(none, 0), fun h => absurd h hj⟩
    exact ⟨fun j => Classical.choose (this j), fun j => Classical.choose_spec (this j)⟩
  obtain ⟨f, hf⟩ := hch
  have hgd : ∀ j, j < Cl.length → (Cl.map toI).getD j [] = toI (Cl.getD j []) := by
    intro j hj; simp [hj]
  refine ⟨f, ?_, fun j hj => ?_⟩
  · have := Sl.own h.row
    have e : ((List.range (Cl.map toI).length).map fun i => Value.slice (f i).1 ((Cl.map toI).getD i []).length (f i).2) = (List.range Cl.length).map val := by
      rw [List.length_map]
      refine List.map_congr_left fun j hj => ?_
      have hj := List.mem_range.1 hj
      rw [hgd j hj, (hf j hj).1]
      simp [toI]
    rw [e, List.length_map]
    exact this
  · have hj' : j < Cl.length := by simpa using hj
    rw [hgd j hj']
    have := (hf j hj').2
    have e : (toI (Cl.getD j [])).map vi = (Cl.getD j []).map vn := by simp [toI, vi, vn]
    show Sl w (f j).1 (toI (Cl.getD j [])).length 1 ((toI (Cl.getD j [])).map vi)
    rw [e, show (toI (Cl.getD j [])).length = (Cl.getD j []).length by simp [toI]]
    exact this
end Go.Proofs.Tg
