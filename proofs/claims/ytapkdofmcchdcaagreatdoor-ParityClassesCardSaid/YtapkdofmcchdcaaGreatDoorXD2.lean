/- Memory of the reference's classes: keys that stay and classes that grow, all apart. -/
import Derived.Test.YtapkdofmcchdcaaGreatDoorWD3
namespace Go.Proofs.Tg
open Go.RowKit
structure KInv (base : Nat) (KA : Option Addr) (kc : Nat) (K : List (List Int)) (kval : Nat → Value) (C : Option Addr) (cc : Nat) (Cl : List (List Nat)) (val : Nat → Value) (w : World) : Prop where
  fam : Fam base C cc Cl val w
  krow : w.ownsRow base 31 1 (.slice KA K.length kc) K.length ((List.range K.length).map kval)
  kown : ∀ j, j < K.length → w.ownsRow base 3 1 (kval j) (K.getD j []).length ((K.getD j []).map vi)
  ksep : ∀ i j, i < K.length → j < Cl.length → (kval i).ownBlock = none ∨ (kval i).ownBlock ≠ (val j).ownBlock
  rsep : (Value.slice KA K.length kc).ownBlock = none ∨ (Value.slice KA K.length kc).ownBlock ≠ (Value.slice C Cl.length cc).ownBlock
theorem KInv.nil (base : Nat) (w : World) : KInv base none 0 [] (fun _ => .slice none 0 0) none 0 [] (fun _ => .slice none 0 0) w :=
  ⟨Fam.nil _ _, World.ownsRow_nil _ _ _ _, fun j h => absurd h (by simp), fun i j h => absurd h (by simp), .inl rfl⟩
theorem KInv.keep {base : Nat} {KA : Option Addr} {kc : Nat} {K : List (List Int)} {kval : Nat → Value} {C : Option Addr} {cc : Nat} {Cl : List (List Nat)} {val : Nat → Value} {w w' : World} (h : KInv base KA kc K kval C cc Cl val w) (hb : Below w.heap.size w w') : KInv base KA kc K kval C cc Cl val w' :=
  ⟨h.fam.keep hb, own_below h.krow hb (Nat.le_refl _), fun j hj => own_below (h.kown j hj) hb (Nat.le_refl _), h.ksep, h.rsep⟩
theorem KInv.alloc {base : Nat} {KA : Option Addr} {kc : Nat} {K : List (List Int)} {kval : Nat → Value} {C : Option Addr} {cc : Nat} {Cl : List (List Nat)} {val : Nat → Value} {w : World} (h : KInv base KA kc K kval C cc Cl val w) (o : Obj) : KInv base KA kc K kval C cc Cl val (w.alloc o) :=
  h.keep ((Below.refl _ _).alloc (Nat.le_refl _) o)
theorem ne_symm' {a b : Option Nat} (h : a = none ∨ a ≠ b) : b = none ∨ b ≠ a := by
  cases b with
  | none => exact .inl rfl
  | some x =>
    right
    rcases h with h | h
    · rw [h]; simp
    · exact fun e => h e.symm
theorem KInv.pushKey {base : Nat} {KA KA' : Option Addr} {kc kc' : Nat} {K : List (List Int)} {kval : Nat → Value} {C : Option Addr} {cc : Nat} {Cl : List (List Nat)} {val : Nat → Value} {w w' : World} {q : List Int} {kv : Value} (h : KInv base KA kc K kval C cc Cl val w)
    (hq : w.ownsRow base 3 1 kv q.length (q.map vi)) (hqs : ∀ j, j < Cl.length → kv.ownBlock = none ∨ kv.ownBlock ≠ (val j).ownBlock)
    (hr : w'.ownsRow base 31 1 (.slice KA' (K.length + 1) kc') (K.length + 1) ((List.range K.length).map kval ++ [kv])) (hg : w.grownBy w' (Value.slice KA K.length kc).ownBlock)
    (hat : (Value.slice KA' (K.length + 1) kc').ownBlock = (Value.slice KA K.length kc).ownBlock ∨ (Value.slice KA' (K.length + 1) kc').ownBlock = some w.heap.size) :
    KInv base KA' kc' (K ++ [q]) (fun j => if j = K.length then kv else kval j) C cc Cl val w' := by
  have hlen : (K ++ [q]).length = K.length + 1 := by simp
  have hgd : ∀ j, j < K.length + 1 → (K ++ [q]).getD j [] = if j = K.length then q else K.getD j [] := by
    intro j hj
    by_cases e : j = K.length
    · subst e; simp
    · rw [if_neg e]
      simp only [List.getD_eq_getElem?_getD, List.getElem?_append_left (show j < K.length by omega)]
  refine ⟨h.fam.other hg (ne_symm' h.rsep) (fun j hj => own_ne (h.fam.own j hj) h.krow (by decide)), ?_, fun j hj => ?_, fun i j hi hj => ?_, ?_⟩
  · rw [hlen]
    have e : (List.range (K.length + 1)).map (fun j => if j = K.length then kv else kval j) = (List.range K.length).map kval ++ [kv] := by
      rw [List.range_succ, List.map_append]
      congr 1
      · refine List.map_congr_left fun j hj => ?_
        have := List.mem_range.1 hj
        rw [if_neg (by omega)]
      · simp
    rw [e]; exact hr
  · rw [hlen] at hj
    rw [hgd j hj]
    by_cases e : j = K.length
    · rw [if_pos e, if_pos e]
      exact hq.kept hg (own_ne hq h.krow (by decide))
    · rw [if_neg e, if_neg e]
      exact (h.kown j (by omega)).kept hg (own_ne (h.kown j (by omega)) h.krow (by decide))
  · rw [hlen] at hi
    by_cases e : i = K.length
    · rw [if_pos e]; exact hqs j hj
    · rw [if_neg e]; exact h.ksep i j (by omega) hj
  · rw [hlen]
    rcases hat with hx | hx
    · rw [hx]; exact h.rsep
    · right
      rw [hx]
      intro e
      have := (h.fam.row.lt _ e.symm).2
      omega
theorem KInv.pushCls {base : Nat} {KA : Option Addr} {kc : Nat} {K : List (List Int)} {kval : Nat → Value} {C C' : Option Addr} {cc cc' : Nat} {Cl : List (List Nat)} {val : Nat → Value} {w w' : World} (h : KInv base KA kc K kval C cc Cl val w)
    (hr : w'.ownsRow base 31 1 (.slice C' (Cl.length + 1) cc') (Cl.length + 1) ((List.range Cl.length).map val ++ [.slice none 0 0])) (hg : w.grownBy w' (Value.slice C Cl.length cc).ownBlock)
    (hat : (Value.slice C' (Cl.length + 1) cc').ownBlock = (Value.slice C Cl.length cc).ownBlock ∨ (Value.slice C' (Cl.length + 1) cc').ownBlock = some w.heap.size) :
    KInv base KA kc K kval C' cc' (Cl ++ [[]]) (fun j => if j = Cl.length then .slice none 0 0 else val j) w' := by
  have hlen : (Cl ++ [([] : List Nat)]).length = Cl.length + 1 := by simp
  refine ⟨h.fam.push hr hg, h.krow.kept hg h.rsep, fun j hj => (h.kown j hj).kept hg (own_ne (h.kown j hj) h.fam.row (by decide)), fun i j hi hj => ?_, ?_⟩
  · rw [hlen] at hj
    by_cases e : j = Cl.length
    · rw [if_pos e]
      cases hb : (kval i).ownBlock with
      | none => exact .inl rfl
      | some g => exact .inr (by simp [Value.ownBlock])
    · rw [if_neg e]; exact h.ksep i j hi (by omega)
  · rw [hlen]
    rcases hat with hx | hx
    · rw [hx]; exact h.rsep
    · cases hb : (Value.slice KA K.length kc).ownBlock with
      | none => exact .inl rfl
      | some z =>
        right
        rw [hx]
        intro e
        injection e with e
        have := (h.krow.lt z hb).2
        omega
theorem KInv.add {base : Nat} {KA : Option Addr} {kc : Nat} {K : List (List Int)} {kval : Nat → Value} {g : Nat} {cc : Nat} {Cl : List (List Nat)} {val : Nat → Value} {w w' : World} {k i : Nat} {v' : Value} (h : KInv base KA kc K kval (some ⟨g, 0, none⟩) cc Cl val w) (hk : k < Cl.length)
    (hr : w'.ownsRow base 3 1 v' ((Cl.getD k []).length + 1) ((Cl.getD k []).map vn ++ [vn i])) (hg : w.grownBy w' (val k).ownBlock) (hat : v'.ownBlock = (val k).ownBlock ∨ v'.ownBlock = some w.heap.size) :
    KInv base KA kc K kval (some ⟨g, 0, none⟩) cc (Cl.set k (Cl.getD k [] ++ [i])) (fun j => if j = k then v' else val j) (w'.setCell ⟨g, k, none⟩ v') := by
  have hlen : (Cl.set k (Cl.getD k [] ++ [i])).length = Cl.length := by simp
  have hrow' := h.fam.row.kept hg (own_ne h.fam.row (h.fam.own k hk) (by decide))
  have hst := hrow'.stored k v'
  have hkr := h.krow.kept hg (own_ne h.krow (h.fam.own k hk) (by decide))
  refine ⟨h.fam.add hk hr hg hat, ?_, fun j hj => ?_, fun a b ha hb => ?_, ?_⟩
  · exact hkr.kept hst.2 (by
      rcases h.rsep with e | e
      · exact .inl e
      · exact .inr (by simpa [Value.ownBlock] using e))
  · have h1 := (h.kown j hj).kept hg (h.ksep j k hj hk)
    exact h1.kept hst.2 (own_ne h1 hrow' (by decide))
  · rw [hlen] at hb
    by_cases e : b = k
    · rw [if_pos e]
      rcases hat with hx | hx
      · rw [hx]; exact h.ksep a k ha hk
      · cases hbk : (kval a).ownBlock with
        | none => exact .inl rfl
        | some z =>
          right
          rw [hx]
          intro e2
          injection e2 with e2
          have := ((h.kown a ha).lt z hbk).2
          omega
    · rw [if_neg e]; exact h.ksep a b ha hb
  · rw [hlen]; exact h.rsep
end Go.Proofs.Tg
