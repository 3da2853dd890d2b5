/- Parts of the proof: WD2, WD3, WD4, WD5, XD1, XK1, LR1, LR2, QV5. -/
import Derived.Laws.OwnMore
import Derived.Maps.AppendAt
import Derived.Maps.OwnOps
import Derived.Maps.OwnSet
import Derived.Maps.Views
import Derived.Laws.IdiomStrings
import Derived.Laws.BytesArg
import Derived.Carry
import Derived.Test.YtodapfjmgnekkaaGreatDoorMV0
import Derived.Test.YtodapfjmgnekkaaGreatDoorMV1
import Derived.Test.YtodapfjmgnekkaaGreatDoorMV14
import Derived.Test.YtodapfjmgnekkaaGreatDoorMV16
import Derived.Test.YtodapfjmgnekkaaGreatDoorMV18
import Derived.Test.YtodapfjmgnekkaaGreatDoorMV19
section
/- Walks: characters. -/
namespace Go.Proofs.Tg
open Go.RowKit Go.Gr Go.Ev Go.Mo
set_option maxHeartbeats 2000000
set_option maxRecDepth 100000
theorem fill_zero (L : List Int) (k n : Nat) (hn : L.length = n) (hk : k < n) (h : L[k] = 0) : L.take k ++ List.replicate (n - k) 0 = L.take (k + 1) ++ List.replicate (n - (k + 1)) 0 := by
  rw [List.take_succ_eq_append_getElem (by omega), h, show n - k = (n - (k + 1)) + 1 by omega, List.replicate_succ]; simp
theorem fill_set (L : List Int) (k n : Nat) (x : Int) (hn : L.length = n) (hk : k < n) (h : L[k] = x) : (L.take k ++ List.replicate (n - k) 0).set k x = L.take (k + 1) ++ List.replicate (n - (k + 1)) 0 := by
  have hl : (L.take k).length = k := by rw [List.length_take]; omega
  rw [List.take_succ_eq_append_getElem (by omega), h, show n - k = (n - (k + 1)) + 1 by omega, List.replicate_succ, List.set_append_right _ _ (by omega), hl, Nat.sub_self, List.set_cons_zero]; simp
theorem small_of_vld {m : List Int} (h : vldM m = true) : m.length ≤ 6 ∧ ∀ x ∈ m, 0 ≤ x ∧ x ≤ 24 := by
  obtain ⟨h1, h2, h3⟩ := vldM_iff.1 h
  refine ⟨h1, fun x hx => ⟨h2 x hx, ?_⟩⟩
  obtain ⟨i, hi, rfl⟩ := List.mem_iff_getElem.1 hx
  have a := sum_take_le m (i + 1) h2
  rw [sum_take_succ m i hi] at a
  have b := sum_nonneg (m.take i) (fun e he => h2 e (List.mem_of_mem_take he))
  omega
/-- What the character of a monomial is, or the error. -/
def RetChar (s : List (List Int)) (m : List Int) (w : World) (e : Ending) (w' : World) : Prop :=
  ∃ A c, e = .returned (.tuple #[.slice A (if chk s [m] = 0 then chr s m else []).length c, .int .i64 (chk s [m])]) ∧ Ints w' A (if chk s [m] = 0 then chr s m else []) ∧ Below w.heap.size w w'
theorem sl_new {w : World} {g : Nat} {l : List Int} (h : Blk w g 3 (iarr l)) : Ints w (some ⟨g, 0, none⟩) l :=
  ⟨by simp, fun _ => ⟨_, rfl, h.lt, fun j u hu => by rw [add_lit, Nat.zero_add, h.cell j]; simpa [iarr] using hu⟩⟩
theorem lists_one {w : World} {g c : Nat} {A : Option Addr} {m : List Int} (hA : Ints w A m) (h : w.cell? ⟨g, 0, none⟩ = some (.slice A m.length c)) : Lists w (some ⟨g, 0, none⟩) [m] := by
  refine ⟨fun _ => (A, c), ⟨by simp, fun _ => ⟨_, rfl, World.block_lt_of_cell? w _ h, fun j u hu => ?_⟩⟩, fun i hi => ?_⟩
  · match j with
    | 0 =>
      have e : u = .slice A m.length c := by simpa using hu.symm
      subst e
      exact h
    | j + 1 => simp at hu
  · have : i = 0 := by simpa using hi
    subst this
    exact hA
end Go.Proofs.Tg
end
section
/- A slice of slices of numbers that a call makes and lets grow: the outer row, the inner rows, all apart. -/
namespace Go.Proofs.Tg
open Go.RowKit
/-- The outer row holds the slices val j; each is a row of the call's own; no two share a block. -/
structure Fam (base : Nat) (C : Option Addr) (cc : Nat) (Cl : List (List Nat)) (val : Nat → Value) (w : World) : Prop where
  row : w.ownsRow base 36 1 (.slice C Cl.length cc) Cl.length ((List.range Cl.length).map val)
  own : ∀ j, j < Cl.length → w.ownsRow base 3 1 (val j) (Cl.getD j []).length ((Cl.getD j []).map vn)
  sep : ∀ i j, i < Cl.length → j < Cl.length → i ≠ j → (val i).ownBlock = none ∨ (val i).ownBlock ≠ (val j).ownBlock
theorem Fam.nil (base : Nat) (w : World) : Fam base none 0 [] (fun _ => .slice none 0 0) w :=
  ⟨World.ownsRow_nil _ _ _ _, fun j h => absurd h (by simp), fun i j h => absurd h (by simp)⟩
theorem Fam.keep {base : Nat} {C : Option Addr} {cc : Nat} {Cl : List (List Nat)} {val : Nat → Value} {w w' : World} (h : Fam base C cc Cl val w) (hb : Below w.heap.size w w') : Fam base C cc Cl val w' :=
  ⟨own_below h.row hb (Nat.le_refl _), fun j hj => own_below (h.own j hj) hb (Nat.le_refl _), h.sep⟩
theorem Fam.alloc {base : Nat} {C : Option Addr} {cc : Nat} {Cl : List (List Nat)} {val : Nat → Value} {w : World} (h : Fam base C cc Cl val w) (o : Obj) : Fam base C cc Cl val (w.alloc o) :=
  h.keep ((Below.refl _ _).alloc (Nat.le_refl _) o)
/-- Another block was written. -/
theorem Fam.other {base : Nat} {C : Option Addr} {cc : Nat} {Cl : List (List Nat)} {val : Nat → Value} {w w' : World} {row : Option Nat} (h : Fam base C cc Cl val w) (hg : w.grownBy w' row)
    (h1 : (Value.slice C Cl.length cc).ownBlock = none ∨ (Value.slice C Cl.length cc).ownBlock ≠ row) (h2 : ∀ j, j < Cl.length → (val j).ownBlock = none ∨ (val j).ownBlock ≠ row) : Fam base C cc Cl val w' :=
  ⟨h.row.kept hg h1, fun j hj => (h.own j hj).kept hg (h2 j hj), h.sep⟩
/-- A new, empty class. -/
theorem Fam.push {base : Nat} {C C' : Option Addr} {cc cc' : Nat} {Cl : List (List Nat)} {val : Nat → Value} {w w' : World} (h : Fam base C cc Cl val w)
    (hr : w'.ownsRow base 36 1 (.slice C' (Cl.length + 1) cc') (Cl.length + 1) ((List.range Cl.length).map val ++ [.slice none 0 0])) (hg : w.grownBy w' (Value.slice C Cl.length cc).ownBlock) :
    Fam base C' cc' (Cl ++ [[]]) (fun j => if j = Cl.length then .slice none 0 0 else val j) w' := by
  have hlen : (Cl ++ [[]]).length = Cl.length + 1 := by simp
  refine ⟨?_, fun j hj => ?_, fun i j hi hj hne => ?_⟩
  · rw [hlen]
    have e : (List.range (Cl.length + 1)).map (fun j => if j = Cl.length then Value.slice none 0 0 else val j) = (List.range Cl.length).map val ++ [.slice none 0 0] := by
      rw [List.range_succ, List.map_append]
      congr 1
      · refine List.map_congr_left fun j hj => ?_
        have := List.mem_range.1 hj
        rw [if_neg (by omega)]
      · simp
    rw [e]; exact hr
  · rw [hlen] at hj
    by_cases e : j = Cl.length
    · subst e
      rw [if_pos rfl]
      simp only [List.getD_eq_getElem?_getD, List.getElem?_append_right (Nat.le_refl _), Nat.sub_self]
      exact World.ownsRow_nil _ _ _ _
    · rw [if_neg e]
      have e2 : (Cl ++ [[]]).getD j [] = Cl.getD j [] := by
        simp only [List.getD_eq_getElem?_getD, List.getElem?_append_left (show j < Cl.length by omega)]
      rw [e2]
      exact (h.own j (by omega)).kept hg (own_ne (h.own j (by omega)) h.row (by decide))
  · rw [hlen] at hi hj
    by_cases e1 : i = Cl.length
    · rw [if_pos e1]; exact .inl rfl
    · rw [if_neg e1]
      by_cases e2 : j = Cl.length
      · rw [if_pos e2]
        cases hb : (val i).ownBlock with
        | none => exact .inl rfl
        | some g => exact .inr (by simp [Value.ownBlock])
      · rw [if_neg e2]
        exact h.sep i j (by omega) (by omega) hne
/-- A number is appended to class k and the new slice is stored. -/
theorem Fam.add {base : Nat} {g : Nat} {cc : Nat} {Cl : List (List Nat)} {val : Nat → Value} {w w' : World} {k i : Nat} {v' : Value} (h : Fam base (some ⟨g, 0, none⟩) cc Cl val w) (hk : k < Cl.length)
    (hr : w'.ownsRow base 3 1 v' ((Cl.getD k []).length + 1) ((Cl.getD k []).map vn ++ [vn i])) (hg : w.grownBy w' (val k).ownBlock) (hat : v'.ownBlock = (val k).ownBlock ∨ v'.ownBlock = some w.heap.size) :
    Fam base (some ⟨g, 0, none⟩) cc (Cl.set k (Cl.getD k [] ++ [i])) (fun j => if j = k then v' else val j) (w'.setCell ⟨g, k, none⟩ v') := by
  have hlen : (Cl.set k (Cl.getD k [] ++ [i])).length = Cl.length := by simp
  have hrow' := h.row.kept hg (own_ne h.row (h.own k hk) (by decide))
  have hst := hrow'.stored k v'
  have hgd : ∀ j, (Cl.set k (Cl.getD k [] ++ [i])).getD j [] = if j = k then Cl.getD k [] ++ [i] else Cl.getD j [] := by
    intro j
    simp only [List.getD_eq_getElem?_getD, List.getElem?_set]
    by_cases e : k = j
    · subst e; simp [hk]
    · simp [e, Ne.symm e]
  refine ⟨?_, fun j hj => ?_, fun a b ha hb hne => ?_⟩
  · rw [hlen]
    have e : (List.range Cl.length).map (fun j => if j = k then v' else val j) = ((List.range Cl.length).map val).set k v' := by
      refine List.ext_getElem (by simp) fun j h1 h2 => ?_
      simp only [List.getElem_map, List.getElem_range, List.getElem_set]
      by_cases e : k = j
      · subst e; simp
      · simp [e, Ne.symm e]
    rw [e]
    exact hst.1
  · rw [hlen] at hj
    rw [hgd]
    by_cases e : j = k
    · rw [if_pos e, if_pos e]
      have hr2 : w'.ownsRow base 3 1 v' (Cl.getD k [] ++ [i]).length ((Cl.getD k [] ++ [i]).map vn) := by simpa using hr
      exact hr2.kept hst.2 (own_ne hr2 hrow' (by decide))
    · rw [if_neg e, if_neg e]
      have h1 := (h.own j hj).kept hg (h.sep j k hj hk e)
      exact h1.kept hst.2 (own_ne h1 hrow' (by decide))
  · rw [hlen] at ha hb
    have hlt : ∀ j, j < Cl.length → (val j).ownBlock ≠ some w.heap.size := by
      intro j hj e
      have := ((h.own j hj).lt _ e).2
      omega
    by_cases e1 : a = k
    · rw [if_pos e1, if_neg (by omega)]
      rcases hat with hx | hx
      · rw [hx, ← e1]
        exact h.sep a b ha hb hne
      · right; rw [hx]; exact fun e => hlt b hb e.symm
    · rw [if_neg e1]
      by_cases e2 : b = k
      · rw [if_pos e2]
        rcases hat with hx | hx
        · rw [hx, ← e2]
          exact h.sep a b ha hb hne
        · right; rw [hx]; exact hlt a ha
      · rw [if_neg e2]
        exact h.sep a b ha hb hne
def toI (l : List Nat) : List Int := l.map fun x : Nat => (x : Int)
theorem Fam.lists {base : Nat} {C : Option Addr} {cc : Nat} {Cl : List (List Nat)} {val : Nat → Value} {w : World} (h : Fam base C cc Cl val w) : Lists w C (Cl.map toI) := by
  have hsl : ∀ j, j < Cl.length → ∃ A c, val j = .slice A (Cl.getD j []).length c ∧ Sl w A (Cl.getD j []).length 1 ((Cl.getD j []).map vn) := by
    intro j hj
    obtain ⟨A, c, h1, _, h3⟩ := Sl.of_own (h.own j hj)
    exact ⟨A, c, h1, h3⟩
  have hch : ∃ f : Nat → Option Addr × Nat, ∀ j, j < Cl.length → val j = .slice (f j).1 (Cl.getD j []).length (f j).2 ∧ Sl w (f j).1 (Cl.getD j []).length 1 ((Cl.getD j []).map vn) := by
    have : ∀ j, ∃ p : Option Addr × Nat, j < Cl.length → val j = .slice p.1 (Cl.getD j []).length p.2 ∧ Sl w p.1 (Cl.getD j []).length 1 ((Cl.getD j []).map vn) := by
      intro j
      by_cases hj : j < Cl.length
      · obtain ⟨A, c, h1⟩ := hsl j hj
        exact ⟨(A, c), fun _ => h1⟩
      · exact ⟨(none, 0), fun h => absurd h hj⟩
    exact ⟨fun j => Classical.choose (this j), fun j => Classical.choose_spec (this j)⟩
  obtain ⟨f, hf⟩ := hch
  have hgd : ∀ j, j < Cl.length → (Cl.map toI).getD j [] = toI (Cl.getD j []) := by
    intro j hj; simp [hj]
  refine ⟨f, ?_, fun j hj => ?_⟩
  · have := Sl.own h.row
    have e : ((List.range (Cl.map toI).length).map fun i => Value.slice (f i).1 ((Cl.map toI).getD i []).length (f i).2) = (List.range Cl.length).map val := by
      rw [List.length_map]
      refine List.map_congr_left fun j hj => ?_
      have hj := List.mem_range.1 hj
      rw [hgd j hj, (hf j hj).1]
      simp [toI]
    rw [e, List.length_map]
    exact this
  · have hj' : j < Cl.length := by simpa using hj
    rw [hgd j hj']
    have := (hf j hj').2
    have e : (toI (Cl.getD j [])).map vi = (Cl.getD j []).map vn := by simp [toI, vi, vn]
    show Sl w (f j).1 (toI (Cl.getD j [])).length 1 ((toI (Cl.getD j [])).map vi)
    rw [e, show (toI (Cl.getD j [])).length = (Cl.getD j []).length by simp [toI]]
    exact this
end Go.Proofs.Tg
end
section
/- Walks: classes of monomials. -/
namespace Go.Proofs.Tg
open Go.RowKit Go.Gr Go.Ev Go.Mo
open Go.ChangeShapes Go.WideShapes
set_option maxHeartbeats 4000000
set_option maxRecDepth 100000
/-- A character as a key. -/
def kb (q : List Int) : List UInt8 := q.map fun x => UInt8.ofNat x.toNat
theorem kb_inj : ∀ {p q : List Int}, Bit01 p → Bit01 q → kb p = kb q → p = q
  | [], [], _, _, _ => rfl
  | [], _ :: _, _, _, h => by simp [kb] at h
  | _ :: _, [], _, _, h => by simp [kb] at h
  | x :: p, y :: q, hp, hq, h => by
    simp only [kb, List.map_cons, List.cons.injEq] at h
    have h2 := kb_inj (p := p) (q := q) (fun z hz => hp z (by simp [hz])) (fun z hz => hq z (by simp [hz])) h.2
    have hx := hp x (by simp)
    have hy := hq y (by simp)
    have h1 := h.1
    rw [h2]
    congr 1
    rcases hx with rfl | rfl <;> rcases hy with rfl | rfl
    · rfl
    · exact absurd h1 (by decide)
    · exact absurd h1 (by decide)
    · rfl
def MapOK (K : List (List Int)) (D : DataW Unit) : Prop :=
  Maps.IsMap D ∧ ∀ q, Bit01 q → (Maps.has D (.string (kb q)) = decide (q ∈ K)) ∧ (q ∈ K → D.atKey (.string (kb q)) (.lit (.int .i64 0)) = .lit (.int .i64 (K.idxOf q : Nat)))
theorem MapOK.nil : MapOK [] (.map []) := ⟨Maps.isMap_empty, fun q _ => ⟨by simp [Maps.has_eq], fun h => by cases h⟩⟩
theorem MapOK.put {K : List (List Int)} {D : DataW Unit} (h : MapOK K D) (_hK : ∀ k ∈ K, Bit01 k) {q : List Int} (hq : Bit01 q) (hn : q ∉ K) : MapOK (K ++ [q]) (D.put (.string (kb q)) (.lit (.int .i64 (K.length : Nat)))) := by
  refine ⟨h.1.put _ _, fun p hp => ?_⟩
  by_cases e : p = q
  · subst e
    refine ⟨by rw [Maps.has_put_same h.1 (by simp [WideAt.IsKeyLit])]; simp, fun _ => ?_⟩
    rw [Maps.atKey_put_same h.1 (by simp [WideAt.IsKeyLit]), List.idxOf_append, if_neg hn]
    simp
  · have hne : (Lit.string (kb p)) ≠ .string (kb q) := fun e2 => by
      injection e2 with e2
      exact e (kb_inj hp hq e2)
    refine ⟨by rw [Maps.has_put_other hne, (h.2 p hp).1]; simp [e], fun hm => ?_⟩
    have hm' : p ∈ K := by simpa [e] using hm
    rw [Maps.atKey_put_other hne, (h.2 p hp).2 hm', List.idxOf_append, if_pos hm']
theorem own_map_ne {w : World} {base : Nat} {t : TypeId} {sz n : Nat} {v : Value} {xs : List Value} {P : Program} {k : TypeId} {R : Value → Option (DataW Unit × List MemPlace)} {b m : Nat} {D : DataW Unit} (h : w.ownsRow base t sz v n xs) (hm : w.ownsMap P k R b m D) : v.ownBlock = none ∨ v.ownBlock ≠ some b := by
  rcases h.2 with ⟨rfl, _⟩ | ⟨g, cap, cur, rfl, _, hg, _⟩
  · exact .inl rfl
  · right
    intro e
    have : g = b := by simpa [Value.ownBlock] using e
    subst this
    obtain ⟨es, cl, hb, _⟩ := hm
    rw [hg] at hb
    cases hb
theorem map_ne_own {w : World} {base : Nat} {t : TypeId} {sz n : Nat} {v : Value} {xs : List Value} {P : Program} {k : TypeId} {R : Value → Option (DataW Unit × List MemPlace)} {b m : Nat} {D : DataW Unit} (h : w.ownsRow base t sz v n xs) (hm : w.ownsMap P k R b m D) : some b ≠ v.ownBlock := by
  rcases own_map_ne h hm with e | e
  · rw [e]; simp
  · exact fun e2 => e e2.symm
theorem map_keep {w w' : World} {P : Program} {k : TypeId} {R : Value → Option (DataW Unit × List MemPlace)} {b m : Nat} {D : DataW Unit} (hm : w.ownsMap P k R b m D) (hb : Below w.heap.size w w') : w'.ownsMap P k R b m D :=
  hm.kept (row := none) ⟨hb.os, hb.tape, hb.output, hb.size, fun k hk _ => hb.block k hk⟩ (by simp)
def vb (c : UInt8) : Value := .int .u8 (c.toNat : Int)
theorem byte_info : (Tryz.prog.info? 5).map (fun i => (i.zero, i.size, i.bytes)) = some (some (.int .u8 0), 1, 1) := by kernel_rfl
/-- The bytes of a slice as a text. -/
theorem conv_name (w : World) (A : Option Addr) (c : Nat) (l : List UInt8) (h : Sl w A l.length 1 (l.map vb)) : (convert 193 9 (.slice A l.length c)).run Tryz.prog w = .ok (.string (bs l)) w := by
  by_cases h0 : l = []
  · subst h0
    cases A with
    | none => exact run_convert_bytes_nil w _ 5 Tryz.underlying193 Tryz.underlying5 0 c _ Tryz.underlying9
    | some ad => exact run_convert_bytes_back w _ _ 5 ad c [] Tryz.underlying193 Tryz.underlying5 Tryz.underlying9 (fun j hj => by simp at hj)
  · obtain ⟨ad, rfl, _, ha⟩ := h.lies (List.length_pos_iff.2 h0)
    exact run_convert_bytes_back w _ _ 5 ad c l Tryz.underlying193 Tryz.underlying5 Tryz.underlying9 (fun j hj => ha j _ (by simp [hj, vb]))
theorem zero_int (w : World) : (zeroValue 3).run Tryz.prog w = .ok (.int .i64 0) w := by kernel_rfl
end Go.Proofs.Tg
end
section
/- Walks: classes of monomials. -/
namespace Go.Proofs.Tg
open Go.RowKit Go.Gr Go.Ev Go.Mo
open Go.ChangeShapes Go.WideShapes
set_option maxHeartbeats 4000000
set_option maxRecDepth 100000
theorem clsSt_bits {ks : List (List Int)} (h : ∀ k ∈ ks, Bit01 k) : ∀ i, i ≤ ks.length → ∀ k ∈ (clsSt ks i).1, Bit01 k
  | 0, _, k, hk => by simp [clsSt] at hk
  | i + 1, hi, k, hk => by
    have ih := clsSt_bits h i (by omega)
    by_cases hc : (clsSt ks i).1.idxOf (ks.getD i []) < (clsSt ks i).1.length
    · rw [clsSt_old hc] at hk; exact ih k hk
    · rw [clsSt_new hc] at hk
      rcases List.mem_append.1 hk with h2 | h2
      · exact ih k h2
      · simp only [List.mem_cons, List.not_mem_nil, or_false] at h2
        subst h2
        have hi' : i < ks.length := by omega
        rw [List.getD_eq_getElem?_getD, List.getElem?_eq_getElem hi', Option.getD_some]
        exact h _ (List.getElem_mem _)
def RetCls (L : List (List Int)) (code : Int) (w : World) (e : Ending) (w' : World) : Prop :=
  ∃ A c, e = .returned (.tuple #[.slice A L.length c, .int .i64 code]) ∧ Lists w' A L ∧ Below w.heap.size w w'
end Go.Proofs.Tg
end
section
/- Walks of the reference: monomials, sign vectors, inner products, the check. -/
namespace Go.Proofs.Tg
open Go.RowKit Go.Gr Go.Ev Go.Mo
set_option maxHeartbeats 2000000
set_option maxRecDepth 100000
theorem rdeg_any (A : Option Addr) (c : Nat) (m : List Int) (w : World) (hA : Ints w A m) (hn : m.length ≤ 1000) :
    Calls Tryz.prog 79 #[.slice A m.length c] w fun e w' => e = .returned (.int .i64 (degM m)) ∧ w = w' := by
  by_cases hl : m.length ≤ 6
  · have hd : decide ((6 : Int) < (m.length : Int)) = false := by simp; omega
    go_enter Tryz.func79, Tryz.ntmps79
    go_wp2
    go_loop [3, 4] (fun s i => ∃ k : Nat, k ≤ m.length ∧ i = .int .i64 k ∧ ∃ z : Int, s = .int .i64 z ∧ 0 ≤ z ∧ z ≤ 24 ∧ Hid (z = (m.take k).sum ∧ ∀ e ∈ m.take k, 0 ≤ e)) (fun _ i => m.length - (intOf i).toNat)
    case atStart => exact ⟨0, Nat.zero_le _, rfl, 0, rfl, by omega, by omega, Lib.hid ⟨rfl, by simp⟩⟩
    case round =>
      obtain ⟨k, hk, rfl, z, rfl, hz0, hz1, HZ⟩ := hrel
      by_cases hlt : k < m.length
      · obtain ⟨ad, rfl, hc⟩ := Ints.at hA hlt
        have HS : Hid ((m.take (k + 1)).sum = z + m[k]) := Lib.hid (by rw [sum_take_succ m k hlt, ← HZ.out.1])
        have HB : Hid (m[k] < 0 ∨ 24 - z < m[k] → vldM m = false) := Lib.hid (fun h => vldM_bad hlt (by rw [← HZ.out.1]; exact h))
        have HT : Hid (m.take (k + 1) = m.take k ++ [m[k]]) := Lib.hid (List.take_succ_eq_append_getElem hlt)
        clear hA
        generalize m[k] = x at hc HS HB HT
        by_cases h1 : x < 0
        · have b1 : decide (x < 0) = true := by simpa using h1
          have HF : Hid (degM m = -1) := Lib.hid (by unfold degM; rw [HB.out (.inl h1)]; rfl)
          go_wp2
          go_ret
          exact ⟨by rw [HF.out]; rfl, rfl⟩
        · have b1 : decide (x < 0) = false := by simpa using h1
          by_cases h2 : 24 - z < x
          · have b2 : decide (24 - z < x) = true := by simpa using h2
            have HF : Hid (degM m = -1) := Lib.hid (by unfold degM; rw [HB.out (.inr h2)]; rfl)
            go_wp2
            go_ret
            exact ⟨by rw [HF.out]; rfl, rfl⟩
          · have b2 : decide (24 - z < x) = false := by simpa using h2
            go_wp2
            go_round
            case rel =>
              refine ⟨k + 1, by omega, by go_num, z + x, rfl, by omega, by omega, Lib.hid ⟨HS.out.symm, fun e he => ?_⟩⟩
              rw [HT.out] at he
              rcases List.mem_append.1 he with he | he
              · exact HZ.out.2 e he
              · simp at he; omega
            case measure => simp [intOf]; omega
      · obtain rfl : k = m.length := by omega
        have HF : Hid (degM m = z) := Lib.hid (by
          have h := HZ.out
          rw [List.take_length] at h
          unfold degM
          rw [if_pos (vldM_iff.2 ⟨hl, h.2, by omega⟩), h.1])
        go_wp2
        go_ret
        exact ⟨by rw [HF.out]; rfl, rfl⟩
  · have hd : decide ((6 : Int) < (m.length : Int)) = true := by simp; omega
    have HF : Hid (degM m = -1) := Lib.hid (by
      unfold degM
      rw [if_neg (by rw [vldM_iff]; exact fun h => hl h.1)])
    go_enter Tryz.func79, Tryz.ntmps79
    go_wp2
    go_ret
    exact ⟨by rw [HF.out]; rfl, rfl⟩
theorem rvalid_any (A : Option Addr) (c : Nat) (m : List Int) (w : World) (hA : Ints w A m) (hn : m.length ≤ 1000) :
    Calls Tryz.prog 50 #[.slice A m.length c] w fun e w' => e = .returned (.bool (vldM m)) ∧ w = w' := by
  have HD : Hid (decide (0 ≤ degM m) = vldM m) := Lib.hid degM_ge
  have HC := Lib.hid (rdeg_any A c m w hA hn)
  by_cases hl : m.length ≤ 6
  · have hd : decide ((m.length : Int) ≤ 6) = true := by simp; omega
    generalize degM m = z at *
    go_enter Tryz.func50, Tryz.ntmps50
    go_wp2_with (go_at_call 79; refine HC.out.mono ?_; rintro e w' ⟨rfl, rfl⟩)
    go_ret
    exact ⟨by rw [← HD.out]; rfl, rfl⟩
  · have hd : decide ((m.length : Int) ≤ 6) = false := by simp; omega
    have HF : Hid (vldM m = false) := Lib.hid (eq_false_of_ne_true (by rw [vldM_iff]; exact fun h => hl h.1))
    go_enter Tryz.func50, Tryz.ntmps50
    go_wp2
    go_ret
    exact ⟨by rw [HF.out]; rfl, rfl⟩
theorem rvld_lit (A : Option Addr) (c : Nat) (m : List Int) (w : World) (hA : Ints w A m) (hn : m.length ≤ 1000) (b : Bool) (hb : vldM m = b) :
    Calls Tryz.prog 50 #[.slice A m.length c] w fun e w' => e = .returned (.bool b) ∧ w = w' := by rw [← hb]; exact rvalid_any A c m w hA hn
end Go.Proofs.Tg
end
section
/- The reference's leading and orthogonal; the harness's SmallPoly. -/
namespace Go.Ev
/-- Every row is even against v. -/
def orth (rs : List (List Int)) (v : List Int) : Bool := rs.all fun r => dotN r v v.length % 2 == 0
end Go.Ev
namespace Go.Proofs.Tg
open Go.RowKit Go.Gr Go.Ev Go.Mo
set_option maxHeartbeats 4000000
set_option maxRecDepth 100000
theorem Dr.trans {w w' w'' : World} (h : Dr w w') (k : Dr w' w'') : Dr w w'' := by
  obtain ⟨n, rfl⟩ := k
  exact h.drewN n
theorem fidx_hit {l : List Int} {k : Nat} (h : k ≤ l.findIdx (· == 1)) (hk : k < l.length) (hx : l[k] = 1) : l.findIdx (· == 1) = k := by
  by_cases e : k < l.findIdx (· == 1)
  · have := List.not_of_lt_findIdx e
    rw [hx] at this
    cases this
  · omega
theorem fidx_miss {l : List Int} {k : Nat} (h : k ≤ l.findIdx (· == 1)) (hk : k < l.length) (hx : l[k] ≠ 1) : k + 1 ≤ l.findIdx (· == 1) := by
  by_cases e : l.findIdx (· == 1) = k
  · exfalso
    have hlt : l.findIdx (· == 1) < l.length := by omega
    have := List.findIdx_getElem (w := hlt)
    rw [beq_iff_eq] at this
    apply hx
    rw [← this]
    congr 1
    exact e.symm
  · omega
def PVal.few (n m : Nat) (p : PVal) : Prop := p.tv.length ≤ n ∧ ∀ t ∈ p.tv, t.coef.size ≤ m ∧ t.exps.length ≤ 12
theorem spoly_any (p : PVal) (n m : Nat) (b : Bool) (w : World) (hP : TermsAt w p.adr p.tv) (hv : b = true ↔ p.few n m) (hn : n ≤ 1000) (_hm : m ≤ 1000) :
    Calls Tryz.prog 27 #[.agg #[.int .i64 p.vars, .slice p.adr p.tv.length p.cap], .int .i64 n, .int .i64 m] w fun e w' => e = .returned (.bool b) ∧ Below w.heap.size w w' := by
  have hbA : Below w.heap.size w (w.alloc (.cells #[.int .i64 p.vars, .slice p.adr p.tv.length p.cap] 24)) := (Below.refl _ _).alloc (Nat.le_refl _) _
  have hP1 := hP.keep hbA
  have hB := Blk.new w 24 #[.int .i64 p.vars, .slice p.adr p.tv.length p.cap]
  obtain ⟨P, T, cp, tv⟩ := p
  simp only at *
  have HV := Lib.hid hv
  clear hv hP
  by_cases hl : tv.length ≤ n
  · have hd : decide ((n : Int) < (tv.length : Int)) = false := by simp; omega
    have hd' : decide (n < tv.length) = false := by simp; omega
    go_enter Tryz.func27, Tryz.ntmps27
    go_wp2
    generalize w.alloc (.cells #[.int .i64 P, .slice T tv.length cp] 24) = W at hbA hP1 hB
    generalize hg : w.heap.size = G at hB ⊢
    obtain ⟨c0, c1, f0, f1⟩ := hB.two
    have hgl := hB.lt
    have HG := Lib.hid hg
    clear hg hB
    go_loop [7] (fun i => ∃ k : Nat, i = .int .i64 k ∧ k ≤ tv.length ∧ Hid (∀ t ∈ tv.take k, t.coef.size ≤ m ∧ t.exps.length ≤ 12)) (fun i => tv.length - (intOf i).toNat)
    case atStart => exact ⟨0, rfl, Nat.zero_le _, Lib.hid (by simp)⟩
    case round =>
      obtain ⟨k, rfl, hk, HI⟩ := hrel
      by_cases hkl : k < tv.length
      · obtain ⟨ad, rfl, hc1, hc2, _⟩ := TermsAt.at hP1 hkl
        have HM : Hid (tv[k] ∈ tv) := Lib.hid (List.getElem_mem _)
        have HT0 : Hid (tv.take (k + 1) = tv.take k ++ [tv[k]]) := Lib.hid (List.take_succ_eq_append_getElem hkl)
        generalize tv[k] = t at *
        obtain ⟨s, A, ca, el⟩ := t
        simp only at *
        by_cases h1 : s.size ≤ m
        · have hb1 : decide ((m : Int) < (s.size : Int)) = false := by simp; omega
          have hb1' : decide (m < s.size) = false := by simp; omega
          by_cases h2 : el.length ≤ 12
          · have hb2 : decide ((12 : Int) < (el.length : Int)) = false := by simp; omega
            have hb2' : decide (12 < el.length) = false := by simp; omega
            have HG2 : Hid (∀ t ∈ tv.take (k + 1), t.coef.size ≤ m ∧ t.exps.length ≤ 12) := Lib.hid (by
              rw [HT0.out]
              intro l' hl'
              rcases List.mem_append.1 hl' with h | h
              · exact HI.out l' h
              · simp at h; subst h; exact ⟨h1, h2⟩)
            go_wp2
            go_round
            case rel => exact ⟨k + 1, by go_num, by omega, HG2⟩
            case measure => simp [intOf]; omega
          · have hb2 : decide ((12 : Int) < (el.length : Int)) = true := by simp; omega
            have hb2' : decide (12 < el.length) = true := by simp; omega
            obtain rfl : b = false := by
              cases b
              · rfl
              · exact absurd ((HV.out.1 rfl).2 _ HM.out).2 h2
            go_wp2
            go_ret
            exact ⟨rfl, HG.out ▸ hbA⟩
        · have hb1 : decide ((m : Int) < (s.size : Int)) = true := by simp; omega
          have hb1' : decide (m < s.size) = true := by simp; omega
          obtain rfl : b = false := by
            cases b
            · rfl
            · exact absurd ((HV.out.1 rfl).2 _ HM.out).1 h1
          go_wp2
          go_ret
          exact ⟨rfl, HG.out ▸ hbA⟩
      · obtain rfl : k = tv.length := by omega
        obtain rfl : b = true := HV.out.2 ⟨hl, by have := HI.out; rwa [List.take_length] at this⟩
        go_wp2
        go_ret
        exact ⟨rfl, HG.out ▸ hbA⟩
  · have hd : decide ((n : Int) < (tv.length : Int)) = true := by simp; omega
    have hd' : decide (n < tv.length) = true := by simp; omega
    obtain rfl : b = false := by
      cases b
      · rfl
      · exact absurd (HV.out.1 rfl).1 hl
    go_enter Tryz.func27, Tryz.ntmps27
    go_wp2
    go_ret
    exact ⟨rfl, hbA⟩
end Go.Proofs.Tg
end
section
/- The sanity check of the statements on sparsity. -/
namespace Go.Proofs.Tg.Sx
open Go.RowKit Go.Gr Go.Sp Go.Ev Go.Mo Go.Qn
set_option maxHeartbeats 4000000
set_option maxRecDepth 100000
theorem sl_blk {w : World} {g n sz : Nat} {t : TypeId} {xs : List Value} (h : Blk w g t xs.toArray) (hl : xs.length = n * sz) : Sl w (some ⟨g, 0, none⟩) n sz xs :=
  ⟨hl, fun _ => ⟨_, rfl, h.lt, fun j u hu => by rw [add_lit, Nat.zero_add, h.cell j, List.getElem?_toArray]; exact hu⟩⟩
/-- Blocks set down one behind another. -/
def al (w : World) (os : List Obj) : World := os.foldl World.alloc w
theorem al_below (w : World) (os : List Obj) : Below w.heap.size w (al w os) := by
  induction os generalizing w with
  | nil => exact Below.refl _ _
  | cons o os ih =>
    have : al w (o :: os) = al (w.alloc o) os := rfl
    rw [this]
    exact below_all ((Below.refl _ _).alloc (Nat.le_refl _) _) (ih _)
theorem al_blk (w : World) (os : List Obj) (i : Nat) {t : TypeId} {cs : Array Value} (h : os[i]? = some (.cells cs t)) : Blk (al w os) (w.heap.size + i) t cs := by
  induction os generalizing w i with
  | nil => simp at h
  | cons o os ih =>
    have e : al w (o :: os) = al (w.alloc o) os := rfl
    rw [e]
    cases i with
    | zero =>
      have : o = .cells cs t := by simpa using h
      subst this
      exact (Blk.new w t cs).keep (al_below _ _) (by simp)
    | succ i =>
      have := ih (w.alloc o) i (by simpa using h)
      have e2 : (w.alloc o).heap.size + i = w.heap.size + (i + 1) := by simp; omega
      rwa [e2] at this
def one49 : ByteArray := ⟨#[49]⟩
theorem rd_one : rd [49] = some (false, 1, 1) := by decide
theorem coef_one : coefOk one49 = true := by
  unfold coefOk
  have e : one49.data.toList = [49] := rfl
  rw [e, rd_one]; rfl
def awP (g0 g1 g2 g3 : Nat) : PVal := ⟨2, some ⟨g3, 0, none⟩, 3, [⟨one49, some ⟨g0, 0, none⟩, 2, [4, 0]⟩, ⟨one49, some ⟨g1, 0, none⟩, 2, [0, 4]⟩, ⟨one49, some ⟨g2, 0, none⟩, 2, [0, 0]⟩]⟩
theorem awP_ok (g0 g1 g2 g3 : Nat) : (awP g0 g1 g2 g3).ok := by
  refine ⟨by simp [awP], ⟨by simp [awP], by simp [awP], ?_⟩, fun _ => (show vldM [4, 0] = true by decide)⟩
  intro i hi hl
  have h2 : i < 3 := hi
  have t1 : termOk 2 (one49, [4, 0]) = true := by rw [termOk_iff]; exact ⟨coef_one, rfl, by decide⟩
  have t2 : termOk 2 (one49, [0, 4]) = true := by rw [termOk_iff]; exact ⟨coef_one, rfl, by decide⟩
  have t3 : termOk 2 (one49, [0, 0]) = true := by rw [termOk_iff]; exact ⟨coef_one, rfl, by decide⟩
  have : i = 0 ∨ i = 1 ∨ i = 2 := by omega
  rcases this with rfl | rfl | rfl
  · exact ⟨t1, fun h => absurd h (by omega)⟩
  · exact ⟨t2, fun _ => (show 0 < Mo.ord [4, 0] [0, 4] by decide)⟩
  · exact ⟨t3, fun _ => (show 0 < Mo.ord [0, 4] [0, 0] by decide)⟩
theorem aw_err : errS true 2 awB = 0 := by decide
theorem aw_final (h : awB.length ≤ 64) : (rnd awB (S0 awE awB) h).Final bigK 1 ∧ (rnd awB (S0 awE awB) h).B 0 = [[0, 3, 5], [1], [2], [4]] := by
  refine ⟨⟨Nat.le_refl _, by decide, fun t ht => by omega, .inr ?_⟩, ?_⟩
  · rw [rnd_B, rnd_B, aw_c1, show setAt awB (S0 awE awB) (1 - 1) = S0 awE awB from rfl, aw_c0]
  · rw [rnd_B]; exact aw_c0
theorem aw_stable (w : World) (hT : Tab w) : Calls Tryz.prog 13 #[.agg #[.int .i64 2, .slice (some ⟨w.heap.size + 1 + 1 + 1, 0, none⟩) 3 3], .slice (some ⟨w.heap.size + 1 + 1 + 1 + 1 + 1 + 1 + 1 + 1 + 1 + 1 + 1, 0, none⟩) 6 6]
    ((((((((((((w.alloc (.cells #[.int .i64 4, .int .i64 0] 3)).alloc (.cells #[.int .i64 0, .int .i64 4] 3)).alloc (.cells #[.int .i64 0, .int .i64 0] 3)).alloc (.cells #[.string ⟨#[49]⟩, .slice (some ⟨w.heap.size, 0, none⟩) 2 2, .string ⟨#[49]⟩, .slice (some ⟨w.heap.size + 1, 0, none⟩) 2 2, .string ⟨#[49]⟩, .slice (some ⟨w.heap.size + 1 + 1, 0, none⟩) 2 2] 69)).alloc (.cells #[.int .i64 2, .slice (some ⟨w.heap.size + 1 + 1 + 1, 0, none⟩) 3 3] 24)).alloc (.cells #[.int .i64 0, .int .i64 0] 3)).alloc (.cells #[.int .i64 0, .int .i64 1] 3)).alloc (.cells #[.int .i64 1, .int .i64 0] 3)).alloc (.cells #[.int .i64 0, .int .i64 2] 3)).alloc (.cells #[.int .i64 1, .int .i64 1] 3)).alloc (.cells #[.int .i64 2, .int .i64 0] 3)).alloc (.cells #[.slice (some ⟨w.heap.size + 1 + 1 + 1 + 1 + 1, 0, none⟩) 2 2, .slice (some ⟨w.heap.size + 1 + 1 + 1 + 1 + 1 + 1, 0, none⟩) 2 2, .slice (some ⟨w.heap.size + 1 + 1 + 1 + 1 + 1 + 1 + 1, 0, none⟩) 2 2, .slice (some ⟨w.heap.size + 1 + 1 + 1 + 1 + 1 + 1 + 1 + 1, 0, none⟩) 2 2, .slice (some ⟨w.heap.size + 1 + 1 + 1 + 1 + 1 + 1 + 1 + 1 + 1, 0, none⟩) 2 2, .slice (some ⟨w.heap.size + 1 + 1 + 1 + 1 + 1 + 1 + 1 + 1 + 1 + 1, 0, none⟩) 2 2] 36))
    fun e w' => ∃ R c, e = .returned (.tuple #[.slice R 4 c, .int .i64 1, .int .i64 0]) ∧ Lists w' R [[0, 3, 5], [1], [2], [4]] ∧ Below w.heap.size w w' := by
  let os : List Obj := [.cells #[.int .i64 4, .int .i64 0] 3, .cells #[.int .i64 0, .int .i64 4] 3, .cells #[.int .i64 0, .int .i64 0] 3, .cells #[.string ⟨#[49]⟩, .slice (some ⟨w.heap.size, 0, none⟩) 2 2, .string ⟨#[49]⟩, .slice (some ⟨w.heap.size + 1, 0, none⟩) 2 2, .string ⟨#[49]⟩, .slice (some ⟨w.heap.size + 1 + 1, 0, none⟩) 2 2] 69, .cells #[.int .i64 2, .slice (some ⟨w.heap.size + 1 + 1 + 1, 0, none⟩) 3 3] 24, .cells #[.int .i64 0, .int .i64 0] 3, .cells #[.int .i64 0, .int .i64 1] 3, .cells #[.int .i64 1, .int .i64 0] 3, .cells #[.int .i64 0, .int .i64 2] 3, .cells #[.int .i64 1, .int .i64 1] 3, .cells #[.int .i64 2, .int .i64 0] 3, .cells #[.slice (some ⟨w.heap.size + 1 + 1 + 1 + 1 + 1, 0, none⟩) 2 2, .slice (some ⟨w.heap.size + 1 + 1 + 1 + 1 + 1 + 1, 0, none⟩) 2 2, .slice (some ⟨w.heap.size + 1 + 1 + 1 + 1 + 1 + 1 + 1, 0, none⟩) 2 2, .slice (some ⟨w.heap.size + 1 + 1 + 1 + 1 + 1 + 1 + 1 + 1, 0, none⟩) 2 2, .slice (some ⟨w.heap.size + 1 + 1 + 1 + 1 + 1 + 1 + 1 + 1 + 1, 0, none⟩) 2 2, .slice (some ⟨w.heap.size + 1 + 1 + 1 + 1 + 1 + 1 + 1 + 1 + 1 + 1, 0, none⟩) 2 2] 36]
  have hP : TermsAt (al w os) (some ⟨w.heap.size + 1 + 1 + 1, 0, none⟩) (awP w.heap.size (w.heap.size + 1) (w.heap.size + 1 + 1) (w.heap.size + 1 + 1 + 1)).tv := by
    refine ⟨sl_blk (al_blk w os 3 rfl) rfl, fun t ht => ?_⟩
    simp only [awP, List.mem_cons, List.not_mem_nil, or_false] at ht
    rcases ht with rfl | rfl | rfl
    · exact sl_blk (al_blk w os 0 rfl) rfl
    · exact sl_blk (al_blk w os 1 rfl) rfl
    · exact sl_blk (al_blk w os 2 rfl) rfl
  have hB : Lists (al w os) (some ⟨w.heap.size + 1 + 1 + 1 + 1 + 1 + 1 + 1 + 1 + 1 + 1 + 1, 0, none⟩) awB := by
    refine ⟨fun i => if i = 0 then ((some ⟨w.heap.size + 1 + 1 + 1 + 1 + 1, 0, none⟩), 2) else if i = 1 then ((some ⟨w.heap.size + 1 + 1 + 1 + 1 + 1 + 1, 0, none⟩), 2) else if i = 2 then ((some ⟨w.heap.size + 1 + 1 + 1 + 1 + 1 + 1 + 1, 0, none⟩), 2) else if i = 3 then ((some ⟨w.heap.size + 1 + 1 + 1 + 1 + 1 + 1 + 1 + 1, 0, none⟩), 2) else if i = 4 then ((some ⟨w.heap.size + 1 + 1 + 1 + 1 + 1 + 1 + 1 + 1 + 1, 0, none⟩), 2) else ((some ⟨w.heap.size + 1 + 1 + 1 + 1 + 1 + 1 + 1 + 1 + 1 + 1, 0, none⟩), 2), sl_blk (al_blk w os 11 rfl) rfl, fun i hi => ?_⟩
    have hi : i < 6 := hi
    have : i = 0 ∨ i = 1 ∨ i = 2 ∨ i = 3 ∨ i = 4 ∨ i = 5 := by omega
    rcases this with rfl | rfl | rfl | rfl | rfl | rfl
    · exact sl_blk (al_blk w os 5 rfl) rfl
    · exact sl_blk (al_blk w os 6 rfl) rfl
    · exact sl_blk (al_blk w os 7 rfl) rfl
    · exact sl_blk (al_blk w os 8 rfl) rfl
    · exact sl_blk (al_blk w os 9 rfl) rfl
    · exact sl_blk (al_blk w os 10 rfl) rfl
  have hsm : (awP w.heap.size (w.heap.size + 1) (w.heap.size + 1 + 1) (w.heap.size + 1 + 1 + 1)).small := by
    refine ⟨by simp [awP], fun t ht => ?_⟩
    simp only [awP, List.mem_cons, List.not_mem_nil, or_false] at ht
    rcases ht with rfl | rfl | rfl <;> exact ⟨(show one49.size ≤ 19 by decide), (show 2 ≤ 64 by decide)⟩
  have hbl : awB.length ≤ 64 := by decide
  refine (sstable_any (awP w.heap.size (w.heap.size + 1) (w.heap.size + 1 + 1) (w.heap.size + 1 + 1 + 1)) (some ⟨w.heap.size + 1 + 1 + 1 + 1 + 1 + 1 + 1 + 1 + 1 + 1 + 1, 0, none⟩) 6 awB true (al w os) hP hsm hB hbl (by decide) ⟨fun _ => awP_ok _ _ _ _, fun _ => rfl⟩ (hT.below (al_below w os) hT.1)).mono ?_
  rintro e w' ⟨hb, ⟨h, _⟩ | ⟨_, m, R, c, hF, he, hL⟩⟩
  · exact absurd aw_err h
  · obtain ⟨h1, h2⟩ := aw_final hbl
    obtain rfl := hF.uniq h1
    have h3 : (rnd awB (kn (awP w.heap.size (w.heap.size + 1) (w.heap.size + 1 + 1) (w.heap.size + 1 + 1 + 1)) awB) hbl).B (1 - 1) = [[0, 3, 5], [1], [2], [4]] := h2
    rw [h3] at he hL
    exact ⟨R, c, he, hL, below_all (al_below w os) hb⟩
theorem aw_lists (w : World) (A : Option Addr) (c : Nat) (hA : Lists w A [[0, 3, 5], [1], [2], [4]]) : Calls Tryz.prog 14 #[.slice A 4 c, .slice (some ⟨w.heap.size + 1 + 1 + 1 + 1, 0, none⟩) 4 4]
    (((((w.alloc (.cells #[.int .i64 0, .int .i64 3, .int .i64 5] 3)).alloc (.cells #[.int .i64 1] 3)).alloc (.cells #[.int .i64 2] 3)).alloc (.cells #[.int .i64 4] 3)).alloc (.cells #[.slice (some ⟨w.heap.size, 0, none⟩) 3 3, .slice (some ⟨w.heap.size + 1, 0, none⟩) 1 1, .slice (some ⟨w.heap.size + 1 + 1, 0, none⟩) 1 1, .slice (some ⟨w.heap.size + 1 + 1 + 1, 0, none⟩) 1 1] 36))
    fun e w' => e = .returned (.bool true) ∧ Below w.heap.size w w' := by
  let os : List Obj := [.cells #[.int .i64 0, .int .i64 3, .int .i64 5] 3, .cells #[.int .i64 1] 3, .cells #[.int .i64 2] 3, .cells #[.int .i64 4] 3, .cells #[.slice (some ⟨w.heap.size, 0, none⟩) 3 3, .slice (some ⟨w.heap.size + 1, 0, none⟩) 1 1, .slice (some ⟨w.heap.size + 1 + 1, 0, none⟩) 1 1, .slice (some ⟨w.heap.size + 1 + 1 + 1, 0, none⟩) 1 1] 36]
  have hB : Lists (al w os) (some ⟨w.heap.size + 1 + 1 + 1 + 1, 0, none⟩) [[0, 3, 5], [1], [2], [4]] := by
    refine ⟨fun i => if i = 0 then ((some ⟨w.heap.size, 0, none⟩), 3) else if i = 1 then ((some ⟨w.heap.size + 1, 0, none⟩), 1) else if i = 2 then ((some ⟨w.heap.size + 1 + 1, 0, none⟩), 1) else ((some ⟨w.heap.size + 1 + 1 + 1, 0, none⟩), 1), sl_blk (al_blk w os 4 rfl) rfl, fun i hi => ?_⟩
    have hi : i < 4 := hi
    have : i = 0 ∨ i = 1 ∨ i = 2 ∨ i = 3 := by omega
    rcases this with rfl | rfl | rfl | rfl
    · exact sl_blk (al_blk w os 0 rfl) rfl
    · exact sl_blk (al_blk w os 1 rfl) rfl
    · exact sl_blk (al_blk w os 2 rfl) rfl
    · exact sl_blk (al_blk w os 3 rfl) rfl
  refine (lists_any A _ [[0, 3, 5], [1], [2], [4]] [[0, 3, 5], [1], [2], [4]] c 4 (al w os) (hA.keep (al_below w os)) hB (by decide) (by decide)).mono fun e w' h => ⟨by rw [h.1]; rfl, below_all (al_below w os) h.2.below⟩
theorem awake_any (w : World) (hT : Tab w) : Calls Tryz.prog 10 #[] w fun e w' => e = .returned (.bool true) ∧ Below w.heap.size w w' := by
  go_enter Tryz.func10, Tryz.ntmps10
  go_wp2_with (fail)
  refine (aw_stable w hT).mono ?_
  rintro e w1 ⟨A, c, rfl, hA, hb1⟩
  go_wp2_with (fail)
  refine (aw_lists w1 A c hA).mono ?_
  rintro e w2 ⟨rfl, hb2⟩
  go_wp2_with (fail)
  go_ret
  exact ⟨rfl, below_all hb1 hb2⟩
theorem small16_any (p : PVal) (B : Option Addr) (cb : Nat) (b : List (List Int)) (sm : Bool) (w : World) (hP : TermsAt w p.adr p.tv) (hB : Lists w B b) (hsm : sm = true ↔ p.few 8 8 ∧ b.length ≤ 10 ∧ ∀ l ∈ b, l.length ≤ 8) :
    Calls Tryz.prog 9 #[.agg #[.int .i64 p.vars, .slice p.adr p.tv.length p.cap], .slice B b.length cb] w fun e w' => e = .returned (.bool sm) ∧ Below w.heap.size w w' := by
  obtain ⟨q1, h1⟩ : ∃ q1 : Bool, q1 = true ↔ p.few 8 8 := by classical exact ⟨decide (p.few 8 8), decide_eq_true_iff⟩
  obtain ⟨q2, h2⟩ : ∃ q2 : Bool, q2 = true ↔ b.length ≤ 10 ∧ ∀ l ∈ b, l.length ≤ 8 := by classical exact ⟨decide (b.length ≤ 10 ∧ ∀ l ∈ b, l.length ≤ 8), decide_eq_true_iff⟩
  have hbA : Below w.heap.size w (w.alloc (.cells #[.int .i64 p.vars, .slice p.adr p.tv.length p.cap] 24)) := (Below.refl _ _).alloc (Nat.le_refl _) _
  have HSP := Lib.hid (spoly_any p 8 8 q1 _ (hP.keep hbA) h1 (by omega) (by omega))
  have HSL := Lib.hid (fun V (h : Below w.heap.size w V) => small_any B cb 10 8 b q2 V (hB.keep h) h2 (by omega))
  obtain rfl : sm = (q1 && q2) := by
    rw [Bool.eq_iff_iff, hsm, Bool.and_eq_true, h1, h2]
  obtain ⟨P, T, cT, tv⟩ := p
  simp only at *
  clear hsm h1 h2 hP hB
  cases q1 with
  | false =>
    go_enter Tryz.func9, Tryz.ntmps9
    go_wp2_with (go_at_call 27; refine HSP.out.mono ?_; rintro e w1 ⟨rfl, hb1⟩)
    go_ret
    exact ⟨rfl, below_all hbA hb1⟩
  | true =>
    go_enter Tryz.func9, Tryz.ntmps9
    go_wp2_with (first
      | (go_at_call 27; refine HSP.out.mono ?_; rintro e w1 ⟨rfl, hb1⟩
         have hb2 := below_all hbA hb1)
      | (go_at_call 35; refine (HSL.out _ hb2).mono ?_; rintro e w' ⟨rfl, rfl⟩))
    go_ret
    exact ⟨rfl, hb2⟩
end Go.Proofs.Tg.Sx
end
section
/- Whether a list lies in another one: the statements' own function. -/
namespace Go.Proofs.Tg.Sx
open Go.RowKit Go.Gr Go.Sp Go.Ev Go.Mo Go.Qn
set_option maxHeartbeats 4000000
set_option maxRecDepth 100000
theorem subset_any (A B : Option Addr) (ca cb : Nat) (a b : List Int) (q : Bool) (w : World) (hA : Ints w A a) (hB : Ints w B b) (hla : a.length ≤ 1000000) (hlb : b.length ≤ 1000000) (hq : q = true ↔ ∀ x ∈ a, x ∈ b) :
    Calls Tryz.prog 15 #[.slice A a.length ca, .slice B b.length cb] w fun e w' => e = .returned (.bool q) ∧ Dr w w' := by
  have HQ := Lib.hid hq
  clear hq
  go_enter Tryz.func15, Tryz.ntmps15
  go_wp2
  go_loopw [5] (fun s5 wr => ∃ i : Nat, s5 = .int .i64 i ∧ i ≤ a.length ∧ Hid (∀ x ∈ a.take i, x ∈ b) ∧ Dr w wr) (fun s5 _ => a.length - (intOf s5).toNat)
  case atStart => exact ⟨0, rfl, Nat.zero_le _, Lib.hid (by simp), Dr.refl _⟩
  case round =>
    obtain ⟨wo, rfl⟩ : ∃ wo : World, wo = wr := ⟨_, rfl⟩
    obtain ⟨i, rfl, hi, HG, hdr⟩ := hrel
    by_cases hlt : i < a.length
    · have HN : Hid (a[i] ∈ b → ∀ x ∈ a.take (i + 1), x ∈ b) := Lib.hid (all_take (P := fun x => x ∈ b) hlt HG.out)
      have HM : Hid (a[i] ∈ a) := Lib.hid (List.getElem_mem _)
      obtain ⟨ad, rfl, hca0⟩ := Ints.at hA hlt
      generalize a[i] = x at *
      go_wp2
      go_loopw [7, 6] (fun s7 s6 wr => ∃ k : Nat, s7 = .int .i64 k ∧ k ≤ b.length ∧ s6 = .bool (decide (x ∈ b.take k)) ∧ Dr w wr) (fun s7 _ _ => b.length - (intOf s7).toNat)
      case atStart => exact ⟨0, rfl, Nat.zero_le _, by simp, hdr⟩
      case round =>
        clear hdr
        obtain ⟨wp, rfl⟩ : ∃ wp : World, wp = wr := ⟨_, rfl⟩
        obtain ⟨k, rfl, hk, rfl, hdr⟩ := hrel
        by_cases hkl : k < b.length
        · obtain ⟨bd, rfl, hcb0⟩ := Ints.at hB hkl
          have hca := keep_cell hdr.below hca0
          have hcb := keep_cell hdr.below hcb0
          have HTK : Hid (∀ v, v ∈ b.take (k + 1) ↔ v = b[k] ∨ v ∈ b.take k) := Lib.hid (fun v => by rw [← take_mem_succ hkl, List.mem_cons])
          clear hcb0
          generalize b[k] = y at *
          have p0 : (0 : Int) ≤ (i : Int) := by omega
          have p1 : (i : Int) < (a.length : Int) := by omega
          have p3 : ((i : Int)).toNat = i := by omega
          have r0 : (0 : Int) ≤ (k : Int) := by omega
          have r1 : (k : Int) < (b.length : Int) := by omega
          have r3 : ((k : Int)).toNat = k := by omega
          by_cases hin : x ∈ b.take k
          · have HD2 : Hid (decide (x ∈ b.take (k + 1)) = true) := Lib.hid (decide_eq_true ((HTK.out x).2 (.inr hin)))
            have hd : decide (x ∈ b.take k) = true := decide_eq_true hin
            generalize decide (x ∈ b.take k) = fd at *
            subst hd
            clear hin
            go_wp2
            go_quiet (fail)
            go_wp2
            go_roundw
            case rel => exact ⟨k + 1, by go_num, by omega, by rw [HD2.out], hdr.drewN _⟩
            case measure => simp [intOf]; omega
          · have hd : decide (x ∈ b.take k) = false := decide_eq_false hin
            have HD2 : Hid (decide (x ∈ b.take (k + 1)) = (x == y)) := Lib.hid (by
              rw [Bool.eq_iff_iff, decide_eq_true_eq, HTK.out, beq_iff_eq]
              exact ⟨fun h => h.elim id (fun h => absurd h hin), .inl⟩)
            generalize decide (x ∈ b.take k) = fd at *
            subst hd
            clear hin
            go_wp2
            go_quiet (fail)
            go_wp2
            go_roundw
            case rel => exact ⟨k + 1, by go_num, by omega, by rw [HD2.out], hdr.drewN _⟩
            case measure => simp [intOf]; omega
        · obtain rfl : k = b.length := by omega
          rw [List.take_length]
          have dk : decide ((b.length : Int) < (b.length : Int)) = false := by simp
          by_cases hin : x ∈ b
          · have hd : decide (x ∈ b) = true := decide_eq_true hin
            have HG2 := Lib.hid (HN.out hin)
            generalize decide (x ∈ b) = fd at *
            subst hd
            clear hin
            go_wp2
            go_roundw
            case rel => exact ⟨i + 1, by go_num, by omega, HG2, hdr⟩
            case measure => simp [intOf]; omega
          · have hd : decide (x ∈ b) = false := decide_eq_false hin
            obtain rfl : q = false := by
              apply eq_false_of_ne_true
              rw [HQ.out]
              exact fun h => hin (h x HM.out)
            generalize decide (x ∈ b) = fd at *
            subst hd
            clear hin
            go_wp2
            go_ret
            exact ⟨rfl, hdr⟩
    · obtain rfl : i = a.length := by omega
      have dk : decide ((a.length : Int) < (a.length : Int)) = false := by simp
      obtain rfl : q = true := HQ.out.2 (by have := HG.out; rwa [List.take_length] at this)
      go_wp2
      go_ret
      exact ⟨rfl, hdr⟩
end Go.Proofs.Tg.Sx
end
section
/- Variables that are joined lie in one of the cliques: plain; the statements' used and inside, walked. -/
namespace Go.Proofs.Tg.Sx
open Go.RowKit Go.Gr Go.Sp Go.Ev Go.Mo
set_option maxHeartbeats 4000000
set_option maxRecDepth 100000
theorem covered {p : PVal} {ps : List PVal} {n : Nat} (hn : n ≤ 6) {ls : List (List Int)} (hp : ls.Perm ((keepLast (cands (readAll (xV p ps n)) n)).map vertsI)) {us : List Int} (hu : ∀ x ∈ us, ∃ k : Nat, x = (k : Int) ∧ k < n)
    (hj : ∀ k l : Nat, (k : Int) ∈ us → (l : Int) ∈ us → k < l → jV p ps k l = true) : (∃ m ∈ ls, ∀ x ∈ us, x ∈ m) ∨ us = [] := by
  by_cases h0 : us = []
  · exact .inr h0
  · left
    have hv := tableEdges_valid (jV p ps) (n := n) (by omega)
    have hx := extend_es hv
    have hread : ∀ k l : Nat, (k : Int) ∈ us → (l : Int) ∈ us → k < l → readT (xV p ps n) k l = true := fun k l hk hl hkl => by
      obtain ⟨k', e1, h1⟩ := hu _ hk
      obtain ⟨l', e2, h2⟩ := hu _ hl
      have hmem : ((k : Int), (l : Int)) ∈ tableEdges (jV p ps) n n := mem_tableEdges.2 ⟨k, l, by omega, by omega, hkl, hj k l hk hl hkl, rfl⟩
      have := (hx.more _ hmem).2
      simp only [Int.toNat_natCast] at this
      rw [← read_bits]
      exact this
    have hsym := (valid_nice hx.valid).sym
    obtain ⟨m, hm, hall⟩ := clq_holds (l := us.map Int.toNat) hx.valid hx.chord hp (fun v hv => by
      obtain ⟨x, hx1, rfl⟩ := List.mem_map.1 hv
      obtain ⟨k, rfl, hk⟩ := hu x hx1
      rw [Int.toNat_natCast]; exact hk) (fun u hu1 v hv1 hne => by
      obtain ⟨x, hx1, rfl⟩ := List.mem_map.1 hu1
      obtain ⟨y, hy1, rfl⟩ := List.mem_map.1 hv1
      obtain ⟨k, rfl, _⟩ := hu x hx1
      obtain ⟨l, rfl, _⟩ := hu y hy1
      simp only [Int.toNat_natCast] at hne ⊢
      rcases Nat.lt_trichotomy k l with h | h | h
      · exact hread k l hx1 hy1 h
      · exact absurd h hne
      · exact hsym l k (hread l k hy1 hx1 h)) (by simpa using h0)
    refine ⟨m, hm, fun x hx1 => ?_⟩
    have := hall x.toNat (List.mem_map.2 ⟨x, hx1, rfl⟩)
    obtain ⟨k, rfl, _⟩ := hu x hx1
    simpa using this
/-- A variable that occurs, as a number. -/
def UP (ts : List TV) (x : Int) : Prop := ∃ t ∈ ts, ∃ k : Nat, k < t.exps.length ∧ x = (k : Int) ∧ 0 < t.exps.getD k 0
def UE (el : List Int) (j : Nat) (x : Int) : Prop := ∃ k : Nat, k < j ∧ k < el.length ∧ x = (k : Int) ∧ 0 < el.getD k 0
theorem up_succ {ts : List TV} {i : Nat} (h : i < ts.length) {x : Int} : UP (ts.take (i + 1)) x ↔ UP (ts.take i) x ∨ UE ts[i].exps ts[i].exps.length x := by
  unfold UP UE
  constructor
  · rintro ⟨t, ht, k, h1, h2⟩
    rcases List.mem_cons.1 ((take_mem_succ h t).2 ht) with rfl | h3
    · exact .inr ⟨k, h1, h1, h2⟩
    · exact .inl ⟨t, h3, k, h1, h2⟩
  · rintro (⟨t, ht, h3⟩ | ⟨k, h1, h2, h3⟩)
    · exact ⟨t, (take_mem_succ h t).1 (List.mem_cons_of_mem _ ht), h3⟩
    · exact ⟨_, (take_mem_succ h _).1 (List.mem_cons_self ..), k, h1, h3⟩
theorem ue_succ {el : List Int} {j : Nat} (h : j < el.length) {x : Int} : UE el (j + 1) x ↔ UE el j x ∨ (0 < el[j] ∧ x = (j : Int)) := by
  have e : el.getD j 0 = el[j] := by simp [h]
  unfold UE
  constructor
  · rintro ⟨k, h1, h2, h3, h4⟩
    by_cases hk : k = j
    · subst hk; rw [e] at h4; exact .inr ⟨h4, h3⟩
    · exact .inl ⟨k, by omega, h2, h3, h4⟩
  · rintro (⟨k, h1, h2, h3, h4⟩ | ⟨h1, h2⟩)
    · exact ⟨k, by omega, h2, h3, h4⟩
    · exact ⟨j, by omega, h, h2, by rw [e]; exact h1⟩
theorem used_any (T : Option Addr) (c : Nat) (tv : List TV) (w : World) (hP : TermsAt w T tv) (hl : tv.length ≤ 5000) (hle : ∀ t ∈ tv, t.exps.length ≤ 64) :
    Calls Tryz.prog 34 #[.slice T tv.length c] w fun e w' => ∃ A ca us, e = .returned (.slice A (List.length us) ca) ∧ Ints w' A us ∧ us.length ≤ 1000000 ∧ (∀ x, x ∈ us ↔ UP tv x) ∧ Below w.heap.size w w' := by
  have HP := Lib.hid hP
  have HLE := Lib.hid hle
  obtain ⟨i0, hi0, hz0, hz1, hz2⟩ := info_parts int_info
  clear hP hle
  go_enter Tryz.func34, Tryz.ntmps34
  go_wp2
  go_loopw [4, 3] (fun s4 s3 wr => ∃ (i : Nat) (A : Option Addr) (ca : Nat) (us : List Int), s4 = .int .i64 i ∧ i ≤ tv.length ∧ s3 = .slice A us.length ca ∧ wr.ownsRow w.heap.size 3 1 (.slice A us.length ca) us.length (us.map vi) ∧ Hid (us.length ≤ 64 * i) ∧ Hid (∀ x, x ∈ us ↔ UP (tv.take i) x) ∧ Below w.heap.size w wr) (fun s4 _ _ => tv.length - (intOf s4).toNat)
  case atStart => exact ⟨0, none, 0, [], rfl, Nat.zero_le _, rfl, World.ownsRow_nil _ _ _ _, Lib.hid (by simp), Lib.hid (fun x => ⟨fun h => by simp at h, fun ⟨t, h, _⟩ => by simp at h⟩), Below.refl _ _⟩
  case round =>
    obtain ⟨wo, rfl⟩ : ∃ wo : World, wo = wr := ⟨_, rfl⟩
    obtain ⟨i, A, ca, us, rfl, hi, rfl, hown, HUL, HU, hb⟩ := hrel
    by_cases hlt : i < tv.length
    · obtain ⟨td, rfl, e0w, e1w, hIw⟩ := HP.out.at hlt
      have hel := HLE.out tv[i] (List.getElem_mem _)
      have HUS : Hid (∀ x, UP (tv.take (i + 1)) x ↔ UP (tv.take i) x ∨ UE tv[i].exps tv[i].exps.length x) := Lib.hid (fun x => up_succ hlt)
      have HIW := Lib.hid hIw
      clear e0w hIw
      generalize tv[i] = t at *
      obtain ⟨s, E, ce, el⟩ := t
      simp only at e1w hel HUS HIW
      have wi : IntKind.i64.wrap ((i : Int) + 1) = (i : Int) + 1 := IntWalk.i64_in _ (by omega)
      have p0 : (0 : Int) ≤ (i : Int) := by omega
      have p1 : (i : Int) < (tv.length : Int) := by omega
      have p3 : ((i : Int)).toNat = i := by omega
      go_wp2
      go_loopw [5, 3] (fun s5 s3 wr => ∃ (j : Nat) (A : Option Addr) (ca : Nat) (us : List Int), s5 = .int .i64 j ∧ j ≤ el.length ∧ s3 = .slice A us.length ca ∧ wr.ownsRow w.heap.size 3 1 (.slice A us.length ca) us.length (us.map vi) ∧ Hid (us.length ≤ 64 * i + j) ∧ Hid (∀ x, x ∈ us ↔ UP (tv.take i) x ∨ UE el j x) ∧ Below w.heap.size w wr) (fun s5 _ _ => el.length - (intOf s5).toNat)
      case atStart => exact ⟨0, A, ca, us, rfl, Nat.zero_le _, rfl, hown, Lib.hid (by have := HUL.out; omega), Lib.hid (fun x => by rw [HU.out]; exact ⟨.inl, fun h => h.elim id (fun ⟨k, h, _⟩ => by omega)⟩), hb⟩
      case round =>
        clear hown HUL HU hb
        obtain ⟨wp, rfl⟩ : ∃ wp : World, wp = wr := ⟨_, rfl⟩
        obtain ⟨j, A, ca, us, rfl, hj, rfl, hown, HUL, HU, hb⟩ := hrel
        have e1 := keep_cell hb e1w
        by_cases hjl : j < el.length
        · obtain ⟨Ed, rfl, hce⟩ := Ints.at (HIW.out.keep hb) hjl
          have HES : Hid (∀ x, UE el (j + 1) x ↔ UE el j x ∨ (0 < el[j] ∧ x = (j : Int))) := Lib.hid (fun x => ue_succ hjl)
          generalize el[j] = v at *
          have wj : IntKind.i64.wrap ((j : Int) + 1) = (j : Int) + 1 := IntWalk.i64_in _ (by omega)
          by_cases hv : 0 < v
          · have dv : decide ((0 : Int) < v) = true := decide_eq_true hv
            have hul := HUL.out
            have HU2 : Hid (∀ x, x ∈ us ++ [(j : Int)] ↔ UP (tv.take i) x ∨ UE el (j + 1) x) := Lib.hid (fun x => by
              rw [List.mem_append, HU.out, HES.out, List.mem_singleton]
              constructor
              · rintro ((h | h) | h)
                · exact .inl h
                · exact .inr (.inl h)
                · exact .inr (.inr ⟨hv, h⟩)
              · rintro (h | h | h)
                · exact .inl (.inl h)
                · exact .inl (.inr h)
                · exact .inr h.2)
            have HNW := Lib.hid (cells_new wp 3 [.int .i64 j])
            have hsz := hb.size
            clear hv
            go_wp2_with (at_builtin; go_must (refine wpList_append_own _ rfl _ _ 36 rfl w.heap.size 3 i0 (.int .i64 0) 1 8 Tryz.underlying36 hi0 hz0 hz1 hz2 rfl (by decide) (.slice A us.length ca) us.length (us.map vi) rfl (hown.alloc _) ⟨wp.heap.size, 0, none⟩ 1 1 [.int .i64 j] rfl rfl HNW.out ?c2 ?c3 ?c4 ?c5 ?_)
                         case c2 => simp [Value.oneCell']
                         case c3 => simp only [maxLen]; omega
                         case c4 => omega
                         case c5 => simp; omega
                         intro v' w3 hown3 hg3 _
                         obtain ⟨A3, c3, hv', _, _⟩ := Sl.of_own hown3
                         subst hv')
            go_roundw
            case rel =>
              refine ⟨j + 1, A3, c3, us ++ [(j : Int)], by go_num, by omega, by simp, ?_, Lib.hid (by rw [List.length_append, List.length_singleton]; omega), HU2, ?_⟩
              · rw [List.length_append, List.map_append]; exact hown3
              · exact (hb.alloc hsz _).grown hg3 (by simp; omega) (fun k hk => (hown.lt k hk).1)
            case measure => simp [intOf]; omega
          · have dv : decide ((0 : Int) < v) = false := decide_eq_false hv
            have HU2 : Hid (∀ x, x ∈ us ↔ UP (tv.take i) x ∨ UE el (j + 1) x) := Lib.hid (fun x => by
              rw [HU.out, HES.out]
              exact ⟨fun h => h.imp id .inl, fun h => h.imp id (fun h => h.elim id (fun h => absurd h.1 hv))⟩)
            clear hv
            go_wp2
            go_roundw
            case rel => exact ⟨j + 1, A, ca, us, by go_num, by omega, rfl, hown, Lib.hid (by have := HUL.out; omega), HU2, hb⟩
            case measure => simp [intOf]; omega
        · obtain rfl : j = el.length := by omega
          have dj : decide ((el.length : Int) < (el.length : Int)) = false := by simp
          have HU2 : Hid (∀ x, x ∈ us ↔ UP (tv.take (i + 1)) x) := Lib.hid (fun x => by rw [HU.out, HUS.out])
          have HUL2 : Hid (us.length ≤ 64 * (i + 1)) := Lib.hid (by have := HUL.out; omega)
          go_wp2
          go_roundw
          case rel => exact ⟨i + 1, A, ca, us, by go_num, by omega, rfl, hown, HUL2, HU2, hb⟩
          case measure => simp [intOf]; omega
    · obtain rfl : i = tv.length := by omega
      have di : decide ((tv.length : Int) < (tv.length : Int)) = false := by simp
      rw [List.take_length] at HU
      go_wp2
      go_ret
      exact ⟨A, ca, us, rfl, Sl.own hown, by have := HUL.out; omega, HU.out, hb⟩
theorem inside_any (U C : Option Addr) (cu cc : Nat) (us : List Int) (ls : List (List Int)) (q : Bool) (w : World) (hU : Ints w U us) (hC : Lists w C ls) (hul : us.length ≤ 1000000) (hll : ls.length ≤ 1000000) (hle : ∀ l ∈ ls, l.length ≤ 1000000) (hq : q = true ↔ (∃ m ∈ ls, ∀ x ∈ us, x ∈ m) ∨ us = []) :
    Calls Tryz.prog 33 #[.slice U us.length cu, .slice C ls.length cc] w fun e w' => e = .returned (.bool q) ∧ Dr w w' := by
  have HQ := Lib.hid hq
  have HLE := Lib.hid hle
  clear hq hle
  go_enter Tryz.func33, Tryz.ntmps33
  go_wp2
  go_loopw [5] (fun s5 wr => ∃ i : Nat, s5 = .int .i64 i ∧ i ≤ ls.length ∧ Hid (¬ ∃ m ∈ ls.take i, ∀ x ∈ us, x ∈ m) ∧ Dr w wr) (fun s5 _ => ls.length - (intOf s5).toNat)
  case atStart => exact ⟨0, rfl, Nat.zero_le _, Lib.hid (by simp), Dr.refl _⟩
  case round =>
    obtain ⟨wo, rfl⟩ : ∃ wo : World, wo = wr := ⟨_, rfl⟩
    obtain ⟨i, rfl, hi, HG, hdr⟩ := hrel
    by_cases hlt : i < ls.length
    · obtain ⟨ad, E, c, rfl, hc, hE⟩ := (hC.keep hdr.below).at hlt
      have hel := HLE.out ls[i] (List.getElem_mem _)
      have HY : Hid ((∀ x ∈ us, x ∈ ls[i]) → q = true) := Lib.hid (fun h => HQ.out.2 (.inl ⟨_, List.getElem_mem _, h⟩))
      have HN : Hid (¬ (∀ x ∈ us, x ∈ ls[i]) → ¬ ∃ m ∈ ls.take (i + 1), ∀ x ∈ us, x ∈ m) := Lib.hid (fun h => by
        rintro ⟨m, hm, h2⟩
        rcases List.mem_cons.1 ((take_mem_succ hlt m).2 hm) with rfl | h3
        · exact h h2
        · exact HG.out ⟨m, h3, h2⟩)
      generalize ls[i] = v at *
      obtain ⟨r, hr⟩ : ∃ r : Bool, r = true ↔ ∀ x ∈ us, x ∈ v := ⟨decide (∀ x ∈ us, x ∈ v), decide_eq_true_iff⟩
      have HS := Lib.hid (subset_any U E cu c us v r wo (hU.keep hdr.below) hE hul hel hr)
      have HR := Lib.hid hr
      have wi : IntKind.i64.wrap ((i : Int) + 1) = (i : Int) + 1 := IntWalk.i64_in _ (by omega)
      clear hr
      cases r with
      | true =>
        obtain rfl := HY.out (HR.out.1 rfl)
        go_wp2_with (go_at_call 15; refine HS.out.mono ?_; rintro e w2 ⟨rfl, hd2⟩)
        go_ret
        obtain ⟨x, rfl⟩ := hdr
        obtain ⟨y, rfl⟩ := hd2
        exact ⟨rfl, by rw [World.drewN_drewN]; exact ⟨_, rfl⟩⟩
      | false =>
        have HN2 := Lib.hid (HN.out (fun h => by have := HR.out.2 h; cases this))
        go_wp2_with (go_at_call 15; refine HS.out.mono ?_; rintro e w2 ⟨rfl, hd2⟩)
        go_roundw
        case rel =>
          refine ⟨i + 1, by go_num, by omega, HN2, ?_⟩
          obtain ⟨x, rfl⟩ := hdr
          obtain ⟨y, rfl⟩ := hd2
          rw [World.drewN_drewN]; exact ⟨_, rfl⟩
        case measure => simp [intOf]; omega
    · obtain rfl : i = ls.length := by omega
      have di : decide ((ls.length : Int) < (ls.length : Int)) = false := by simp
      have HE : Hid (q = ((us.length : Int) == 0)) := Lib.hid (by
        rw [Bool.eq_iff_iff, HQ.out, beq_iff_eq]
        have := HG.out
        rw [List.take_length] at this
        constructor
        · rintro (h | h)
          · exact absurd h this
          · rw [h]; rfl
        · intro h
          exact .inr (List.eq_nil_of_length_eq_zero (by omega)))
      go_wp2
      go_ret
      refine ⟨?_, hdr⟩
      rw [HE.out]
      simp
end Go.Proofs.Tg.Sx
end
