/- Parts of the proof: WD2, WD3, WS1. -/
import Derived.Laws.OwnMore
import Derived.Maps.AppendAt
import Derived.Test.YticpnfjdooileaaGreatDoorProg
import Derived.WalkKit
import Derived.WalkSpells
import Derived.WalkLawsBesides
import Derived.Deep.QuietTactic
import Derived.BigQuiet
import Derived.Lib.Hide
import Derived.Lib.Strings
import Derived.Lib.IndexBytes
import Derived.Outline
import Derived.Test.YticpnfjdooileaaGreatDoorMCPA0
import Derived.Test.YticpnfjdooileaaGreatDoorMCPA2
import Derived.Test.YticpnfjdooileaaGreatDoorMCPA5
section
/- Walks: characters. -/
namespace Go.Proofs.Tg
open Go.RowKit Go.Gr Go.Ev Go.Mo
set_option maxHeartbeats 2000000
set_option maxRecDepth 100000
theorem fill_zero (L : List Int) (k n : Nat) (hn : L.length = n) (hk : k < n) (h : L[k] = 0) : L.take k ++ List.replicate (n - k) 0 = L.take (k + 1) ++ List.replicate (n - (k + 1)) 0 := by
  rw [List.take_succ_eq_append_getElem (by omega), h, show n - k = (n - (k + 1)) + 1 by omega, List.replicate_succ]; simp
theorem fill_set (L : List Int) (k n : Nat) (x : Int) (hn : L.length = n) (hk : k < n) (h : L[k] = x) : (L.take k ++ List.replicate (n - k) 0).set k x = L.take (k + 1) ++ List.replicate (n - (k + 1)) 0 := by
  have hl : (L.take k).length = k := by rw [List.length_take]; omega
  rw [List.take_succ_eq_append_getElem (by omega), h, show n - k = (n - (k + 1)) + 1 by omega, List.replicate_succ, List.set_append_right _ _ (by omega), hl, Nat.sub_self, List.set_cons_zero]; simp
theorem small_of_vld {m : List Int} (h : vldM m = true) : m.length ≤ 6 ∧ ∀ x ∈ m, 0 ≤ x ∧ x ≤ 24 := by
  obtain ⟨h1, h2, h3⟩ := vldM_iff.1 h
  refine ⟨h1, fun x hx => ⟨h2 x hx, ?_⟩⟩
  obtain ⟨i, hi, rfl⟩ := List.mem_iff_getElem.1 hx
  have a := sum_take_le m (i + 1) h2
  rw [sum_take_succ m i hi] at a
  have b := sum_nonneg (m.take i) (fun e he => h2 e (List.mem_of_mem_take he))
  omega
theorem char_any (S M : Option Addr) (cs cm : Nat) (s : List (List Int)) (m : List Int) (w : World) (hS : Lists w S s) (hM : Ints w M m) (hs : s.length ≤ 1000) (hm : vldM m = true) (hb : ∀ v ∈ s, b01 v = true) (hl : ∀ v ∈ s, v.length = m.length) :
    Calls Tryz.prog 35 #[.slice S s.length cs, .slice M m.length cm] w (RetNew (chr s m) w) := by
  obtain ⟨hm6, hmx⟩ := small_of_vld hm
  have HB := Lib.hid hb
  have HL := Lib.hid hl
  have HMX := Lib.hid hmx
  clear hb hl hmx
  have hmk := fun W => make_ints s.length s.length (Nat.le_refl _) (by omega) W
  have HPM := Lib.hid (pack_any M cm m w hM (by omega) (fun x hx => by have := HMX.out x hx; omega))
  have hpm : pk m m.length < 64 := by
    have := pk_lt m m.length
    have h6 : 2 ^ m.length ≤ 2 ^ 6 := Nat.pow_le_pow_right (by omega) hm6
    omega
  go_enter Tryz.func35, Tryz.ntmps35
  go_wp2_with (go_at_call 26; refine HPM.out.mono ?_; rintro e w' ⟨rfl, rfl⟩)
  clear hmk
  go_loopw [16] (fun i wr => ∃ k : Nat, k ≤ s.length ∧ i = .int .i64 k ∧ Blk wr w.heap.size 3 (iarr ((chr s m).take k ++ List.replicate (s.length - k) 0)) ∧ Below w.heap.size w wr) (fun i _ => s.length - (intOf i).toNat)
  case atStart =>
    refine ⟨0, Nat.zero_le _, rfl, ?_, (Below.refl _ _).alloc (Nat.le_refl _) _⟩
    have e : iarr ((chr s m).take 0 ++ List.replicate (s.length - 0) 0) = madeCells #[.int .i64 0] s.length := (iarr_made s.length).symm
    rw [e]
    exact Blk.new w 3 _
  case round =>
    obtain ⟨k, hk, rfl, B, hbw⟩ := hrel
    have hcl := chr_len s m
    by_cases hlt : k < s.length
    · obtain ⟨ad, A, c, rfl, hc, hA⟩ := (hS.keep hbw).at hlt
      have hbv := HB.out s[k] (List.getElem_mem _)
      have hlv := HL.out s[k] (List.getElem_mem _)
      have HCH : Hid ((chr s m)[k]'(by rw [hcl]; exact hlt) = if size (pk s[k] s[k].length &&& pk m m.length) % 2 = 1 then 1 else 0) := Lib.hid (by
        unfold chr
        rw [List.getElem_map]
        exact chr_odd (b01_iff.1 hbv) (fun x hx => (HMX.out x hx).1) hlv (by omega))
      generalize s[k] = v at *
      have HPV := Lib.hid (pack_any A c v wr hA (by omega) (fun x hx => by
        rcases b01_iff.1 hbv x hx with h | h <;> omega))
      have hpv : pk v v.length < 64 := by
        have := pk_lt v v.length
        have h6 : 2 ^ v.length ≤ 2 ^ 6 := Nat.pow_le_pow_right (by omega) (by omega)
        omega
      clear hbv hA hlv
      generalize pk v v.length = pv at *
      generalize pk m m.length = pm at *
      have hL2 : ((chr s m).take k ++ List.replicate (s.length - k) 0).length = s.length := by rw [List.length_append, List.length_take, List.length_replicate, hcl]; omega
      by_cases hod : size (pv &&& pm) % 2 = 1
      · have HO : Hid (∀ W, Calls Tryz.prog 27 #[.int .i64 pv, .int .i64 pm] W fun r w' => r = .returned (.bool true) ∧ W = w') := Lib.hid (fun W => (odd_any pv pm W (by omega) (by omega)).mono fun r w' ⟨h1, h2⟩ => ⟨by rw [h1, decide_eq_true hod], h2⟩)
        have HST : Hid (((chr s m).take k ++ List.replicate (s.length - k) 0).set k 1 = (chr s m).take (k + 1) ++ List.replicate (s.length - (k + 1)) 0) := Lib.hid (fill_set _ k _ 1 hcl hlt (by rw [HCH.out, if_pos hod]))
        have HBB := Lib.hid (B.set k (.int .i64 1))
        have c0 := B.cell k
        have f0 := B.frozen k
        rw [iarr_at _ (by rw [hL2]; exact hlt)] at c0
        generalize ((chr s m).take k ++ List.replicate (s.length - k) 0)[k]'(by rw [hL2]; exact hlt) = old at c0
        clear hod B hL2
        go_wp2_with (first
          | (go_at_call 26; (with_reducible refine HPV.out.mono ?_); rintro e w' ⟨rfl, rfl⟩)
          | (go_at_call 27; refine (HO.out _).mono ?_; rintro e w' ⟨rfl, rfl⟩))
        go_roundw
        case rel =>
          refine ⟨k + 1, by omega, by go_num, ?_, hbw.setCell (Nat.le_refl _) _⟩
          have := HBB.out
          rw [iarr_set, HST.out] at this
          exact this
        case measure => simp [intOf]; omega
      · have HO : Hid (∀ W, Calls Tryz.prog 27 #[.int .i64 pv, .int .i64 pm] W fun r w' => r = .returned (.bool false) ∧ W = w') := Lib.hid (fun W => (odd_any pv pm W (by omega) (by omega)).mono fun r w' ⟨h1, h2⟩ => ⟨by rw [h1, decide_eq_false hod], h2⟩)
        have HST : Hid ((chr s m).take k ++ List.replicate (s.length - k) 0 = (chr s m).take (k + 1) ++ List.replicate (s.length - (k + 1)) 0) := Lib.hid (fill_zero _ k _ hcl hlt (by rw [HCH.out, if_neg hod]))
        clear hod hL2
        go_wp2_with (first
          | (go_at_call 26; (with_reducible refine HPV.out.mono ?_); rintro e w' ⟨rfl, rfl⟩)
          | (go_at_call 27; refine (HO.out _).mono ?_; rintro e w' ⟨rfl, rfl⟩))
        go_roundw
        case rel => exact ⟨k + 1, by omega, by go_num, by rw [← HST.out]; exact B, hbw⟩
        case measure => simp [intOf]; omega
    · obtain rfl : k = s.length := by omega
      go_wp2
      go_ret
      refine ⟨by rw [hcl]; rfl, ?_, hbw⟩
      rw [Nat.sub_self, List.replicate_zero, List.append_nil, List.take_of_length_le (by omega)] at B
      exact B
/-- What the character of a monomial is, or the error. -/
def RetChar (s : List (List Int)) (m : List Int) (w : World) (e : Ending) (w' : World) : Prop :=
  ∃ A c, e = .returned (.tuple #[.slice A (if chk s [m] = 0 then chr s m else []).length c, .int .i64 (chk s [m])]) ∧ Ints w' A (if chk s [m] = 0 then chr s m else []) ∧ Below w.heap.size w w'
theorem sl_new {w : World} {g : Nat} {l : List Int} (h : Blk w g 3 (iarr l)) : Ints w (some ⟨g, 0, none⟩) l :=
  ⟨by simp, fun _ => ⟨_, rfl, h.lt, fun j u hu => by rw [add_lit, Nat.zero_add, h.cell j]; simpa [iarr] using hu⟩⟩
theorem lists_one {w : World} {g c : Nat} {A : Option Addr} {m : List Int} (hA : Ints w A m) (h : w.cell? ⟨g, 0, none⟩ = some (.slice A m.length c)) : Lists w (some ⟨g, 0, none⟩) [m] := by
  refine ⟨fun _ => (A, c), ⟨by simp, fun _ => ⟨_, rfl, World.block_lt_of_cell? w _ h, fun j u hu => ?_⟩⟩, fun i hi => ?_⟩
  · match j with
    | 0 =>
      have e : u = .slice A m.length c := by simpa using hu.symm
      subst e
      exact h
    | j + 1 => simp at hu
  · have : i = 0 := by simpa using hi
    subst this
    exact hA
theorem Char_any (S M : Option Addr) (cs cm : Nat) (s : List (List Int)) (m : List Int) (w : World) (hS : Lists w S s) (hM : Ints w M m) (hs : s.length ≤ 1000) (hs2 : ∀ v ∈ s, v.length ≤ 1000) (hm2 : m.length ≤ 1000) :
    Calls Tryz.prog 17 #[.slice S s.length cs, .slice M m.length cm] w (RetChar s m w) := by
  have hbA : Below w.heap.size w (w.alloc (.cells #[.slice M m.length cm] 33)) := (Below.refl _ _).alloc (Nat.le_refl _) _
  have hL1 := lists_one (hM.keep hbA) (Blk.cell (Blk.new w 33 #[.slice M m.length cm]) 0)
  have HC := Lib.hid (check_any S (some ⟨w.heap.size, 0, none⟩) cs 1 s [m] _ (hS.keep hbA) hL1 hs (by simp) hs2 (by simpa using hm2))
  clear hL1
  by_cases hz : chk s [m] = 0
  · obtain ⟨i1, i2, i3⟩ := chk_inv hz
    have HK := Lib.hid (char_any S M cs cm s m _ (hS.keep hbA) (hM.keep hbA) hs (i1 m (by simp)) i2 (fun v hv => i3 v hv m (by simp)))
    rw [hz] at HC
    have HZ := Lib.hid hz
    clear hz
    go_enter Tryz.func17, Tryz.ntmps17
    go_wp2_with (first
      | (go_at_call 34; refine HC.out.mono ?_; rintro e w' ⟨rfl, rfl⟩)
      | (go_at_call 35; refine HK.out.mono ?_; rintro e w2 ⟨rfl, hB, hb2⟩))
    go_ret2
    refine ⟨some ⟨w.heap.size + 1, 0, none⟩, (chr s m).length, ?_, ?_, hbA.trans (hb2.mono (by simp))⟩
    · rw [HZ.out, if_pos rfl]; simp
    · rw [HZ.out, if_pos rfl]
      have := sl_new hB
      simpa using this
  · have hzb : (chk s [m] != 0) = true := by simp [hz]
    have HE : Hid ((if chk s [m] = 0 then chr s m else []) = []) := Lib.hid (if_neg hz)
    clear hz
    unfold RetChar
    rw [HE.out]
    generalize chk s [m] = z at *
    go_enter Tryz.func17, Tryz.ntmps17
    go_wp2_with (go_at_call 34; refine HC.out.mono ?_; rintro e w' ⟨rfl, rfl⟩)
    go_ret2
    exact ⟨none, 0, rfl, Sl.nil _ _ _, hbA⟩
end Go.Proofs.Tg
end
section
/- A slice of slices of numbers that a call makes and lets grow: the outer row, the inner rows, all apart. -/
namespace Go.Proofs.Tg
open Go.RowKit
/-- The outer row holds the slices val j; each is a row of the call's own; no two share a block. -/
structure Fam (base : Nat) (C : Option Addr) (cc : Nat) (Cl : List (List Nat)) (val : Nat → Value) (w : World) : Prop where
  row : w.ownsRow base 33 1 (.slice C Cl.length cc) Cl.length ((List.range Cl.length).map val)
  own : ∀ j, j < Cl.length → w.ownsRow base 3 1 (val j) (Cl.getD j []).length ((Cl.getD j []).map vn)
  sep : ∀ i j, i < Cl.length → j < Cl.length → i ≠ j → (val i).ownBlock = none ∨ (val i).ownBlock ≠ (val j).ownBlock
theorem Fam.nil (base : Nat) (w : World) : Fam base none 0 [] (fun _ => .slice none 0 0) w :=
  ⟨World.ownsRow_nil _ _ _ _, fun j h => absurd h (by simp), fun i j h => absurd h (by simp)⟩
theorem Fam.keep {base : Nat} {C : Option Addr} {cc : Nat} {Cl : List (List Nat)} {val : Nat → Value} {w w' : World} (h : Fam base C cc Cl val w) (hb : Below w.heap.size w w') : Fam base C cc Cl val w' :=
  ⟨own_below h.row hb (Nat.le_refl _), fun j hj => own_below (h.own j hj) hb (Nat.le_refl _), h.sep⟩
theorem Fam.alloc {base : Nat} {C : Option Addr} {cc : Nat} {Cl : List (List Nat)} {val : Nat → Value} {w : World} (h : Fam base C cc Cl val w) (o : Obj) : Fam base C cc Cl val (w.alloc o) :=
  h.keep ((Below.refl _ _).alloc (Nat.le_refl _) o)
/-- Another block was written. -/
theorem Fam.other {base : Nat} {C : Option Addr} {cc : Nat} {Cl : List (List Nat)} {val : Nat → Value} {w w' : World} {row : Option Nat} (h : Fam base C cc Cl val w) (hg : w.grownBy w' row)
    (h1 : (Value.slice C Cl.length cc).ownBlock = none ∨ (Value.slice C Cl.length cc).ownBlock ≠ row) (h2 : ∀ j, j < Cl.length → (val j).ownBlock = none ∨ (val j).ownBlock ≠ row) : Fam base C cc Cl val w' :=
  ⟨h.row.kept hg h1, fun j hj => (h.own j hj).kept hg (h2 j hj), h.sep⟩
/-- A new, empty class. -/
theorem Fam.push {base : Nat} {C C' : Option Addr} {cc cc' : Nat} {Cl : List (List Nat)} {val : Nat → Value} {w w' : World} (h : Fam base C cc Cl val w)
    (hr : w'.ownsRow base 33 1 (.slice C' (Cl.length + 1) cc') (Cl.length + 1) ((List.range Cl.length).map val ++ [.slice none 0 0])) (hg : w.grownBy w' (Value.slice C Cl.length cc).ownBlock) :
    Fam base C' cc' (Cl ++ [[]]) (fun j => if j = Cl.length then .slice none 0 0 else val j) w' := by
  have hlen : (Cl ++ [[]]).length = Cl.length + 1 := by simp
  refine ⟨?_, fun j hj => ?_, fun i j hi hj hne => ?_⟩
  · rw [hlen]
    have e : (List.range (Cl.length + 1)).map (fun j => if j = Cl.length then Value.slice none 0 0 else val j) = (List.range Cl.length).map val ++ [.slice none 0 0] := by
      rw [List.range_succ, List.map_append]
      congr 1
      · refine List.map_congr_left fun j hj => ?_
        have := List.mem_range.1 hj
        rw [if_neg (by omega)]
      · simp
    rw [e]; exact hr
  · rw [hlen] at hj
    by_cases e : j = Cl.length
    · subst e
      rw [if_pos rfl]
      simp only [List.getD_eq_getElem?_getD, List.getElem?_append_right (Nat.le_refl _), Nat.sub_self]
      exact World.ownsRow_nil _ _ _ _
    · rw [if_neg e]
      have e2 : (Cl ++ [[]]).getD j [] = Cl.getD j [] := by
        simp only [List.getD_eq_getElem?_getD, List.getElem?_append_left (show j < Cl.length by omega)]
      rw [e2]
      exact (h.own j (by omega)).kept hg (own_ne (h.own j (by omega)) h.row (by decide))
  · rw [hlen] at hi hj
    by_cases e1 : i = Cl.length
    · rw [if_pos e1]; exact .inl rfl
    · rw [if_neg e1]
      by_cases e2 : j = Cl.length
      · rw [if_pos e2]
        cases hb : (val i).ownBlock with
        | none => exact .inl rfl
        | some g => exact .inr (by simp [Value.ownBlock])
      · rw [if_neg e2]
        exact h.sep i j (by omega) (by omega) hne
/-- A number is appended to class k and the new slice is stored. -/
theorem Fam.add {base : Nat} {g : Nat} {cc : Nat} {Cl : List (List Nat)} {val : Nat → Value} {w w' : World} {k i : Nat} {v' : Value} (h : Fam base (some ⟨g, 0, none⟩) cc Cl val w) (hk : k < Cl.length)
    (hr : w'.ownsRow base 3 1 v' ((Cl.getD k []).length + 1) ((Cl.getD k []).map vn ++ [vn i])) (hg : w.grownBy w' (val k).ownBlock) (hat : v'.ownBlock = (val k).ownBlock ∨ v'.ownBlock = some w.heap.size) :
    Fam base (some ⟨g, 0, none⟩) cc (Cl.set k (Cl.getD k [] ++ [i])) (fun j => if j = k then v' else val j) (w'.setCell ⟨g, k, none⟩ v') := by
  have hlen : (Cl.set k (Cl.getD k [] ++ [i])).length = Cl.length := by simp
  have hrow' := h.row.kept hg (own_ne h.row (h.own k hk) (by decide))
  have hst := hrow'.stored k v'
  have hgd : ∀ j, (Cl.set k (Cl.getD k [] ++ [i])).getD j [] = if j = k then Cl.getD k [] ++ [i] else Cl.getD j [] := by
    intro j
    simp only [List.getD_eq_getElem?_getD, List.getElem?_set]
    by_cases e : k = j
    · subst e; simp [hk]
    · simp [e, Ne.symm e]
  refine ⟨?_, fun j hj => ?_, fun a b ha hb hne => ?_⟩
  · rw [hlen]
    have e : (List.range Cl.length).map (fun j => if j = k then v' else val j) = ((List.range Cl.length).map val).set k v' := by
      refine List.ext_getElem (by simp) fun j h1 h2 => ?_
      simp only [List.getElem_map, List.getElem_range, List.getElem_set]
      by_cases e : k = j
      · subst e; simp
      · simp [e, Ne.symm e]
    rw [e]
    exact hst.1
  · rw [hlen] at hj
    rw [hgd]
    by_cases e : j = k
    · rw [if_pos e, if_pos e]
      have hr2 : w'.ownsRow base 3 1 v' (Cl.getD k [] ++ [i]).length ((Cl.getD k [] ++ [i]).map vn) := by simpa using hr
      exact hr2.kept hst.2 (own_ne hr2 hrow' (by decide))
    · rw [if_neg e, if_neg e]
      have h1 := (h.own j hj).kept hg (h.sep j k hj hk e)
      exact h1.kept hst.2 (own_ne h1 hrow' (by decide))
  · rw [hlen] at ha hb
    have hlt : ∀ j, j < Cl.length → (val j).ownBlock ≠ some w.heap.size := by
      intro j hj e
      have := ((h.own j hj).lt _ e).2
      omega
    by_cases e1 : a = k
    · rw [if_pos e1, if_neg (by omega)]
      rcases hat with hx | hx
      · rw [hx, ← e1]
        exact h.sep a b ha hb hne
      · right; rw [hx]; exact fun e => hlt b hb e.symm
    · rw [if_neg e1]
      by_cases e2 : b = k
      · rw [if_pos e2]
        rcases hat with hx | hx
        · rw [hx, ← e2]
          exact h.sep a b ha hb hne
        · right; rw [hx]; exact hlt a ha
      · rw [if_neg e2]
        exact h.sep a b ha hb hne
def toI (l : List Nat) : List Int := l.map fun x : Nat => (x : Int)
theorem Fam.lists {base : Nat} {C : Option Addr} {cc : Nat} {Cl : List (List Nat)} {val : Nat → Value} {w : World} (h : Fam base C cc Cl val w) : Lists w C (Cl.map toI) := by
  have hsl : ∀ j, j < Cl.length → ∃ A c, val j = .slice A (Cl.getD j []).length c ∧ Sl w A (Cl.getD j []).length 1 ((Cl.getD j []).map vn) := by
    intro j hj
    obtain ⟨A, c, h1, _, h3⟩ := Sl.of_own (h.own j hj)
    exact ⟨A, c, h1, h3⟩
  have hch : ∃ f : Nat → Option Addr × Nat, ∀ j, j < Cl.length → val j = .slice (f j).1 (Cl.getD j []).length (f j).2 ∧ Sl w (f j).1 (Cl.getD j []).length 1 ((Cl.getD j []).map vn) := by
    have : ∀ j, ∃ p : Option Addr × Nat, j < Cl.length → val j = .slice p.1 (Cl.getD j []).length p.2 ∧ Sl w p.1 (Cl.getD j []).length 1 ((Cl.getD j []).map vn) := by
      intro j
      by_cases hj : j < Cl.length
      · obtain ⟨A, c, h1⟩ := hsl j hj
        exact ⟨(A, c), fun _ => h1⟩
      · exact ⟨(none, 0), fun h => absurd h hj⟩
    exact ⟨fun j => Classical.choose (this j), fun j => Classical.choose_spec (this j)⟩
  obtain ⟨f, hf⟩ := hch
  have hgd : ∀ j, j < Cl.length → (Cl.map toI).getD j [] = toI (Cl.getD j []) := by
    intro j hj; simp [hj]
  refine ⟨f, ?_, fun j hj => ?_⟩
  · have := Sl.own h.row
    have e : ((List.range (Cl.map toI).length).map fun i => Value.slice (f i).1 ((Cl.map toI).getD i []).length (f i).2) = (List.range Cl.length).map val := by
      rw [List.length_map]
      refine List.map_congr_left fun j hj => ?_
      have hj := List.mem_range.1 hj
      rw [hgd j hj, (hf j hj).1]
      simp [toI]
    rw [e, List.length_map]
    exact this
  · have hj' : j < Cl.length := by simpa using hj
    rw [hgd j hj']
    have := (hf j hj').2
    have e : (toI (Cl.getD j [])).map vi = (Cl.getD j []).map vn := by simp [toI, vi, vn]
    show Sl w (f j).1 (toI (Cl.getD j [])).length 1 ((toI (Cl.getD j [])).map vi)
    rw [e, show (toI (Cl.getD j [])).length = (Cl.getD j []).length by simp [toI]]
    exact this
end Go.Proofs.Tg
end
section
/- Walks: cutting a sign and digits off a text. -/
namespace Go.Proofs.Tg
open Go.RowKit Go.Qn
set_option maxHeartbeats 400000
def bs (l : List UInt8) : ByteArray := ⟨l.toArray⟩
theorem bs_self (s : ByteArray) : bs s.data.toList = s := by cases s; rfl
theorem bs_data (l : List UInt8) : (bs l).data.toList = l := rfl
theorem bs_size (l : List UInt8) : (bs l).size = l.length := by show l.toArray.size = _; simp
theorem ext_bs (s : ByteArray) (a b : Nat) : s.extract a b = bs ((s.data.toList.drop a).take (b - a)) := by rw [← bs_self (s.extract a b), Lib.extract_data]
theorem ext_end (s : ByteArray) (a : Nat) : s.extract a s.size = bs (s.data.toList.drop a) := by rw [← bs_self (s.extract a s.size), Lib.extract_to_end]
theorem len_size (s : ByteArray) : s.data.toList.length = s.size := by rw [Array.length_toList]; rfl
theorem hasp_any (s : ByteArray) (w : World) (hs : s.size ≤ 64) :
    Calls Tryz.prog 107 #[.string s, .string ⟨#[45]⟩] w fun e w' => e = .returned (.bool (decide (s.data.toList.head? = some 45))) ∧ w = w' := by
  go_enter Tryz.func107, Tryz.ntmps107
  go_wp2
  · have h1 : 1 ≤ (s.size : Int) := by assumption
    go_ret
    refine ⟨?_, rfl⟩
    show Ending.returned (.bool ((s.extract 0 1).toList == [45])) = _
    rw [Lib.toList_data, Lib.extract_data]
    have hl := len_size s
    congr 2
    cases hd : s.data.toList with
    | nil => rw [hd] at hl; simp at hl; omega
    | cons c t => by_cases hc : c = 45 <;> simp [hc]
  · have h1 : (s.size : Int) < 1 := by assumption
    go_ret
    refine ⟨?_, rfl⟩
    have hl := len_size s
    have : s.data.toList = [] := List.eq_nil_of_length_eq_zero (by omega)
    rw [this]; rfl
theorem hasp_t (s : ByteArray) (w : World) (hs : s.size ≤ 64) (h : s.data.toList.head? = some 45) :
    Calls Tryz.prog 107 #[.string s, .string ⟨#[45]⟩] w fun e w' => e = .returned (.bool true) ∧ w = w' :=
  (hasp_any s w hs).mono fun e w' ⟨h1, h2⟩ => ⟨by rw [h1, decide_eq_true h], h2⟩
theorem hasp_f (s : ByteArray) (w : World) (hs : s.size ≤ 64) (h : s.data.toList.head? ≠ some 45) :
    Calls Tryz.prog 107 #[.string s, .string ⟨#[45]⟩] w fun e w' => e = .returned (.bool false) ∧ w = w' :=
  (hasp_any s w hs).mono fun e w' ⟨h1, h2⟩ => ⟨by rw [h1, decide_eq_false h], h2⟩
theorem cutl_any (s : ByteArray) (w : World) (hs : s.size ≤ 64) :
    Calls Tryz.prog 86 #[.string s, .string ⟨#[45]⟩] w fun e w' => e = .returned (.tuple #[.string (bs (cut s.data.toList).2), .bool (cut s.data.toList).1]) ∧ w = w' := by
  by_cases h : s.data.toList.head? = some 45
  · have h1 : 1 ≤ (s.size : Int) := by
      have hl := len_size s
      cases hd : s.data.toList with
      | nil => rw [hd] at h; cases h
      | cons c t => rw [hd] at hl; simp at hl; omega
    have H := Lib.hid h
    clear h
    go_enter Tryz.func86, Tryz.ntmps86
    go_wp2_with (go_at_call 107; refine (hasp_t _ _ hs H.out).mono ?_; rintro e w' ⟨rfl, rfl⟩)
    go_ret2
    refine ⟨?_, rfl⟩
    have H := H.out
    show Ending.returned (.tuple #[.string (s.extract 1 s.size), .bool true]) = _
    rw [ext_end]
    unfold cut
    rw [if_pos H]; simp
  · have H := Lib.hid h
    clear h
    go_enter Tryz.func86, Tryz.ntmps86
    go_wp2_with (go_at_call 107; refine (hasp_f _ _ hs H.out).mono ?_; rintro e w' ⟨rfl, rfl⟩)
    go_ret2
    refine ⟨?_, rfl⟩
    have H := H.out
    show Ending.returned (.tuple #[.string s, .bool false]) = _
    unfold cut
    rw [if_neg H, bs_self]
theorem cutp_any (s : ByteArray) (w : World) (hs : s.size ≤ 64) :
    Calls Tryz.prog 75 #[.string s, .string ⟨#[45]⟩] w fun e w' => e = .returned (.tuple #[.string (bs (cut s.data.toList).2), .bool (cut s.data.toList).1]) ∧ w = w' := by
  go_enter Tryz.func75, Tryz.ntmps75
  go_wp2_with (go_at_call 86; refine (cutl_any _ _ hs).mono ?_; rintro e w' ⟨rfl, rfl⟩)
  go_ret2
  exact ⟨rfl, rfl⟩
theorem tw_at {p : UInt8 → Bool} (l : List UInt8) (k : Nat) (h : ∀ c ∈ l.take k, p c = true) (hx : l.length ≤ k ∨ ∃ h : k < l.length, p l[k] = false) : l.takeWhile p = l.take k ∧ l.dropWhile p = l.drop k := by
  have := tw_app (p := p) (l.take k) (l.drop k) h (by
    rcases hx with hx | ⟨hk, hx⟩
    · left; rw [List.drop_eq_nil_iff]; exact hx
    · right; exact ⟨l[k], l.drop (k + 1), by rw [List.drop_eq_getElem_cons hk], hx⟩)
  rwa [List.take_append_drop] at this
theorem isD_int {c : UInt8} (h : isD c = true) : (48 : Int) ≤ (c.toNat : Int) ∧ (c.toNat : Int) ≤ 57 := by rw [isD_iff] at h; omega
set_option maxHeartbeats 1000000 in
theorem digits_any (s : ByteArray) (w : World) (hs : s.size ≤ 64) :
    Calls Tryz.prog 76 #[.string s] w fun e w' => e = .returned (.tuple #[.string (bs (s.data.toList.takeWhile isD)), .string (bs (s.data.toList.dropWhile isD))]) ∧ Below w.heap.size w w' := by
  go_enter Tryz.func76, Tryz.ntmps76
  go_wp2
  go_loop [4] (fun i => ∃ k : Nat, k ≤ s.size ∧ i = .int .i64 k ∧ Hid (∀ c ∈ s.data.toList.take k, isD c = true)) (fun i => s.size - (intOf i).toNat)
  case atStart => exact ⟨0, Nat.zero_le _, rfl, Lib.hid (by simp)⟩
  case round =>
    obtain ⟨k, hk, rfl, HD⟩ := hrel
    have hl := Lib.hid (len_size s)
    by_cases hlt : k < s.size
    · by_cases hc : isD s[k] = true
      · obtain ⟨c1, c2⟩ := isD_int hc
        have d1 : decide ((48 : Int) ≤ (s[k].toNat : Int)) = true := by simpa using c1
        have d2 : decide ((s[k].toNat : Int) ≤ 57) = true := by simpa using c2
        have HD' : Hid (∀ c ∈ s.data.toList.take (k + 1), isD c = true) := Lib.hid (by
          intro c hc'
          rw [List.take_succ_eq_append_getElem (by rw [hl.out]; exact hlt)] at hc'
          rcases List.mem_append.1 hc' with h | h
          · exact HD.out c h
          · simp only [List.mem_cons, List.not_mem_nil, or_false] at h
            rw [h]; exact hc)
        clear hc
        go_wp2
        go_round
        case rel => exact ⟨k + 1, by omega, by go_num, HD'⟩
        case measure => simp [intOf]; omega
      · have hx : (s[k].toNat : Int) < 48 ∨ 57 < (s[k].toNat : Int) := by
          rw [isD_iff] at hc; omega
        have HX : Hid (s.data.toList.takeWhile isD = s.data.toList.take k ∧ s.data.toList.dropWhile isD = s.data.toList.drop k) := Lib.hid (tw_at _ k HD.out (.inr ⟨by rw [hl.out]; exact hlt, eq_false_of_ne_true hc⟩))
        clear hc
        have q1 : (k : Int) ≤ (s.size : Int) := by omega
        have q2 : (0 : Int) ≤ (k : Int) := by omega
        have q3 : ((k : Int)).toNat = k := by omega
        rcases hx with hx | hx
        · have d1 : decide ((48 : Int) ≤ (s[k].toNat : Int)) = false := by simp; omega
          go_wp2
          go_quiet (fail)
          go_wp2
          go_ret2
          refine ⟨?_, below_drewN (Below.refl _ _) _⟩
          show Ending.returned (.tuple #[.string (s.extract 0 k), .string (s.extract k s.size)]) = _
          rw [ext_bs, ext_end, HX.out.1, HX.out.2]; simp
        · have d1 : decide ((48 : Int) ≤ (s[k].toNat : Int)) = true := by simp; omega
          have d2 : decide ((s[k].toNat : Int) ≤ 57) = false := by simp; omega
          go_wp2
          go_quiet (fail)
          go_wp2
          go_ret2
          refine ⟨?_, below_drewN (Below.refl _ _) _⟩
          show Ending.returned (.tuple #[.string (s.extract 0 k), .string (s.extract k s.size)]) = _
          rw [ext_bs, ext_end, HX.out.1, HX.out.2]; simp
    · obtain rfl : k = s.size := by omega
      have HX : Hid (s.data.toList.takeWhile isD = s.data.toList.take s.size ∧ s.data.toList.dropWhile isD = s.data.toList.drop s.size) := Lib.hid (tw_at _ s.size HD.out (.inl (by rw [hl.out]; omega)))
      have q2 : (0 : Int) ≤ (s.size : Int) := by omega
      have q3 : ((s.size : Int)).toNat = s.size := by omega
      have d0 : decide (s.size < s.size) = false := by simp
      go_wp2
      go_quiet (fail)
      go_wp2
      go_ret2
      refine ⟨?_, below_drewN (Below.refl _ _) _⟩
      show Ending.returned (.tuple #[.string s, .string ByteArray.empty]) = _
      have h1 : s.data.toList.take s.size = s.data.toList := List.take_of_length_le (by rw [hl.out]; omega)
      have h2 : s.data.toList.drop s.size = [] := List.drop_eq_nil_iff.2 (by rw [hl.out]; omega)
      rw [HX.out.1, HX.out.2, h1, h2, bs_self]; rfl
end Go.Proofs.Tg
end
