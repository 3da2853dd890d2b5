/- Parts of the proof: WM1, WD2, WD3, WS1, WD4, AD1, Fr19. -/
import Derived.Laws.OwnMore
import Derived.Maps.AppendAt
import Derived.Test.YtodjofbneeejpaaGreatDoorProg
import Derived.WalkKit
import Derived.WalkSpells
import Derived.WalkLawsBesides
import Derived.Deep.QuietTactic
import Derived.BigQuiet
import Derived.Lib.Hide
import Derived.Lib.Strings
import Derived.Lib.IndexBytes
import Derived.Outline
import Derived.Maps.OwnOps
import Derived.Maps.OwnSet
import Derived.Maps.Views
import Derived.Laws.IdiomStrings
import Derived.Laws.BytesArg
import Derived.Deep.Cut
import Derived.Test.YtodjofbneeejpaaGreatDoorCards
import Derived.Test.YtodjofbneeejpaaGreatDoorTie
import Derived.LaidSub
import Derived.Lib.TrailingZeros
import Derived.ProofKit
import Derived.OpenShut
import Derived.Carry
import Derived.Deep.Slices
import Derived.Deep.Matrix
import Derived.Deep.DeepHandedRow
import Derived.Lib.LaidTab
import Derived.Test.YtodjofbneeejpaaGreatDoorMBA0
import Derived.Test.YtodjofbneeejpaaGreatDoorMBA1
section
/- Walks: the degree of a monomial, the order of monomials. -/
namespace Go.Proofs.Tg
open Go.RowKit Go.Gr Go.Mo
set_option maxHeartbeats 1000000
set_option maxRecDepth 100000
theorem deg_any (A : Option Addr) (c : Nat) (m : List Int) (w : World) (hA : Ints w A m) (hn : m.length ≤ 1000) :
    Calls Tryz.prog 99 #[.slice A m.length c] w fun e w' => e = .returned (.int .i64 (degM m)) ∧ w = w' := by
  by_cases hl : m.length ≤ 6
  · have hd : decide ((6 : Int) < (m.length : Int)) = false := by simp; omega
    go_enter Tryz.func99, Tryz.ntmps99
    go_wp2
    go_loop [3, 11] (fun s i => ∃ k : Nat, k ≤ m.length ∧ i = .int .i64 k ∧ ∃ z : Int, s = .int .i64 z ∧ 0 ≤ z ∧ z ≤ 24 ∧ Hid (z = (m.take k).sum ∧ ∀ e ∈ m.take k, 0 ≤ e)) (fun _ i => m.length - (intOf i).toNat)
    case atStart => exact ⟨0, Nat.zero_le _, rfl, 0, rfl, by omega, by omega, Lib.hid ⟨rfl, by simp⟩⟩
    case round =>
      obtain ⟨k, hk, rfl, z, rfl, hz0, hz1, HZ⟩ := hrel
      by_cases hlt : k < m.length
      · obtain ⟨ad, rfl, hc⟩ := Ints.at hA hlt
        have HS : Hid ((m.take (k + 1)).sum = z + m[k]) := Lib.hid (by rw [sum_take_succ m k hlt, ← HZ.out.1])
        have HB : Hid (m[k] < 0 ∨ 24 - z < m[k] → vldM m = false) := Lib.hid (fun h => vldM_bad hlt (by rw [← HZ.out.1]; exact h))
        have HT : Hid (m.take (k + 1) = m.take k ++ [m[k]]) := Lib.hid (List.take_succ_eq_append_getElem hlt)
        clear hA
        generalize m[k] = x at hc HS HB HT
        by_cases h1 : x < 0
        · have b1 : decide (x < 0) = true := by simpa using h1
          have HF : Hid (degM m = -1) := Lib.hid (by unfold degM; rw [HB.out (.inl h1)]; rfl)
          go_wp2
          go_ret
          exact ⟨by rw [HF.out]; rfl, rfl⟩
        · have b1 : decide (x < 0) = false := by simpa using h1
          by_cases h2 : 24 - z < x
          · have b2 : decide (24 - z < x) = true := by simpa using h2
            have HF : Hid (degM m = -1) := Lib.hid (by unfold degM; rw [HB.out (.inr h2)]; rfl)
            go_wp2
            go_ret
            exact ⟨by rw [HF.out]; rfl, rfl⟩
          · have b2 : decide (24 - z < x) = false := by simpa using h2
            go_wp2
            go_round
            case rel =>
              refine ⟨k + 1, by omega, by go_num, z + x, rfl, by omega, by omega, Lib.hid ⟨HS.out.symm, fun e he => ?_⟩⟩
              rw [HT.out] at he
              rcases List.mem_append.1 he with he | he
              · exact HZ.out.2 e he
              · simp at he; omega
            case measure => simp [intOf]; omega
      · obtain rfl : k = m.length := by omega
        have HF : Hid (degM m = z) := Lib.hid (by
          have h := HZ.out
          rw [List.take_length] at h
          unfold degM
          rw [if_pos (vldM_iff.2 ⟨hl, h.2, by omega⟩), h.1])
        go_wp2
        go_ret
        exact ⟨by rw [HF.out]; rfl, rfl⟩
  · have hd : decide ((6 : Int) < (m.length : Int)) = true := by simp; omega
    have HF : Hid (degM m = -1) := Lib.hid (by
      unfold degM
      rw [if_neg (by rw [vldM_iff]; exact fun h => hl h.1)])
    go_enter Tryz.func99, Tryz.ntmps99
    go_wp2
    go_ret
    exact ⟨by rw [HF.out]; rfl, rfl⟩
theorem valid_any (A : Option Addr) (c : Nat) (m : List Int) (w : World) (hA : Ints w A m) (hn : m.length ≤ 1000) :
    Calls Tryz.prog 78 #[.slice A m.length c] w fun e w' => e = .returned (.bool (vldM m)) ∧ w = w' := by
  have HD : Hid (decide (0 ≤ degM m) = vldM m) := Lib.hid degM_ge
  have HC := Lib.hid (deg_any A c m w hA hn)
  generalize degM m = z at *
  go_enter Tryz.func78, Tryz.ntmps78
  go_wp2_with (go_at_call 99; refine HC.out.mono ?_; rintro e w' ⟨rfl, rfl⟩)
  go_ret
  exact ⟨by rw [← HD.out]; rfl, rfl⟩
end Go.Proofs.Tg
end
section
/- Walks: characters. -/
namespace Go.Proofs.Tg
open Go.RowKit Go.Gr Go.Ev Go.Mo
set_option maxHeartbeats 2000000
set_option maxRecDepth 100000
theorem fill_set (L : List Int) (k n : Nat) (x : Int) (hn : L.length = n) (hk : k < n) (h : L[k] = x) : (L.take k ++ List.replicate (n - k) 0).set k x = L.take (k + 1) ++ List.replicate (n - (k + 1)) 0 := by
  have hl : (L.take k).length = k := by rw [List.length_take]; omega
  rw [List.take_succ_eq_append_getElem (by omega), h, show n - k = (n - (k + 1)) + 1 by omega, List.replicate_succ, List.set_append_right _ _ (by omega), hl, Nat.sub_self, List.set_cons_zero]; simp
end Go.Proofs.Tg
end
section
/- A slice of slices of numbers that a call makes and lets grow: the outer row, the inner rows, all apart. -/
namespace Go.Proofs.Tg
open Go.RowKit
/-- The outer row holds the slices val j; each is a row of the call's own; no two share a block. -/
structure Fam (base : Nat) (C : Option Addr) (cc : Nat) (Cl : List (List Nat)) (val : Nat → Value) (w : World) : Prop where
  row : w.ownsRow base 22 1 (.slice C Cl.length cc) Cl.length ((List.range Cl.length).map val)
  own : ∀ j, j < Cl.length → w.ownsRow base 3 1 (val j) (Cl.getD j []).length ((Cl.getD j []).map vn)
  sep : ∀ i j, i < Cl.length → j < Cl.length → i ≠ j → (val i).ownBlock = none ∨ (val i).ownBlock ≠ (val j).ownBlock
theorem Fam.nil (base : Nat) (w : World) : Fam base none 0 [] (fun _ => .slice none 0 0) w :=
  ⟨World.ownsRow_nil _ _ _ _, fun j h => absurd h (by simp), fun i j h => absurd h (by simp)⟩
theorem Fam.keep {base : Nat} {C : Option Addr} {cc : Nat} {Cl : List (List Nat)} {val : Nat → Value} {w w' : World} (h : Fam base C cc Cl val w) (hb : Below w.heap.size w w') : Fam base C cc Cl val w' :=
  ⟨own_below h.row hb (Nat.le_refl _), fun j hj => own_below (h.own j hj) hb (Nat.le_refl _), h.sep⟩
theorem Fam.alloc {base : Nat} {C : Option Addr} {cc : Nat} {Cl : List (List Nat)} {val : Nat → Value} {w : World} (h : Fam base C cc Cl val w) (o : Obj) : Fam base C cc Cl val (w.alloc o) :=
  h.keep ((Below.refl _ _).alloc (Nat.le_refl _) o)
/-- A number is appended to class k and the new slice is stored. -/
theorem Fam.add {base : Nat} {g : Nat} {cc : Nat} {Cl : List (List Nat)} {val : Nat → Value} {w w' : World} {k i : Nat} {v' : Value} (h : Fam base (some ⟨g, 0, none⟩) cc Cl val w) (hk : k < Cl.length)
    (hr : w'.ownsRow base 3 1 v' ((Cl.getD k []).length + 1) ((Cl.getD k []).map vn ++ [vn i])) (hg : w.grownBy w' (val k).ownBlock) (hat : v'.ownBlock = (val k).ownBlock ∨ v'.ownBlock = some w.heap.size) :
    Fam base (some ⟨g, 0, none⟩) cc (Cl.set k (Cl.getD k [] ++ [i])) (fun j => if j = k then v' else val j) (w'.setCell ⟨g, k, none⟩ v') := by
  have hlen : (Cl.set k (Cl.getD k [] ++ [i])).length = Cl.length := by simp
  have hrow' := h.row.kept hg (own_ne h.row (h.own k hk) (by decide))
  have hst := hrow'.stored k v'
  have hgd : ∀ j, (Cl.set k (Cl.getD k [] ++ [i])).getD j [] = if j = k then Cl.getD k [] ++ [i] else Cl.getD j [] := by
    intro j
    simp only [List.getD_eq_getElem?_getD, List.getElem?_set]
    by_cases e : k = j
    · subst e; simp [hk]
    · simp [e, Ne.symm e]
  refine ⟨?_, fun j hj => ?_, fun a b ha hb hne => ?_⟩
  · rw [hlen]
    have e : (List.range Cl.length).map (fun j => if j = k then v' else val j) = ((List.range Cl.length).map val).set k v' := by
      refine List.ext_getElem (by simp) fun j h1 h2 => ?_
      simp only [List.getElem_map, List.getElem_range, List.getElem_set]
      by_cases e : k = j
      · subst e; simp
      · simp [e, Ne.symm e]
    rw [e]
    exact hst.1
  · rw [hlen] at hj
    rw [hgd]
    by_cases e : j = k
    · rw [if_pos e, if_pos e]
      have hr2 : w'.ownsRow base 3 1 v' (Cl.getD k [] ++ [i]).length ((Cl.getD k [] ++ [i]).map vn) := by simpa using hr
      exact hr2.kept hst.2 (own_ne hr2 hrow' (by decide))
    · rw [if_neg e, if_neg e]
      have h1 := (h.own j hj).kept hg (h.sep j k hj hk e)
      exact h1.kept hst.2 (own_ne h1 hrow' (by decide))
  · rw [hlen] at ha hb
    have hlt : ∀ j, j < Cl.length → (val j).ownBlock ≠ some w.heap.size := by
      intro j hj e
      have := ((h.own j hj).lt _ e).2
      omega
    by_cases e1 : a = k
    · rw [if_pos e1, if_neg (by omega)]
      rcases hat with hx | hx
      · rw [hx, ← e1]
        exact h.sep a b ha hb hne
      · right; rw [hx]; exact fun e => hlt b hb e.symm
    · rw [if_neg e1]
      by_cases e2 : b = k
      · rw [if_pos e2]
        rcases hat with hx | hx
        · rw [hx, ← e2]
          exact h.sep a b ha hb hne
        · right; rw [hx]; exact hlt a ha
      · rw [if_neg e2]
        exact h.sep a b ha hb hne
end Go.Proofs.Tg
end
section
/- Walks: cutting a sign and digits off a text. -/
namespace Go.Proofs.Tg
open Go.RowKit Go.Qn
set_option maxHeartbeats 400000
def bs (l : List UInt8) : ByteArray := ⟨l.toArray⟩
theorem bs_self (s : ByteArray) : bs s.data.toList = s := by cases s; rfl
theorem bs_data (l : List UInt8) : (bs l).data.toList = l := rfl
theorem bs_size (l : List UInt8) : (bs l).size = l.length := by show l.toArray.size = _; simp
theorem ext_bs (s : ByteArray) (a b : Nat) : s.extract a b = bs ((s.data.toList.drop a).take (b - a)) := by rw [← bs_self (s.extract a b), Lib.extract_data]
theorem ext_end (s : ByteArray) (a : Nat) : s.extract a s.size = bs (s.data.toList.drop a) := by rw [← bs_self (s.extract a s.size), Lib.extract_to_end]
theorem len_size (s : ByteArray) : s.data.toList.length = s.size := by rw [Array.length_toList]; rfl
theorem hasp_any (s : ByteArray) (w : World) (hs : s.size ≤ 64) :
    Calls Tryz.prog 166 #[.string s, .string ⟨#[45]⟩] w fun e w' => e = .returned (.bool (decide (s.data.toList.head? = some 45))) ∧ w = w' := by
  go_enter Tryz.func166, Tryz.ntmps166
  go_wp2
  · have h1 : 1 ≤ (s.size : Int) := by assumption
    go_ret
    refine ⟨?_, rfl⟩
    show Ending.returned (.bool ((s.extract 0 1).toList == [45])) = _
    rw [Lib.toList_data, Lib.extract_data]
    have hl := len_size s
    congr 2
    cases hd : s.data.toList with
    | nil => rw [hd] at hl; simp at hl; omega
    | cons c t => by_cases hc : c = 45 <;> simp [hc]
  · have h1 : (s.size : Int) < 1 := by assumption
    go_ret
    refine ⟨?_, rfl⟩
    have hl := len_size s
    have : s.data.toList = [] := List.eq_nil_of_length_eq_zero (by omega)
    rw [this]; rfl
theorem hasp_t (s : ByteArray) (w : World) (hs : s.size ≤ 64) (h : s.data.toList.head? = some 45) :
    Calls Tryz.prog 166 #[.string s, .string ⟨#[45]⟩] w fun e w' => e = .returned (.bool true) ∧ w = w' :=
  (hasp_any s w hs).mono fun e w' ⟨h1, h2⟩ => ⟨by rw [h1, decide_eq_true h], h2⟩
theorem hasp_f (s : ByteArray) (w : World) (hs : s.size ≤ 64) (h : s.data.toList.head? ≠ some 45) :
    Calls Tryz.prog 166 #[.string s, .string ⟨#[45]⟩] w fun e w' => e = .returned (.bool false) ∧ w = w' :=
  (hasp_any s w hs).mono fun e w' ⟨h1, h2⟩ => ⟨by rw [h1, decide_eq_false h], h2⟩
theorem cutl_any (s : ByteArray) (w : World) (hs : s.size ≤ 64) :
    Calls Tryz.prog 151 #[.string s, .string ⟨#[45]⟩] w fun e w' => e = .returned (.tuple #[.string (bs (cut s.data.toList).2), .bool (cut s.data.toList).1]) ∧ w = w' := by
  by_cases h : s.data.toList.head? = some 45
  · have h1 : 1 ≤ (s.size : Int) := by
      have hl := len_size s
      cases hd : s.data.toList with
      | nil => rw [hd] at h; cases h
      | cons c t => rw [hd] at hl; simp at hl; omega
    have H := Lib.hid h
    clear h
    go_enter Tryz.func151, Tryz.ntmps151
    go_wp2_with (go_at_call 166; refine (hasp_t _ _ hs H.out).mono ?_; rintro e w' ⟨rfl, rfl⟩)
    go_ret2
    refine ⟨?_, rfl⟩
    have H := H.out
    show Ending.returned (.tuple #[.string (s.extract 1 s.size), .bool true]) = _
    rw [ext_end]
    unfold cut
    rw [if_pos H]; simp
  · have H := Lib.hid h
    clear h
    go_enter Tryz.func151, Tryz.ntmps151
    go_wp2_with (go_at_call 166; refine (hasp_f _ _ hs H.out).mono ?_; rintro e w' ⟨rfl, rfl⟩)
    go_ret2
    refine ⟨?_, rfl⟩
    have H := H.out
    show Ending.returned (.tuple #[.string s, .bool false]) = _
    unfold cut
    rw [if_neg H, bs_self]
theorem cutp_any (s : ByteArray) (w : World) (hs : s.size ≤ 64) :
    Calls Tryz.prog 140 #[.string s, .string ⟨#[45]⟩] w fun e w' => e = .returned (.tuple #[.string (bs (cut s.data.toList).2), .bool (cut s.data.toList).1]) ∧ w = w' := by
  go_enter Tryz.func140, Tryz.ntmps140
  go_wp2_with (go_at_call 151; refine (cutl_any _ _ hs).mono ?_; rintro e w' ⟨rfl, rfl⟩)
  go_ret2
  exact ⟨rfl, rfl⟩
theorem tw_at {p : UInt8 → Bool} (l : List UInt8) (k : Nat) (h : ∀ c ∈ l.take k, p c = true) (hx : l.length ≤ k ∨ ∃ h : k < l.length, p l[k] = false) : l.takeWhile p = l.take k ∧ l.dropWhile p = l.drop k := by
  have := tw_app (p := p) (l.take k) (l.drop k) h (by
    rcases hx with hx | ⟨hk, hx⟩
    · left; rw [List.drop_eq_nil_iff]; exact hx
    · right; exact ⟨l[k], l.drop (k + 1), by rw [List.drop_eq_getElem_cons hk], hx⟩)
  rwa [List.take_append_drop] at this
theorem isD_int {c : UInt8} (h : isD c = true) : (48 : Int) ≤ (c.toNat : Int) ∧ (c.toNat : Int) ≤ 57 := by rw [isD_iff] at h; omega
set_option maxHeartbeats 1000000 in
theorem digits_any (s : ByteArray) (w : World) (hs : s.size ≤ 64) :
    Calls Tryz.prog 141 #[.string s] w fun e w' => e = .returned (.tuple #[.string (bs (s.data.toList.takeWhile isD)), .string (bs (s.data.toList.dropWhile isD))]) ∧ Below w.heap.size w w' := by
  go_enter Tryz.func141, Tryz.ntmps141
  go_wp2
  go_loop [4] (fun i => ∃ k : Nat, k ≤ s.size ∧ i = .int .i64 k ∧ Hid (∀ c ∈ s.data.toList.take k, isD c = true)) (fun i => s.size - (intOf i).toNat)
  case atStart => exact ⟨0, Nat.zero_le _, rfl, Lib.hid (by simp)⟩
  case round =>
    obtain ⟨k, hk, rfl, HD⟩ := hrel
    have hl := Lib.hid (len_size s)
    by_cases hlt : k < s.size
    · by_cases hc : isD s[k] = true
      · obtain ⟨c1, c2⟩ := isD_int hc
        have d1 : decide ((48 : Int) ≤ (s[k].toNat : Int)) = true := by simpa using c1
        have d2 : decide ((s[k].toNat : Int) ≤ 57) = true := by simpa using c2
        have HD' : Hid (∀ c ∈ s.data.toList.take (k + 1), isD c = true) := Lib.hid (by
          intro c hc'
          rw [List.take_succ_eq_append_getElem (by rw [hl.out]; exact hlt)] at hc'
          rcases List.mem_append.1 hc' with h | h
          · exact HD.out c h
          · simp only [List.mem_cons, List.not_mem_nil, or_false] at h
            rw [h]; exact hc)
        clear hc
        go_wp2
        go_round
        case rel => exact ⟨k + 1, by omega, by go_num, HD'⟩
        case measure => simp [intOf]; omega
      · have hx : (s[k].toNat : Int) < 48 ∨ 57 < (s[k].toNat : Int) := by
          rw [isD_iff] at hc; omega
        have HX : Hid (s.data.toList.takeWhile isD = s.data.toList.take k ∧ s.data.toList.dropWhile isD = s.data.toList.drop k) := Lib.hid (tw_at _ k HD.out (.inr ⟨by rw [hl.out]; exact hlt, eq_false_of_ne_true hc⟩))
        clear hc
        have q1 : (k : Int) ≤ (s.size : Int) := by omega
        have q2 : (0 : Int) ≤ (k : Int) := by omega
        have q3 : ((k : Int)).toNat = k := by omega
        rcases hx with hx | hx
        · have d1 : decide ((48 : Int) ≤ (s[k].toNat : Int)) = false := by simp; omega
          go_wp2
          go_quiet (fail)
          go_wp2
          go_ret2
          refine ⟨?_, below_drewN (Below.refl _ _) _⟩
          show Ending.returned (.tuple #[.string (s.extract 0 k), .string (s.extract k s.size)]) = _
          rw [ext_bs, ext_end, HX.out.1, HX.out.2]; simp
        · have d1 : decide ((48 : Int) ≤ (s[k].toNat : Int)) = true := by simp; omega
          have d2 : decide ((s[k].toNat : Int) ≤ 57) = false := by simp; omega
          go_wp2
          go_quiet (fail)
          go_wp2
          go_ret2
          refine ⟨?_, below_drewN (Below.refl _ _) _⟩
          show Ending.returned (.tuple #[.string (s.extract 0 k), .string (s.extract k s.size)]) = _
          rw [ext_bs, ext_end, HX.out.1, HX.out.2]; simp
    · obtain rfl : k = s.size := by omega
      have HX : Hid (s.data.toList.takeWhile isD = s.data.toList.take s.size ∧ s.data.toList.dropWhile isD = s.data.toList.drop s.size) := Lib.hid (tw_at _ s.size HD.out (.inl (by rw [hl.out]; omega)))
      have q2 : (0 : Int) ≤ (s.size : Int) := by omega
      have q3 : ((s.size : Int)).toNat = s.size := by omega
      have d0 : decide (s.size < s.size) = false := by simp
      go_wp2
      go_quiet (fail)
      go_wp2
      go_ret2
      refine ⟨?_, below_drewN (Below.refl _ _) _⟩
      show Ending.returned (.tuple #[.string s, .string ByteArray.empty]) = _
      have h1 : s.data.toList.take s.size = s.data.toList := List.take_of_length_le (by rw [hl.out]; omega)
      have h2 : s.data.toList.drop s.size = [] := List.drop_eq_nil_iff.2 (by rw [hl.out]; omega)
      rw [HX.out.1, HX.out.2, h1, h2, bs_self]; rfl
end Go.Proofs.Tg
end
section
/- Walks: classes of monomials. -/
namespace Go.Proofs.Tg
open Go.RowKit Go.Gr Go.Ev Go.Mo
open Go.ChangeShapes Go.WideShapes
set_option maxHeartbeats 4000000
set_option maxRecDepth 100000
/-- A character as a key. -/
def kb (q : List Int) : List UInt8 := q.map fun x => UInt8.ofNat x.toNat
theorem kb_inj : ∀ {p q : List Int}, Bit01 p → Bit01 q → kb p = kb q → p = q
  | [], [], _, _, _ => rfl
  | [], _ :: _, _, _, h => by simp [kb] at h
  | _ :: _, [], _, _, h => by simp [kb] at h
  | x :: p, y :: q, hp, hq, h => by
    simp only [kb, List.map_cons, List.cons.injEq] at h
    have h2 := kb_inj (p := p) (q := q) (fun z hz => hp z (by simp [hz])) (fun z hz => hq z (by simp [hz])) h.2
    have hx := hp x (by simp)
    have hy := hq y (by simp)
    have h1 := h.1
    rw [h2]
    congr 1
    rcases hx with rfl | rfl <;> rcases hy with rfl | rfl
    · rfl
    · exact absurd h1 (by decide)
    · exact absurd h1 (by decide)
    · rfl
def MapOK (K : List (List Int)) (D : DataW Unit) : Prop :=
  Maps.IsMap D ∧ ∀ q, Bit01 q → (Maps.has D (.string (kb q)) = decide (q ∈ K)) ∧ (q ∈ K → D.atKey (.string (kb q)) (.lit (.int .i64 0)) = .lit (.int .i64 (K.idxOf q : Nat)))
theorem MapOK.nil : MapOK [] (.map []) := ⟨Maps.isMap_empty, fun q _ => ⟨by simp [Maps.has_eq], fun h => by cases h⟩⟩
theorem MapOK.put {K : List (List Int)} {D : DataW Unit} (h : MapOK K D) (_hK : ∀ k ∈ K, Bit01 k) {q : List Int} (hq : Bit01 q) (hn : q ∉ K) : MapOK (K ++ [q]) (D.put (.string (kb q)) (.lit (.int .i64 (K.length : Nat)))) := by
  refine ⟨h.1.put _ _, fun p hp => ?_⟩
  by_cases e : p = q
  · subst e
    refine ⟨by rw [Maps.has_put_same h.1 (by simp [WideAt.IsKeyLit])]; simp, fun _ => ?_⟩
    rw [Maps.atKey_put_same h.1 (by simp [WideAt.IsKeyLit]), List.idxOf_append, if_neg hn]
    simp
  · have hne : (Lit.string (kb p)) ≠ .string (kb q) := fun e2 => by
      injection e2 with e2
      exact e (kb_inj hp hq e2)
    refine ⟨by rw [Maps.has_put_other hne, (h.2 p hp).1]; simp [e], fun hm => ?_⟩
    have hm' : p ∈ K := by simpa [e] using hm
    rw [Maps.atKey_put_other hne, (h.2 p hp).2 hm', List.idxOf_append, if_pos hm']
def vb (c : UInt8) : Value := .int .u8 (c.toNat : Int)
/-- The bytes of a slice as a text. -/
theorem conv_name (w : World) (A : Option Addr) (c : Nat) (l : List UInt8) (h : Sl w A l.length 1 (l.map vb)) : (convert 175 9 (.slice A l.length c)).run Tryz.prog w = .ok (.string (bs l)) w := by
  by_cases h0 : l = []
  · subst h0
    cases A with
    | none => exact run_convert_bytes_nil w _ 5 Tryz.underlying175 Tryz.underlying5 0 c _ Tryz.underlying9
    | some ad => exact run_convert_bytes_back w _ _ 5 ad c [] Tryz.underlying175 Tryz.underlying5 Tryz.underlying9 (fun j hj => by simp at hj)
  · obtain ⟨ad, rfl, _, ha⟩ := h.lies (List.length_pos_iff.2 h0)
    exact run_convert_bytes_back w _ _ 5 ad c l Tryz.underlying175 Tryz.underlying5 Tryz.underlying9 (fun j hj => ha j _ (by simp [hj, vb]))
end Go.Proofs.Tg
end
section
/- rational.FromInt of -1, 0 and 1. -/
namespace Go.Proofs.Tg.Bk
open Go.RowKit Go.Gr Go.Qn
set_option maxHeartbeats 4000000
set_option maxRecDepth 100000
/-- The text of a sign. -/
def tx (x : Int) : ByteArray := if x = 0 then ⟨#[48]⟩ else if x = 1 then ⟨#[49]⟩ else ⟨#[45, 49]⟩
/-- The first of the table of the powers of ten. -/
def PT (w : World) : Prop := 0 < w.heap.size ∧ w.cell? ⟨0, 0, none⟩ = some (.int .u64 1)
theorem PT.below {B : Nat} {w w' : World} (h : PT w) (hb : Below B w w') (hB : 0 < B) : PT w' := ⟨Nat.lt_of_lt_of_le h.1 hb.size, (hb.cell (p := ⟨0, 0, none⟩) hB).trans h.2⟩
theorem PT.keep {w w' : World} (h : PT w) (hb : Below w.heap.size w w') : PT w' := h.below hb h.1
theorem small_any (i : Nat) (hi : i < 10) (w : World) : Calls Tryz.prog 134 #[.int .i64 i] w fun e w' => e = .returned (.string (bs [UInt8.ofNat (48 + i)])) ∧ w = w' := by
  have h : i = 0 ∨ i = 1 ∨ i = 2 ∨ i = 3 ∨ i = 4 ∨ i = 5 ∨ i = 6 ∨ i = 7 ∨ i = 8 ∨ i = 9 := by omega
  rcases h with rfl | rfl | rfl | rfl | rfl | rfl | rfl | rfl | rfl | rfl
  all_goals
    go_enter Tryz.func134, Tryz.ntmps134
    go_wp2
    go_ret
    exact ⟨rfl, rfl⟩
theorem len64_one (w : World) : Calls Tryz.prog 110 #[.int .u64 1] w fun e w' => e = .returned (.int .i64 1) ∧ w = w' := by
  have h8 : Lib.len8 1 = 1 := by decide
  go_enter Tryz.func110, Tryz.ntmps110
  go_wp2
  go_ret
  exact ⟨rfl, rfl⟩
theorem log_one (w : World) : Calls Tryz.prog 147 #[.int .i64 1] w fun e w' => e = .returned (.int .i64 0) ∧ w = w' := by
  go_enter Tryz.func147, Tryz.ntmps147
  go_wp2
  go_ret
  exact ⟨rfl, rfl⟩
theorem bool_one (w : World) : Calls Tryz.prog 148 #[.bool true] w fun e w' => e = .returned (.int .i64 1) ∧ w = w' := by
  go_enter Tryz.func148, Tryz.ntmps148
  go_wp2
  go_ret
  exact ⟨rfl, rfl⟩
theorem digs_one (w : World) (hT : PT w) : Calls Tryz.prog 135 #[.int .u64 1] w fun e w' => e = .returned (.int .i64 1) ∧ Below w.heap.size w w' := by
  obtain ⟨h0, hc⟩ := hT
  go_enter Tryz.func135, Tryz.ntmps135
  go_wp2_with (first
    | (go_at_call 110; refine (len64_one _).mono ?_; rintro e w1 ⟨rfl, rfl⟩)
    | (go_at_call 147; refine (log_one _).mono ?_; rintro e w1 ⟨rfl, rfl⟩)
    | (go_at_call 148; refine (bool_one _).mono ?_; rintro e w1 ⟨rfl, rfl⟩))
  go_ret
  exact ⟨rfl, Below.refl _ _⟩
def z24 : Array Value := #[.int .u8 0, .int .u8 0, .int .u8 0, .int .u8 0, .int .u8 0, .int .u8 0, .int .u8 0, .int .u8 0, .int .u8 0, .int .u8 0, .int .u8 0, .int .u8 0, .int .u8 0, .int .u8 0, .int .u8 0, .int .u8 0, .int .u8 0, .int .u8 0, .int .u8 0, .int .u8 0, .int .u8 0, .int .u8 0, .int .u8 0, .int .u8 0]
theorem base10_one (g c : Nat) (u : Value) (w : World) (hc : w.cell? ⟨g, 1, none⟩ = some u) (hf : w.frozen? ⟨g, 1, none⟩ = false) (hg : g < w.heap.size) :
    Calls Tryz.prog 136 #[.slice (some ⟨g, 1, none⟩) 1 c, .int .u64 1] w fun e w' => e = .returned (.tuple #[]) ∧ w' = w.setCell ⟨g, 1, none⟩ (.int .u8 49) := by
  go_enter Tryz.func136, Tryz.ntmps136
  go_wp2
  refine wp_loop_rounds 1 ?_
  rw [rounds_succ]
  go_wp2
  go_end0
  exact ⟨rfl, rfl⟩
theorem base10_blk (g : Nat) (w : World) (B : Blk w g 173 z24) :
    Calls Tryz.prog 136 #[.slice (some ⟨g, 1, none⟩) 1 23, .int .u64 1] w fun e w' => e = .returned (.tuple #[]) ∧ Blk w' g 173 (z24.setIfInBounds 1 (.int .u8 49)) ∧ ∀ W0, Below g W0 w → Below g W0 w' := by
  refine (base10_one g 23 _ w (B.cell 1) (B.frozen 1) B.lt).mono ?_
  rintro e w2 ⟨rfl, rfl⟩
  exact ⟨rfl, B.set 1 _, fun W0 h => below_far h (Nat.le_refl _) _ _⟩
theorem sl_two {W : World} {g : Nat} (B3 : Blk W g 173 ((z24.setIfInBounds 1 (.int .u8 49)).setIfInBounds 0 (.int .u8 45))) : Sl W (some ⟨g, 0, none⟩) 2 1 ([45, 49].map vb) := ⟨rfl, fun _ => ⟨_, rfl, B3.lt, fun j u hu => by
  rw [add_lit, Nat.zero_add, B3.cell]
  match j, hu with
  | 0, hu => exact hu
  | 1, hu => exact hu⟩⟩
theorem fmti_neg (w : World) (hT : PT w) : Calls Tryz.prog 112 #[.int .i64 (-1), .int .i64 10] w fun e w' => e = .returned (.string (tx (-1))) ∧ Below w.heap.size w w' := by
  obtain ⟨W, hW⟩ : ∃ W, w.alloc (.cells z24 173) = W := ⟨_, rfl⟩
  have B0 : Blk W w.heap.size 173 z24 := by rw [← hW]; exact Blk.new _ _ _
  have hb0 : Below w.heap.size w W := by rw [← hW]; exact (Below.refl _ _).alloc (Nat.le_refl _) _
  have HT := Lib.hid (hT.keep hb0)
  have HW := Lib.hid hW
  have hwn : IntKind.u64.wrap (-IntKind.u64.wrap (-1)) = 1 := by decide
  clear hW hT
  go_enter Tryz.func112, Tryz.ntmps112
  go_upto_region 5 with (fail)
  have hh := HW.out
  unfold z24 at hh
  rw [hh]
  clear hh
  go_wp2_with (first
    | (go_at_call 135; refine (digs_one _ HT.out).mono ?_; rintro e w1 ⟨rfl, hb1⟩
       have B1 := B0.keep hb1 B0.lt)
    | (go_at_call 136; refine (base10_blk w.heap.size _ B1).mono ?_; rintro e w2 ⟨rfl, B2, hk⟩
       have hb2 := hk w (below_all hb0 hb1)
       have hb3 := below_far hb2 (Nat.le_refl _) 0 (.int .u8 45)
       have B3 := B2.set 0 (.int .u8 45)
       have c0 : w2.cell? ⟨w.heap.size, 0, none⟩ = some (.int .u8 0) := B2.cell 0
       have f0 := B2.frozen 0
       have hl2 := B2.lt
       have hS : Sl (w2.setCell ⟨w.heap.size, 0, none⟩ (.int .u8 45)) (some ⟨w.heap.size, 0, none⟩) 2 1 ([45, 49].map vb) := sl_two B3
       have hcv : (convert 175 9 (.slice (some ⟨w.heap.size, 0, none⟩) 2 24)).run Tryz.prog (w2.setCell ⟨w.heap.size, 0, none⟩ (.int .u8 45)) = .ok (.string (bs [45, 49])) (w2.setCell ⟨w.heap.size, 0, none⟩ (.int .u8 45)) := conv_name _ _ 24 [45, 49] hS
       clear B2 B3 hS hk))
  go_ret
  exact ⟨rfl, hb3⟩
theorem fmti_any (x : Int) (hx : x = 0 ∨ x = 1 ∨ x = -1) (w : World) (hT : PT w) : Calls Tryz.prog 112 #[.int .i64 x, .int .i64 10] w fun e w' => e = .returned (.string (tx x)) ∧ Below w.heap.size w w' := by
  rcases hx with rfl | rfl | rfl
  · go_enter Tryz.func112, Tryz.ntmps112
    go_wp2_with (go_at_call 134; refine (small_any 0 (by omega) _).mono ?_; rintro e w1 ⟨rfl, rfl⟩)
    go_ret
    exact ⟨rfl, Below.refl _ _⟩
  · go_enter Tryz.func112, Tryz.ntmps112
    go_wp2_with (go_at_call 134; refine (small_any 1 (by omega) _).mono ?_; rintro e w1 ⟨rfl, rfl⟩)
    go_ret
    exact ⟨rfl, Below.refl _ _⟩
  · exact fmti_neg w hT
theorem fmt_any (x : Int) (hx : x = 0 ∨ x = 1 ∨ x = -1) (w : World) (hT : PT w) : Calls Tryz.prog 85 #[.int .i64 x, .int .i64 10] w fun e w' => e = .returned (.string (tx x)) ∧ Below w.heap.size w w' := by
  have H := Lib.hid (fmti_any x hx w hT)
  clear hx hT
  generalize tx x = s at *
  go_enter Tryz.func85, Tryz.ntmps85
  go_wp2_with (go_at_call 112; refine H.out.mono ?_; rintro e w1 ⟨rfl, hb1⟩)
  go_ret
  exact ⟨rfl, hb1⟩
theorem fromint_any (x : Int) (hx : x = 0 ∨ x = 1 ∨ x = -1) (w : World) (hT : PT w) : Calls Tryz.prog 64 #[.int .i64 x] w fun e w' => e = .returned (.string (tx x)) ∧ Below w.heap.size w w' := by
  have H := Lib.hid (fmt_any x hx w hT)
  clear hx hT
  generalize tx x = s at *
  go_enter Tryz.func64, Tryz.ntmps64
  go_wp2_with (go_at_call 85; refine H.out.mono ?_; rintro e w1 ⟨rfl, hb1⟩)
  go_ret
  exact ⟨rfl, hb1⟩
end Go.Proofs.Tg.Bk
end
section
/- The frame of this seat's statements: what the reading of an argument says of memory, the listed table, the row's last step, the world of the witness. -/
namespace Go.Proofs.YtodjofbneeejpaaGreatDoor.Fr
open Go.ChangeShapes Go.WideShapes Go.ChangeAt Go.RowKit Go.Deep Go.Proofs.Tg Go.Gr
set_option maxRecDepth 100000
section
variable {H : Type} {enc : TypeId × Value → H} {W W' : World}
theorem trodAll_below (hl : laidOutB Tryz.prog = true) (hb : Below W.heap.size W W') : ∀ (ts : List TypeId) (vs : List Value) (ds : List (DataW H)) (ps : List MemPlace),
    (∀ t ∈ ts, Tryz.prog.readableRec t = true ∧ t < Tryz.prog.types.size) → DataW.TrodAll enc Tryz.prog W 0 (fun _ => true) true ts vs ds ps → (∀ x ∈ ps, x.block < W.heap.size) →
    DataW.TrodAll enc Tryz.prog W' 0 (fun b => decide (b < W.heap.size)) true ts vs ds ps
  | [], [], [], ps, _, h, _ => h
  | t :: ts, v :: vs, d :: ds, ps, ht, ⟨p, q, h1, h2, e⟩, hp => by
    subst e
    exact ⟨p, q, Below.trod hl (ht t (by simp)).1 (ht t (by simp)).2 h1 hb (fun x hx => hp x (by simp [hx])), trodAll_below hl hb ts vs ds q (fun t h => ht t (by simp [h])) h2 (fun x hx => hp x (by simp [hx])), rfl⟩
theorem band {a b : Bool} (h : a = true) (k : b = true) : (a && b) = true := by rw [h, k]; rfl
theorem laidOut : laidOutB Tryz.prog = true := by kernel_rfl
/-- A law that returned true and made new memory alone meets its row. -/
theorem post_law {f : Func} {s : ChangeSpec} {args : Array Value} {ds gs : List (DataW H)} {before : List MemPlace}
    (hW : DataW.Whole enc Tryz.prog f.params.toList s.vars false W args.toList ds gs before) (hv : s.vars = []) (hf : f.resultTypes = #[4])
    (hr : (s.fn H (ds ++ gs)).results = [.lit (.bool true)]) (ha : (s.fn H (ds ++ gs)).args = ds) (hg : (s.fn H (ds ++ gs)).vars = [])
    (hp : ∀ t ∈ f.params.toList, Tryz.prog.readableRec t = true ∧ t < Tryz.prog.types.size) (hb : Below W.heap.size W W') :
    s.post enc Tryz.prog f false true false false W args (.bool true) W' := by
  have hlt := hW.lt
  have hW2 := hW
  obtain ⟨p, q, hA, hV, hps, hz, hn⟩ := hW2
  rw [hv] at hV
  obtain ⟨rfl, rfl⟩ := trodVars_none hV
  rw [List.append_nil] at hps
  subst hps
  refine ⟨ds, [], before, [], before, [], hW, ?_, ?_, ?_, World.keptBut_mono (fun x hx => ⟨hx, .inr (.inl hx)⟩) (hb.frame (· ∈ before)), fun h => by cases h⟩
  · rw [hr, hf]
    exact trodAll_cons_mk (shut_bool Tryz.underlying4 _) trodAll_mk0
  · rw [ha]
    exact trodAll_below laidOut hb _ _ _ _ hp hA hlt
  · rw [hv, hg]; rfl
theorem gPow : Tryz.prog.globalNamed "internal/strconv.uint64pow10" = some 0 := by kernel_rfl
theorem gPowType : (Tryz.prog.globals[0]?).map (·.type) = some 194 := by kernel_rfl
theorem cellsPow : Tryz.prog.cellsOf 194 = 20 := by kernel_rfl
theorem cellsU64 : Tryz.prog.cellsOf 125 = 1 := by kernel_rfl
theorem cellsRow : Tryz.prog.cellsOf 22 = 1 := by kernel_rfl
theorem cellsInt : Tryz.prog.cellsOf 3 = 1 := by kernel_rfl
def powZ : List Int := (List.range 20).map fun i => (10 : Int) ^ i
theorem pow_data : (Rows.laid_internal_strconv_uint64pow10 : DataW Unit) = Lib.tabData .u64 powZ := by kernel_rfl
def bruZ : List Int := Lib.deBruijn64tab.map fun x : Nat => (x : Int)
def bru32Z : List Int := Lib.deBruijn32tab.map fun x : Nat => (x : Int)
/-- What the row's list gives: the first of the powers of ten. -/
theorem pow_of (h : laidMetH Tryz.prog [("math/bits.deBruijn32tab", Rows.laid_math_bits_deBruijn32tab), ("math/bits.deBruijn64tab", Rows.laid_math_bits_deBruijn64tab), ("internal/strconv.uint64pow10", Rows.laid_internal_strconv_uint64pow10)] W) : Bk.PT W := by
  have h2 := h.filter (fun x => x.1 == "internal/strconv.uint64pow10")
  have e : ([("math/bits.deBruijn32tab", Rows.laid_math_bits_deBruijn32tab), ("math/bits.deBruijn64tab", Rows.laid_math_bits_deBruijn64tab), ("internal/strconv.uint64pow10", Rows.laid_internal_strconv_uint64pow10)] : List (String × DataW Unit)).filter (fun x => x.1 == "internal/strconv.uint64pow10") = [("internal/strconv.uint64pow10", Rows.laid_internal_strconv_uint64pow10)] := by rfl
  rw [e, pow_data] at h2
  have h1 : Lib.TabIs Tryz.prog W "internal/strconv.uint64pow10" .u64 powZ := Lib.tabIs_of_head (rest := []) gPow gPowType Tryz.underlying194 Tryz.underlying125 cellsU64 cellsPow h2
  have hc := h1.cell gPow 0 (by simp [powZ])
  exact ⟨World.block_lt_of_cell? W ⟨0, 0, none⟩ hc, hc⟩
/-- A slice of numbers, opened. -/
theorem open_nums {v : Value} {d : DataW H} {ps : List MemPlace} {b0 : Nat} (hval : Value.okWide Tryz.prog W .any b0 22 v) (h : DataW.Trod enc Tryz.prog W 0 (fun _ => true) true 22 v d ps) :
    ∃ A xs c, v = .slice A xs.length c ∧ Ints W A xs := by
  obtain ⟨V, len, cap, rfl⟩ := okWide_slice Tryz.underlying22 hval
  obtain ⟨fuel, h⟩ := h
  have hcs : (Value.slice V len cap).cells.toList = [.slice V len cap] := by simp [Value.cells]
  rw [hcs] at h
  rcases open_ints Tryz.underlying22 Tryz.underlying3 cellsInt h with ⟨h1, _⟩ | ⟨a, l, c, zs, h1, _, hl, hm, hz, _, hx, _⟩
  · injection h1 with h1
    injection h1 with e1 e2 e3
    subst e1 e2 e3
    exact ⟨none, [], 0, rfl, Sl.nil _ _ _⟩
  · injection h1 with h1
    injection h1 with e1 e2 e3
    subst e1 e2 e3
    simp only [if_true] at hz
    have hlen : (zs.take len).length = len := by rw [List.length_take]; omega
    refine ⟨some a, zs.take len, cap, by rw [hlen], by simp, fun hn => ⟨a, rfl, ?_, ?_⟩⟩
    · rw [hlen] at hn
      exact World.block_lt_of_cell? W _ (hx 0 (by omega))
    · intro j u hu
      have hj : j < len := by
        have := (List.getElem?_eq_some_iff.1 hu).1
        rw [List.length_map, hlen] at this
        exact this
      have e : u = .int .i64 (zs.getD j 0) := by
        rw [List.getElem?_map, List.getElem?_take, if_pos hj] at hu
        simp only [List.getElem?_eq_getElem (show j < zs.length by omega), Option.map_some] at hu
        injection hu with hu
        rw [← hu]
        simp [vi, show j < zs.length by omega]
      rw [e]
      exact hx j (by omega)
/-- A slice of slices of numbers, opened. -/
theorem open_lists {v : Value} {d : DataW H} {ps : List MemPlace} {b0 : Nat} (hval : Value.okWide Tryz.prog W .any b0 23 v) (h : DataW.Trod enc Tryz.prog W 0 (fun _ => true) true 23 v d ps) :
    ∃ V ls c, v = .slice V ls.length c ∧ Lists W V ls ∧ ls.length ≤ maxLen ∧ ∀ l ∈ ls, l.length ≤ maxLen := by
  obtain ⟨V, len, cap, rfl⟩ := okWide_slice Tryz.underlying23 hval
  obtain ⟨fuel, h⟩ := h
  have hcs : (Value.slice V len cap).cells.toList = [.slice V len cap] := by simp [Value.cells]
  rw [hcs] at h
  rcases open_int_rows Tryz.underlying23 Tryz.underlying22 Tryz.underlying3 cellsRow cellsInt h with ⟨h1, _⟩ | ⟨a, l, c, A, L, C, Z, h1, _, hl, hml, _, hx⟩
  · injection h1 with h1
    injection h1 with e1 e2 e3
    subst e1 e2 e3
    exact ⟨none, [], 0, rfl, ⟨fun _ => (none, 0), Sl.nil _ _ _, fun i hi => by simp at hi⟩, by simp, by simp⟩
  · injection h1 with h1
    injection h1 with e1 e2 e3
    subst e1 e2 e3
    have hz : ∀ i, i < len → ((Z i).take (L i)).length = L i := by
      intro i hi
      obtain ⟨_, h2, _, h4, _⟩ := hx i (by omega)
      rw [List.length_take]; omega
    have hg : ∀ i, i < len → ((List.range len).map fun i => (Z i).take (L i)).getD i [] = (Z i).take (L i) := by
      intro i hi; simp [hi]
    refine ⟨some a, (List.range len).map fun i => (Z i).take (L i), cap, by simp, ⟨fun i => (A i, C i), ?_, ?_⟩, by simp; omega, ?_⟩
    · refine ⟨by simp, fun hn => ⟨a, rfl, ?_, ?_⟩⟩
      · have hn' : 0 < len := by simpa using hn
        have := (hx 0 (by omega)).1
        exact World.block_lt_of_cell? W _ this
      · intro j u hu
        have hj : j < len := by
          have := (List.getElem?_eq_some_iff.1 hu).1
          simpa using this
        have e : u = .slice (A j) (L j) (C j) := by
          rw [List.getElem?_map, List.getElem?_range (by simpa using hj)] at hu
          simp only [Option.map_some] at hu
          injection hu with hu
          rw [← hu, hg j hj, hz j hj]
        rw [e]
        exact (hx j (by omega)).1
    · intro i hi
      have hi' : i < len := by simpa using hi
      rw [hg i hi']
      obtain ⟨h1, h2, h3, h4, h5, h6, h7⟩ := hx i (by omega)
      refine ⟨by simp, fun hn => ?_⟩
      rw [hz i hi'] at hn
      have hA : ∃ a', A i = some a' := by
        cases hA : A i with
        | none => have := h6 hA; omega
        | some a' => exact ⟨a', rfl⟩
      obtain ⟨a', hA⟩ := hA
      obtain ⟨_, hc⟩ := h7 a' hA
      refine ⟨a', hA, World.block_lt_of_cell? W _ (hc 0 (by omega)), ?_⟩
      intro j u hu
      have hj : j < L i := by
        have := (List.getElem?_eq_some_iff.1 hu).1
        rw [List.length_map, hz i hi'] at this
        exact this
      have e : u = .int .i64 ((Z i).getD j 0) := by
        rw [List.getElem?_map, List.getElem?_take, if_pos hj] at hu
        simp only [List.getElem?_eq_getElem (show j < (Z i).length by omega), Option.map_some] at hu
        injection hu with hu
        rw [← hu]
        simp [vi, show j < (Z i).length by omega]
      rw [e]
      exact hc j (by omega)
    · intro l hl2
      obtain ⟨i, hi, rfl⟩ := List.mem_map.1 hl2
      have hi' : i < len := by simpa using hi
      obtain ⟨h1, h2, h3, _⟩ := hx i (by omega)
      rw [hz i hi']; omega
end
/-- The world of the witness: the settled one, the tables holding what their initialisers lay. -/
def layT (k : IntKind) (zs : List Int) : Obj → Obj
  | .cells _ t frozen => .cells (zs.map fun z => Value.int k z).toArray t frozen
  | o => o
noncomputable def laidWorld (os : Os) : World :=
  { World.holding Tryz.prog os ⟨#[], #[], []⟩ with heap := (((World.holding Tryz.prog os ⟨#[], #[], []⟩).heap.modify 0 (layT .u64 powZ)).modify 1 (layT .u8 bru32Z)).modify 2 (layT .u8 bruZ) }
theorem own : ownKnob Tryz.prog.godebug = none := by kernel_rfl
end Go.Proofs.YtodjofbneeejpaaGreatDoor.Fr
end
