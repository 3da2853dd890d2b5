/- Parts of the proof: WG4, BG2, BG3, BG5, BGA, XD2, XD3. -/
import Derived.Test.YtodjofbneeejpaaGreatDoorMBA2
import Derived.Test.YtodjofbneeejpaaGreatDoorMBA3
import Derived.Test.YtodjofbneeejpaaGreatDoorMBA4
import Derived.Test.YtodjofbneeejpaaGreatDoorMBA6
section
/- Is it a permutation: group, the reference 18 (printed by wip/tools/mk_valid.py). -/
namespace Go.Proofs.Tg.Gp
open Go.RowKit Go.Gr Go.Sp Go.Ev Go.Pm
open Go.Proofs.Tg.Gx (farr farr_set farr_made farr_congr make_bools)
set_option maxHeartbeats 4000000
set_option maxRecDepth 100000
def seenF (L : Nat) (a : List Int) (k : Nat) : Array Value := farr L fun i => .bool (decide ((i : Int) ∈ a.take k))
theorem seenF_zero (L : Nat) (a : List Int) : farr L (fun _ => .bool false) = seenF L a 0 := by
  unfold seenF
  exact farr_congr fun i _ => by simp
theorem seenF_at (L : Nat) (a : List Int) (k : Nat) {i : Nat} (h : i < L) : (seenF L a k)[i]? = some (.bool (decide ((i : Int) ∈ a.take k))) := by simp [seenF, farr, h]
theorem seenF_set {L : Nat} {a : List Int} {k m : Nat} (hk : k < a.length) (hm : a[k] = (m : Int)) : (seenF L a k).setIfInBounds m (.bool true) = seenF L a (k + 1) := by
  unfold seenF
  rw [farr_set]
  refine farr_congr fun i _ => ?_
  rw [List.take_succ_eq_append_getElem hk]
  by_cases hi : i = m
  · rw [if_pos hi]
    exact congrArg Value.bool (decide_eq_true (List.mem_append_right _ (List.mem_singleton.2 (by omega)))).symm
  · rw [if_neg hi]
    refine congrArg Value.bool (decide_eq_decide.2 ⟨fun h => List.mem_append_left _ h, fun h => ?_⟩)
    rcases List.mem_append.1 h with h | h
    · exact h
    · exact absurd (List.mem_singleton.1 h) (by omega)
theorem gvalid_any (A : Option Addr) (c : Nat) (a : List Int) (v : Bool) (w : World) (hA : Ints w A a) (hl : a.length ≤ 1000000) (hv : v = true ↔ a.length ≤ 6 ∧ Perm a.length a) :
    Calls Tryz.prog 74 #[.slice A a.length c] w fun e w' => e = .returned (.bool v) ∧ Below w.heap.size w w' := by
  have HV := Lib.hid hv
  have HAW := Lib.hid hA
  clear hv hA
  by_cases h6 : a.length ≤ 6
  · have d6 : decide ((6 : Int) < (a.length : Int)) = false := decide_eq_false (by omega)
    go_enter Tryz.func74, Tryz.ntmps74
    go_wp2
    go_loopw [11] (fun i wr => ∃ k : Nat, k ≤ a.length ∧ i = .int .i64 k ∧ Hid (GoodP a k) ∧ Blk wr w.heap.size 136 (seenF 6 a k) ∧ Below w.heap.size w wr) (fun i _ => a.length - (intOf i).toNat)
    case atStart =>
      refine ⟨0, Nat.zero_le _, rfl, Lib.hid (GoodP.zero a), ?_, (Below.refl _ _).alloc (Nat.le_refl _) _⟩
      have e : #[Value.bool false, .bool false, .bool false, .bool false, .bool false, .bool false] = seenF 6 a 0 := by rw [← seenF_zero]; rfl
      rw [← e]
      exact Blk.new w 136 _
    case round =>
      obtain ⟨wo, rfl⟩ : ∃ wo : World, wo = wr := ⟨_, rfl⟩
      obtain ⟨k, hk, rfl, HG, B0, hbw⟩ := hrel
      by_cases hlt : k < a.length
      · obtain ⟨ad, rfl, hca⟩ := Ints.at (HAW.out.keep hbw) hlt
        have q0 : (0 : Int) ≤ (k : Int) := by omega
        have q1 : (k : Int) < (a.length : Int) := by omega
        have q3 : ((k : Int)).toNat = k := by omega
        obtain ⟨x, hx⟩ : ∃ x, a[k] = x := ⟨_, rfl⟩
        rw [hx] at hca
        have HX := Lib.hid hx
        clear hx
        by_cases x0 : x < 0
        · have d0 : decide (x < 0) = true := decide_eq_true x0
          obtain rfl : v = false := eq_false_of_ne_true (fun h => bad_range hlt (by rw [HX.out]; omega) (HV.out.1 h).2)
          go_wp2
          go_ret
          exact ⟨rfl, hbw⟩
        · have d0 : decide (x < 0) = false := decide_eq_false x0
          by_cases x1 : (a.length : Int) ≤ x
          · have d1 : decide ((a.length : Int) ≤ x) = true := decide_eq_true x1
            obtain rfl : v = false := eq_false_of_ne_true (fun h => bad_range hlt (by rw [HX.out]; omega) (HV.out.1 h).2)
            go_wp2
            go_ret
            exact ⟨rfl, hbw⟩
          · have d1 : decide ((a.length : Int) ≤ x) = false := decide_eq_false x1
            obtain ⟨m, rfl⟩ : ∃ m : Nat, x = (m : Int) := ⟨x.toNat, by omega⟩
            have p0 : (0 : Int) ≤ (m : Int) := by omega
            have p1 : (m : Int) < (6 : Nat) := by omega
            have p1' : (m : Int) < 6 := by omega
            have p3 : ((m : Int)).toNat = m := by omega
            have c0 := B0.cell m
            have f0 := B0.frozen m
            rw [seenF_at _ _ _ (by omega)] at c0
            by_cases hs : (m : Int) ∈ a.take k
            · rw [decide_eq_true hs] at c0
              obtain rfl : v = false := eq_false_of_ne_true (fun h => bad_twice hlt (by rw [HX.out]; exact hs) (HV.out.1 h).2)
              go_wp2
              go_ret
              exact ⟨rfl, hbw⟩
            · rw [decide_eq_false hs] at c0
              have HG2 := Lib.hid (HG.out.succ hlt (by rw [HX.out]; omega) (by rw [HX.out]; omega) (by rw [HX.out]; exact hs))
              have HST := Lib.hid (seenF_set (L := 6) hlt HX.out)
              have HB0 := Lib.hid B0
              clear B0
              go_wp2
              go_roundw
              case rel =>
                refine ⟨k + 1, by omega, by go_num, HG2, ?_, below_far hbw (Nat.le_refl _) _ _⟩
                have := HB0.out.set m (.bool true)
                rw [HST.out] at this
                exact this
              case measure => simp [intOf]; omega
      · obtain rfl : k = a.length := by omega
        obtain rfl : v = true := HV.out.2 ⟨h6, HG.out.perm⟩
        have dk : decide ((a.length : Int) < (a.length : Int)) = false := by simp
        go_wp2
        go_ret
        exact ⟨rfl, hbw⟩
  · have d6 : decide ((6 : Int) < (a.length : Int)) = true := decide_eq_true (by omega)
    obtain rfl : v = false := eq_false_of_ne_true (fun h => h6 (HV.out.1 h).1)
    go_enter Tryz.func74, Tryz.ntmps74
    go_wp2
    go_ret
    exact ⟨rfl, Below.refl _ _⟩
theorem rvalid18_any (A : Option Addr) (c : Nat) (a : List Int) (v : Bool) (w : World) (hA : Ints w A a) (hl : a.length ≤ 1000000) (hv : v = true ↔ a.length ≤ 6 ∧ Perm a.length a) :
    Calls Tryz.prog 55 #[.slice A a.length c] w fun e w' => e = .returned (.bool v) ∧ Below w.heap.size w w' := by
  have HV := Lib.hid hv
  have HAW := Lib.hid hA
  clear hv hA
  by_cases h6 : a.length ≤ 6
  · have d6 : decide ((6 : Int) < (a.length : Int)) = false := decide_eq_false (by omega)
    have hmk := fun W => make_bools a.length hl W
    go_enter Tryz.func55, Tryz.ntmps55
    go_wp2
    clear hmk
    go_loopw [4] (fun i wr => ∃ k : Nat, k ≤ a.length ∧ i = .int .i64 k ∧ Hid (GoodP a k) ∧ Blk wr w.heap.size 4 (seenF a.length a k) ∧ Below w.heap.size w wr) (fun i _ => a.length - (intOf i).toNat)
    case atStart =>
      refine ⟨0, Nat.zero_le _, rfl, Lib.hid (GoodP.zero a), ?_, (Below.refl _ _).alloc (Nat.le_refl _) _⟩
      rw [seenF_zero]
      exact Blk.new w 4 _
    case round =>
      obtain ⟨wo, rfl⟩ : ∃ wo : World, wo = wr := ⟨_, rfl⟩
      obtain ⟨k, hk, rfl, HG, B0, hbw⟩ := hrel
      by_cases hlt : k < a.length
      · obtain ⟨ad, rfl, hca⟩ := Ints.at (HAW.out.keep hbw) hlt
        have q0 : (0 : Int) ≤ (k : Int) := by omega
        have q1 : (k : Int) < (a.length : Int) := by omega
        have q3 : ((k : Int)).toNat = k := by omega
        obtain ⟨x, hx⟩ : ∃ x, a[k] = x := ⟨_, rfl⟩
        rw [hx] at hca
        have HX := Lib.hid hx
        clear hx
        by_cases x0 : x < 0
        · have d0 : decide (x < 0) = true := decide_eq_true x0
          obtain rfl : v = false := eq_false_of_ne_true (fun h => bad_range hlt (by rw [HX.out]; omega) (HV.out.1 h).2)
          go_wp2
          go_ret
          exact ⟨rfl, hbw⟩
        · have d0 : decide (x < 0) = false := decide_eq_false x0
          by_cases x1 : (a.length : Int) ≤ x
          · have d1 : decide ((a.length : Int) ≤ x) = true := decide_eq_true x1
            obtain rfl : v = false := eq_false_of_ne_true (fun h => bad_range hlt (by rw [HX.out]; omega) (HV.out.1 h).2)
            go_wp2
            go_ret
            exact ⟨rfl, hbw⟩
          · have d1 : decide ((a.length : Int) ≤ x) = false := decide_eq_false x1
            obtain ⟨m, rfl⟩ : ∃ m : Nat, x = (m : Int) := ⟨x.toNat, by omega⟩
            have p0 : (0 : Int) ≤ (m : Int) := by omega
            have p1 : (m : Int) < (a.length : Nat) := by omega
            have p1' : (m : Int) < 6 := by omega
            have p3 : ((m : Int)).toNat = m := by omega
            have c0 := B0.cell m
            have f0 := B0.frozen m
            rw [seenF_at _ _ _ (by omega)] at c0
            by_cases hs : (m : Int) ∈ a.take k
            · rw [decide_eq_true hs] at c0
              obtain rfl : v = false := eq_false_of_ne_true (fun h => bad_twice hlt (by rw [HX.out]; exact hs) (HV.out.1 h).2)
              go_wp2
              go_ret
              exact ⟨rfl, hbw⟩
            · rw [decide_eq_false hs] at c0
              have HG2 := Lib.hid (HG.out.succ hlt (by rw [HX.out]; omega) (by rw [HX.out]; omega) (by rw [HX.out]; exact hs))
              have HST := Lib.hid (seenF_set (L := a.length) hlt HX.out)
              have HB0 := Lib.hid B0
              clear B0
              go_wp2
              go_roundw
              case rel =>
                refine ⟨k + 1, by omega, by go_num, HG2, ?_, below_far hbw (Nat.le_refl _) _ _⟩
                have := HB0.out.set m (.bool true)
                rw [HST.out] at this
                exact this
              case measure => simp [intOf]; omega
      · obtain rfl : k = a.length := by omega
        obtain rfl : v = true := HV.out.2 ⟨h6, HG.out.perm⟩
        have dk : decide ((a.length : Int) < (a.length : Int)) = false := by simp
        go_wp2
        go_ret
        exact ⟨rfl, hbw⟩
  · have d6 : decide ((6 : Int) < (a.length : Int)) = true := decide_eq_true (by omega)
    obtain rfl : v = false := eq_false_of_ne_true (fun h => h6 (HV.out.1 h).1)
    go_enter Tryz.func55, Tryz.ntmps55
    go_wp2
    go_ret
    exact ⟨rfl, Below.refl _ _⟩
end Go.Proofs.Tg.Gp
end
section
/- Ascending lists of lists: where an element lies or belongs; insertion. Plain. -/
namespace Go.Pm
open Go.Gr
theorem cmpL_self : ∀ x, cmpL x x = 0
  | [] => rfl
  | a :: l => by
    unfold cmpL
    rw [if_neg (by omega), if_neg (by omega)]
    exact cmpL_self l
theorem cmpL_tri : ∀ x y, cmpL x y < 0 ∨ x = y ∨ cmpL y x < 0
  | [], [] => .inr (.inl rfl)
  | [], _ :: _ => .inl (by simp [cmpL])
  | _ :: _, [] => .inr (.inr (by simp [cmpL]))
  | a :: l, b :: m => by
    by_cases h1 : a < b
    · left; unfold cmpL; rw [if_pos h1]; omega
    · by_cases h2 : b < a
      · right; right; unfold cmpL; rw [if_pos h2]; omega
      · have hab : a = b := by omega
        subst hab
        rcases cmpL_tri l m with h | h | h
        · left; unfold cmpL; rw [if_neg h1, if_neg h1]; exact h
        · right; left; rw [h]
        · right; right; unfold cmpL; rw [if_neg h1, if_neg h1]; exact h
theorem lt_irr {x : List Int} : ¬ cmpL x x < 0 := by rw [cmpL_self]; omega
theorem lt_trans {x y z : List Int} (h1 : cmpL x y < 0) (h2 : cmpL y z < 0) : cmpL x z < 0 :=
  Classical.byContradiction fun h => cmpL_trans z x y h (cmpL_asym _ _ h1) h2
theorem le_iff {x y : List Int} : ¬ cmpL x y < 0 ↔ x = y ∨ cmpL y x < 0 := by
  constructor
  · intro h
    rcases cmpL_tri x y with h1 | h1
    · exact absurd h1 h
    · exact h1
  · rintro (rfl | h)
    · exact lt_irr
    · exact cmpL_asym _ _ h
def Asc (l : List (List Int)) : Prop := l.Pairwise fun a b => cmpL a b < 0
theorem Asc.nodup {l : List (List Int)} (h : Asc l) : l.Nodup := h.imp fun {a b} (hab : cmpL a b < 0) e => by rw [e] at hab; exact lt_irr hab
theorem Asc.lt {l : List (List Int)} (h : Asc l) {i j : Nat} (hi : i < l.length) (hj : j < l.length) (hij : i < j) : cmpL l[i] l[j] < 0 := List.pairwise_iff_getElem.1 h i j hi hj hij
/-- Neighbours in order are enough. -/
theorem asc_of {l : List (List Int)} (h : ∀ (i : Nat) (hi : i + 1 < l.length), cmpL (l[i]'(by omega)) l[i + 1] < 0) : Asc l := by
  refine List.pairwise_iff_getElem.2 fun i j hi hj hij => ?_
  obtain ⟨d, rfl⟩ : ∃ d, j = i + 1 + d := ⟨j - (i + 1), by omega⟩
  clear hij
  induction d with
  | zero => exact h i hj
  | succ d ih => exact lt_trans (ih (by omega)) (h (i + 1 + d) (by omega))
/-- Where an element lies or belongs. -/
def At (l : List (List Int)) (a : List Int) (m : Nat) : Prop := m ≤ l.length ∧ (∀ i (h : i < l.length), i < m → cmpL l[i] a < 0) ∧ (∀ i (h : i < l.length), m ≤ i → ¬ cmpL l[i] a < 0)
theorem At.found {l : List (List Int)} {a : List Int} {m : Nat} (h : At l a m) (hl : Asc l) : (∃ h : m < l.length, l[m] = a) ↔ a ∈ l := by
  constructor
  · rintro ⟨h1, rfl⟩
    exact List.getElem_mem _
  · intro ha
    obtain ⟨k, hk, rfl⟩ := List.getElem_of_mem ha
    have h1 : m ≤ k := Classical.byContradiction fun hlt => lt_irr (h.2.1 k hk (by omega))
    by_cases hmk : m = k
    · subst hmk; exact ⟨hk, rfl⟩
    · exact absurd (hl.lt (by omega) hk (by omega)) (h.2.2 m (by omega) (Nat.le_refl _))
theorem At.insert {l : List (List Int)} {a : List Int} {m : Nat} (h : At l a m) (hl : Asc l) (ha : a ∉ l) : Asc (l.take m ++ a :: l.drop m) := by
  have h1 : ∀ x ∈ l.take m, cmpL x a < 0 := fun x hx => by
    obtain ⟨i, hi, rfl⟩ := List.getElem_of_mem hx
    rw [List.length_take] at hi
    rw [List.getElem_take]
    exact h.2.1 i (by omega) (by omega)
  have h2 : ∀ x ∈ l.drop m, cmpL a x < 0 := fun x hx => by
    obtain ⟨i, hi, rfl⟩ := List.getElem_of_mem hx
    rw [List.length_drop] at hi
    rw [List.getElem_drop]
    rcases le_iff.1 (h.2.2 (m + i) (by omega) (by omega)) with e | e
    · exact absurd (e ▸ List.getElem_mem _) ha
    · exact e
  refine List.pairwise_append.2 ⟨List.Pairwise.sublist (List.take_sublist _ _) hl, List.pairwise_cons.2 ⟨h2, List.Pairwise.sublist (List.drop_sublist _ _) hl⟩, fun x hx y hy => ?_⟩
  rcases List.mem_cons.1 hy with rfl | hy
  · exact h1 x hx
  · exact lt_trans (h1 x hx) (h2 y hy)
theorem ins_mem {l : List (List Int)} {a x : List Int} {m : Nat} : x ∈ l.take m ++ a :: l.drop m ↔ x = a ∨ x ∈ l := by
  rw [List.mem_append, List.mem_cons]
  have e : x ∈ l ↔ x ∈ l.take m ∨ x ∈ l.drop m := by rw [← List.mem_append, List.take_append_drop]
  rw [e]
  constructor
  · rintro (h | h | h)
    · exact .inr (.inl h)
    · exact .inl h
    · exact .inr (.inr h)
  · rintro (h | h | h)
    · exact .inr (.inl h)
    · exact .inl h
    · exact .inr (.inr h)
/-- A list without repetitions within a list that is no longer has all of its elements. -/
theorem full_of {α : Type} {l S : List α} (hn : l.Nodup) (hs : ∀ x ∈ l, x ∈ S) (hl : S.length ≤ l.length) : ∀ x ∈ S, x ∈ l := by
  classical
  intro x hx
  apply Classical.byContradiction
  intro hne
  have h1 : (x :: l).Nodup := List.nodup_cons.2 ⟨hne, hn⟩
  have h2 : (x :: l) ⊆ S := fun y hy => by
    rcases List.mem_cons.1 hy with rfl | hy
    · exact hx
    · exact hs y hy
  have := h1.length_le_of_subset h2
  simp at this
  omega
end Go.Pm
end
section
/- What permutations generate; lists that are groups. Plain. -/
namespace Go.Pm
open Go.Gr
/-- The products of generators. -/
inductive Gen (n : Nat) (gs : List (List Int)) : List Int → Prop
  | one : Gen n gs (unit n)
  | mul {g p : List Int} : g ∈ gs → Gen n gs p → Gen n gs (cmp g p)
theorem Gen.perm {n : Nat} {gs : List (List Int)} (hg : ∀ g ∈ gs, Perm n g) {p : List Int} (h : Gen n gs p) : Perm n p := by
  induction h with
  | one => exact unit_perm n
  | mul hm _ ih => exact cmp_perm (hg _ hm) ih
theorem Gen.mono {n : Nat} {gs gs' : List (List Int)} (hs : ∀ g ∈ gs, g ∈ gs') {p : List Int} (h : Gen n gs p) : Gen n gs' p := by
  induction h with
  | one => exact .one
  | mul hm _ ih => exact .mul (hs _ hm) ih
theorem Gen.mem {n : Nat} {gs : List (List Int)} (hg : ∀ g ∈ gs, Perm n g) {g : List Int} (h : g ∈ gs) : Gen n gs g := by
  have := Gen.mul h (Gen.one (n := n) (gs := gs))
  rwa [cmp_unit (hg g h).1] at this
theorem Gen.prod {n : Nat} {gs : List (List Int)} (hg : ∀ g ∈ gs, Perm n g) {p q : List Int} (hp : Gen n gs p) (hq : Gen n gs q) : Gen n gs (cmp p q) := by
  induction hp with
  | one => rw [unit_cmp (hq.perm hg)]; exact hq
  | @mul g p' hm h' ih =>
    rw [cmp_assoc (h'.perm hg).1 (hq.perm hg)]
    exact .mul hm ih
/-- A list that has the identity and all products. -/
def Grp (n : Nat) (l : List (List Int)) : Prop := unit n ∈ l ∧ ∀ a ∈ l, ∀ b ∈ l, cmp a b ∈ l
theorem Grp.gen {n : Nat} {l gs : List (List Int)} (h : Grp n l) (hs : ∀ g ∈ gs, g ∈ l) {p : List Int} (hp : Gen n gs p) : p ∈ l := by
  induction hp with
  | one => exact h.1
  | mul hm _ ih => exact h.2 _ (hs _ hm) _ ih
/-- The products of generators, as a list. -/
def IsGen (n : Nat) (gs S : List (List Int)) : Prop := S.Nodup ∧ ∀ x, x ∈ S ↔ Gen n gs x
theorem IsGen.grp {n : Nat} {l gs S : List (List Int)} (h : IsGen n gs S) (hl : l.Nodup) (hp : ∀ a ∈ l, Perm n a) (hs : ∀ g ∈ gs, g ∈ l) (hall : ∀ a ∈ l, Gen n gs a) : S.length = l.length ↔ Grp n l := by
  have hlS : ∀ x ∈ l, x ∈ S := fun x hx => (h.2 x).2 (hall x hx)
  have hg : ∀ g ∈ gs, Perm n g := fun g hm => hp g (hs g hm)
  constructor
  · intro e
    have hSl := full_of hl hlS (by omega)
    exact ⟨hSl _ ((h.2 _).2 .one), fun a ha b hb => hSl _ ((h.2 _).2 ((hall a ha).prod hg (hall b hb)))⟩
  · intro hG
    have h1 := h.1.length_le_of_subset (fun x hx => hG.gen hs ((h.2 x).1 hx))
    have h2 := hl.length_le_of_subset hlS
    omega
theorem IsGen.over {n : Nat} {l gs S : List (List Int)} (h : IsGen n gs S) (hs : ∀ g ∈ gs, g ∈ l) (hlt : l.length < S.length) : ¬ Grp n l := fun hG => by
  have h1 := h.1.length_le_of_subset (fun x hx => hG.gen hs ((h.2 x).1 hx))
  omega
/-- In a list in ascending order the identity stands first. -/
theorem Grp.first {n : Nat} {l : List (List Int)} (h : Grp n l) (hl : Asc l) (hp : ∀ a ∈ l, Perm n a) : ∃ h : 0 < l.length, l[0] = unit n := by
  obtain ⟨k, hk, he⟩ := List.getElem_of_mem h.1
  have h0 : 0 < l.length := by omega
  refine ⟨h0, ?_⟩
  by_cases hk0 : k = 0
  · subst hk0; exact he
  · exfalso
    have h1 := hl.lt h0 hk (by omega)
    rw [he] at h1
    have hne : l[0] ≠ unit n := fun e => by rw [e] at h1; exact lt_irr h1
    exact cmpL_asym _ _ h1 (unit_least (hp _ (List.getElem_mem _)) hne)
end Go.Pm
end
section
/- Breadth-first: what is known, what waits; at its end all products are known. Plain. -/
namespace Go.Pm
/-- How many permutations there can be. -/
def code (a : List Int) : Nat := a.foldl (fun c x => c * 6 + x.toNat) 0
theorem code_eq : ∀ (a b : List Int) (c d : Nat), a.length = b.length → (∀ x ∈ a, 0 ≤ x ∧ x < 6) → (∀ x ∈ b, 0 ≤ x ∧ x < 6) → a.foldl (fun c x => c * 6 + x.toNat) c = b.foldl (fun c x => c * 6 + x.toNat) d → c = d ∧ a = b
  | [], [], c, d, _, _, _, h => ⟨h, rfl⟩
  | x :: a, y :: b, c, d, hl, ha, hb, h => by
    rw [List.foldl_cons, List.foldl_cons] at h
    have h1 := code_eq a b _ _ (by simpa using hl) (fun z hz => ha z (List.mem_cons_of_mem _ hz)) (fun z hz => hb z (List.mem_cons_of_mem _ hz)) h
    have hx := ha x (by simp)
    have hy := hb y (by simp)
    refine ⟨by omega, ?_⟩
    rw [h1.2, show x = y by omega]
theorem code_lt : ∀ (a : List Int) (c : Nat), (∀ x ∈ a, 0 ≤ x ∧ x < 6) → a.foldl (fun c x => c * 6 + x.toNat) c < (c + 1) * 6 ^ a.length
  | [], c, _ => by simp
  | x :: a, c, h => by
    rw [List.foldl_cons, List.length_cons]
    have h1 := code_lt a (c * 6 + x.toNat) (fun z hz => h z (List.mem_cons_of_mem _ hz))
    have hx := h x (by simp)
    have h2 : (c * 6 + x.toNat + 1) * 6 ^ a.length ≤ (c * 6 + 6) * 6 ^ a.length := Nat.mul_le_mul_right _ (by omega)
    have h3 : (c * 6 + 6) * 6 ^ a.length = (c + 1) * 6 ^ (a.length + 1) := by rw [Nat.pow_succ]; rw [show c * 6 + 6 = (c + 1) * 6 by omega, Nat.mul_assoc, Nat.mul_comm 6]
    omega
theorem perm_few {n : Nat} (hn : n ≤ 6) {S : List (List Int)} (hS : S.Nodup) (hp : ∀ a ∈ S, Perm n a) : S.length ≤ 46656 := by
  have hr : ∀ a ∈ S, ∀ x ∈ a, 0 ≤ x ∧ x < 6 := fun a ha x hx => by
    have := (hp a ha).2.1 x hx
    omega
  have h1 : (S.map code).Nodup := List.pairwise_map.2 (hS.imp_of_mem fun {a b} ha hb hne e => hne (code_eq a b 0 0 (by rw [(hp a ha).1, (hp b hb).1]) (hr a ha) (hr b hb) e).2)
  have h2 : ∀ c ∈ S.map code, c ∈ List.range 46656 := fun c hc => by
    obtain ⟨a, ha, rfl⟩ := List.mem_map.1 hc
    have h3 := code_lt a 0 (hr a ha)
    rw [(hp a ha).1] at h3
    have h4 : 6 ^ n ≤ 6 ^ 6 := Nat.pow_le_pow_right (by omega) hn
    have h5 : (6 : Nat) ^ 6 = 46656 := rfl
    refine List.mem_range.2 ?_
    unfold code
    omega
  have := h1.length_le_of_subset h2
  rwa [List.length_map, List.length_range] at this
/-- What is known and what waits. -/
structure Bfs (n : Nat) (gs S Q : List (List Int)) : Prop where
  nodup : S.Nodup
  gen : ∀ x ∈ S, Gen n gs x
  one : unit n ∈ S
  wait : ∀ x ∈ Q, x ∈ S
  done : ∀ x ∈ S, x ∈ Q ∨ ∀ g ∈ gs, cmp g x ∈ S
theorem Bfs.start (n : Nat) (gs : List (List Int)) : Bfs n gs [unit n] [unit n] :=
  ⟨by simp, fun x hx => by rw [List.mem_singleton.1 hx]; exact .one, List.mem_singleton.2 rfl, fun x hx => hx, fun x hx => .inl hx⟩
theorem Bfs.fin {n : Nat} {gs S : List (List Int)} (h : Bfs n gs S []) : IsGen n gs S := by
  refine ⟨h.nodup, fun x => ⟨h.gen x, fun hx => ?_⟩⟩
  induction hx with
  | one => exact h.one
  | mul hm _ ih =>
    rcases h.done _ ih with h1 | h1
    · cases h1
    · exact h1 _ hm
/-- .. while the products with one element are looked at, those with the first j generators being done. -/
structure Mid (n : Nat) (gs S Q : List (List Int)) (a : List Int) (j : Nat) : Prop where
  nodup : S.Nodup
  gen : ∀ x ∈ S, Gen n gs x
  one : unit n ∈ S
  cur : a ∈ S
  wait : ∀ x ∈ Q, x ∈ S
  done : ∀ x ∈ S, x ∈ Q ∨ x = a ∨ ∀ g ∈ gs, cmp g x ∈ S
  part : ∀ g ∈ gs.take j, cmp g a ∈ S
theorem Bfs.pop {n : Nat} {gs S Q : List (List Int)} {a : List Int} (h : Bfs n gs S (a :: Q)) : Mid n gs S Q a 0 :=
  ⟨h.nodup, h.gen, h.one, h.wait a (by simp), fun x hx => h.wait x (List.mem_cons_of_mem _ hx), fun x hx => by
    rcases h.done x hx with h1 | h1
    · rcases List.mem_cons.1 h1 with h1 | h1
      · exact .inr (.inl h1)
      · exact .inl h1
    · exact .inr (.inr h1), fun g hg => by simp at hg⟩
theorem Mid.old {n : Nat} {gs S Q : List (List Int)} {a : List Int} {j : Nat} (h : Mid n gs S Q a j) (hj : j < gs.length) (hm : cmp gs[j] a ∈ S) : Mid n gs S Q a (j + 1) :=
  ⟨h.nodup, h.gen, h.one, h.cur, h.wait, h.done, fun g hg => by
    rw [List.take_succ_eq_append_getElem hj] at hg
    rcases List.mem_append.1 hg with h1 | h1
    · exact h.part g h1
    · rw [List.mem_singleton.1 h1]; exact hm⟩
theorem Mid.new {n : Nat} {gs S Q : List (List Int)} {a : List Int} {j : Nat} (h : Mid n gs S Q a j) (hj : j < gs.length) (hm : cmp gs[j] a ∉ S) : Mid n gs (cmp gs[j] a :: S) (Q ++ [cmp gs[j] a]) a (j + 1) := by
  have hc : ∀ x, x ∈ S → x ∈ cmp gs[j] a :: S := fun x hx => List.mem_cons_of_mem _ hx
  refine ⟨List.nodup_cons.2 ⟨hm, h.nodup⟩, fun x hx => ?_, hc _ h.one, hc _ h.cur, fun x hx => ?_, fun x hx => ?_, fun g hg => ?_⟩
  · rcases List.mem_cons.1 hx with rfl | hx
    · exact .mul (List.getElem_mem _) (h.gen a h.cur)
    · exact h.gen x hx
  · rcases List.mem_append.1 hx with hx | hx
    · exact hc x (h.wait x hx)
    · rw [List.mem_singleton.1 hx]; exact List.mem_cons_self
  · rcases List.mem_cons.1 hx with rfl | hx
    · exact .inl (List.mem_append_right _ (by simp))
    · rcases h.done x hx with h1 | h1 | h1
      · exact .inl (List.mem_append_left _ h1)
      · exact .inr (.inl h1)
      · exact .inr (.inr fun g hg => hc _ (h1 g hg))
  · rw [List.take_succ_eq_append_getElem hj] at hg
    rcases List.mem_append.1 hg with h1 | h1
    · exact hc _ (h.part g h1)
    · rw [List.mem_singleton.1 h1]; exact List.mem_cons_self
theorem Mid.fin {n : Nat} {gs S Q : List (List Int)} {a : List Int} (h : Mid n gs S Q a gs.length) : Bfs n gs S Q := by
  have hp := h.part
  rw [List.take_length] at hp
  exact ⟨h.nodup, h.gen, h.one, h.wait, fun x hx => by
    rcases h.done x hx with h1 | h1 | h1
    · exact .inl h1
    · rw [h1]; exact .inr hp
    · exact .inr h1⟩
end Go.Pm
end
section
/- Powers of a permutation: one of them is the identity. Plain. -/
namespace Go.Pm
def pw (a : List Int) : Nat → List Int
  | 0 => a
  | k + 1 => cmp a (pw a k)
theorem pw_perm {n : Nat} {a : List Int} (ha : Perm n a) : ∀ k, Perm n (pw a k)
  | 0 => ha
  | k + 1 => cmp_perm ha (pw_perm ha k)
theorem pw_back {n : Nat} {a : List Int} (ha : Perm n a) : ∀ i j, i < j → pw a i = pw a j → pw a (j - i - 1) = unit n
  | 0, j + 1, _, h => by
    have h1 : cmp a (unit n) = cmp a (pw a j) := by rw [cmp_unit ha.1]; exact h
    have := cmp_inj ha (unit_perm n) (pw_perm ha j) h1
    rw [show j + 1 - 0 - 1 = j by omega]
    exact this.symm
  | i + 1, j + 1, hij, h => by
    have h1 := cmp_inj ha (pw_perm ha i) (pw_perm ha j) h
    have := pw_back ha i j (by omega) h1
    rwa [show j + 1 - (i + 1) - 1 = j - i - 1 by omega]
theorem pw_end {n : Nat} (hn : n ≤ 6) {a : List Int} (ha : Perm n a) : ∃ K, K ≤ 46656 ∧ pw a K = unit n := by
  apply Classical.byContradiction
  intro hno
  have hne : ∀ k, k ≤ 46656 → pw a k ≠ unit n := fun k hk h => hno ⟨k, hk, h⟩
  have hnd : ((List.range 46657).map (pw a)).Nodup := by
    refine List.pairwise_map.2 (List.pairwise_lt_range.imp_of_mem fun {i j} hi hj hij e => ?_)
    have h1 := List.mem_range.1 hj
    exact hne (j - i - 1) (by omega) (pw_back ha i j hij e)
  have := perm_few hn hnd (fun x hx => by
    obtain ⟨k, _, rfl⟩ := List.mem_map.1 hx
    exact pw_perm ha k)
  rw [List.length_map, List.length_range] at this
  omega
/-- An involution: not the identity, its square is. -/
def Invo (a : List Int) : Prop := a.length ≤ 6 ∧ Perm a.length a ∧ a ≠ unit a.length ∧ cmp a a = unit a.length
instance (a : List Int) : Decidable (Invo a) := inferInstanceAs (Decidable (_ ∧ _ ∧ _ ∧ _))
theorem order_two {n k : Nat} {a : List Int} (h1 : pw a k = unit n) (h2 : ∀ j, j < k → pw a j ≠ unit n) : k + 1 = 2 ↔ a ≠ unit n ∧ cmp a a = unit n := by
  constructor
  · intro h
    obtain rfl : k = 1 := by omega
    exact ⟨h2 0 (by omega), h1⟩
  · rintro ⟨h3, h4⟩
    match k, h1, h2 with
    | 0, h1, _ => exact absurd h1 h3
    | 1, _, _ => rfl
    | k + 2, _, h2 => exact absurd h4 (h2 1 (by omega))
end Go.Pm
end
section
/- Memory of the reference's classes: keys that stay and classes that grow, all apart. -/
namespace Go.Proofs.Tg
open Go.RowKit
structure KInv (base : Nat) (KA : Option Addr) (kc : Nat) (K : List (List Int)) (kval : Nat → Value) (C : Option Addr) (cc : Nat) (Cl : List (List Nat)) (val : Nat → Value) (w : World) : Prop where
  fam : Fam base C cc Cl val w
  krow : w.ownsRow base 22 1 (.slice KA K.length kc) K.length ((List.range K.length).map kval)
  kown : ∀ j, j < K.length → w.ownsRow base 3 1 (kval j) (K.getD j []).length ((K.getD j []).map vi)
  ksep : ∀ i j, i < K.length → j < Cl.length → (kval i).ownBlock = none ∨ (kval i).ownBlock ≠ (val j).ownBlock
  rsep : (Value.slice KA K.length kc).ownBlock = none ∨ (Value.slice KA K.length kc).ownBlock ≠ (Value.slice C Cl.length cc).ownBlock
theorem KInv.nil (base : Nat) (w : World) : KInv base none 0 [] (fun _ => .slice none 0 0) none 0 [] (fun _ => .slice none 0 0) w :=
  ⟨Fam.nil _ _, World.ownsRow_nil _ _ _ _, fun j h => absurd h (by simp), fun i j h => absurd h (by simp), .inl rfl⟩
theorem KInv.keep {base : Nat} {KA : Option Addr} {kc : Nat} {K : List (List Int)} {kval : Nat → Value} {C : Option Addr} {cc : Nat} {Cl : List (List Nat)} {val : Nat → Value} {w w' : World} (h : KInv base KA kc K kval C cc Cl val w) (hb : Below w.heap.size w w') : KInv base KA kc K kval C cc Cl val w' :=
  ⟨h.fam.keep hb, own_below h.krow hb (Nat.le_refl _), fun j hj => own_below (h.kown j hj) hb (Nat.le_refl _), h.ksep, h.rsep⟩
theorem KInv.alloc {base : Nat} {KA : Option Addr} {kc : Nat} {K : List (List Int)} {kval : Nat → Value} {C : Option Addr} {cc : Nat} {Cl : List (List Nat)} {val : Nat → Value} {w : World} (h : KInv base KA kc K kval C cc Cl val w) (o : Obj) : KInv base KA kc K kval C cc Cl val (w.alloc o) :=
  h.keep ((Below.refl _ _).alloc (Nat.le_refl _) o)
theorem KInv.add {base : Nat} {KA : Option Addr} {kc : Nat} {K : List (List Int)} {kval : Nat → Value} {g : Nat} {cc : Nat} {Cl : List (List Nat)} {val : Nat → Value} {w w' : World} {k i : Nat} {v' : Value} (h : KInv base KA kc K kval (some ⟨g, 0, none⟩) cc Cl val w) (hk : k < Cl.length)
    (hr : w'.ownsRow base 3 1 v' ((Cl.getD k []).length + 1) ((Cl.getD k []).map vn ++ [vn i])) (hg : w.grownBy w' (val k).ownBlock) (hat : v'.ownBlock = (val k).ownBlock ∨ v'.ownBlock = some w.heap.size) :
    KInv base KA kc K kval (some ⟨g, 0, none⟩) cc (Cl.set k (Cl.getD k [] ++ [i])) (fun j => if j = k then v' else val j) (w'.setCell ⟨g, k, none⟩ v') := by
  have hlen : (Cl.set k (Cl.getD k [] ++ [i])).length = Cl.length := by simp
  have hrow' := h.fam.row.kept hg (own_ne h.fam.row (h.fam.own k hk) (by decide))
  have hst := hrow'.stored k v'
  have hkr := h.krow.kept hg (own_ne h.krow (h.fam.own k hk) (by decide))
  refine ⟨h.fam.add hk hr hg hat, ?_, fun j hj => ?_, fun a b ha hb => ?_, ?_⟩
  · exact hkr.kept hst.2 (by
      rcases h.rsep with e | e
      · exact .inl e
      · exact .inr (by simpa [Value.ownBlock] using e))
  · have h1 := (h.kown j hj).kept hg (h.ksep j k hj hk)
    exact h1.kept hst.2 (own_ne h1 hrow' (by decide))
  · rw [hlen] at hb
    by_cases e : b = k
    · rw [if_pos e]
      rcases hat with hx | hx
      · rw [hx]; exact h.ksep a k ha hk
      · cases hbk : (kval a).ownBlock with
        | none => exact .inl rfl
        | some z =>
          right
          rw [hx]
          intro e2
          injection e2 with e2
          have := ((h.kown a ha).lt z hbk).2
          omega
    · rw [if_neg e]; exact h.ksep a b ha hb
  · rw [hlen]; exact h.rsep
end Go.Proofs.Tg
end
section
/- Walks of the reference: values, sets, classes. -/
namespace Go.Proofs.Tg
open Go.RowKit Go.Gr Go.Ev Go.Mo
set_option maxHeartbeats 4000000
set_option maxRecDepth 100000
theorem seq_any (A B : Option Addr) (xs ys : List Int) (c d : Nat) (w : World) (hx : Ints w A xs) (hy : Ints w B ys) (hn : xs.length ≤ 1000000) (b : Bool) (hbb : decide (xs = ys) = b) :
    Calls Tryz.prog 56 #[.slice A xs.length c, .slice B ys.length d] w fun e w' => e = .returned (.bool b) ∧ Dr w w' := by
  rw [← hbb]
  clear hbb
  by_cases hl : xs.length = ys.length
  · have hb : ((xs.length : Int) != (ys.length : Int)) = false := by simp [hl]
    have HL := Lib.hid hl; clear hl
    go_enter Tryz.func56, Tryz.ntmps56
    go_wp2
    go_loopw [13] (fun i wr => ∃ k : Nat, k ≤ xs.length ∧ i = .int .i64 k ∧ Hid (xs.take k = ys.take k) ∧ Dr w wr) (fun i _ => xs.length - (intOf i).toNat)
    case atStart => exact ⟨0, Nat.zero_le _, rfl, Lib.hid (by simp), Dr.refl _⟩
    case round =>
      obtain ⟨k, hk, rfl, HT, hbw⟩ := hrel
      by_cases hlt : k < xs.length
      · have hky : k < ys.length := by have := HL.out; omega
        obtain ⟨ad, rfl, hc⟩ := Ints.at (hx.keep hbw.below) hlt
        obtain ⟨bd, rfl, hd⟩ := Ints.at (hy.keep hbw.below) hky
        have HX : Hid (xs.take (k + 1) = xs.take k ++ [xs[k]]) := Lib.hid (List.take_succ_eq_append_getElem hlt)
        have HY : Hid (ys.take (k + 1) = ys.take k ++ [ys[k]]) := Lib.hid (List.take_succ_eq_append_getElem hky)
        have HNE : Hid (xs = ys → xs[k] = ys[k]) := Lib.hid (fun e => by subst e; rfl)
        have i1 : (0 : Int) ≤ (k : Int) := by omega
        have i2 : (k : Int) < (xs.length : Int) := by omega
        have i3 : (k : Int) < (ys.length : Int) := by omega
        have i4 : ((k : Int)).toNat = k := by omega
        clear hx hy
        generalize xs[k] = x at hc HX HNE
        generalize ys[k] = y at hd HY HNE
        by_cases heq : x = y
        · have hbb : (x != y) = false := by simp [heq]
          have HE := Lib.hid heq; clear heq
          go_wp2
          go_quiet (fail)
          go_wp2
          go_roundw
          case rel => exact ⟨k + 1, by omega, by go_num, Lib.hid (by rw [HX.out, HY.out, HT.out, HE.out]), hbw.drewN _⟩
          case measure => simp [intOf]; omega
        · have hbb : (x != y) = true := by simp [heq]
          have HF : Hid (decide (xs = ys) = false) := Lib.hid (decide_eq_false (fun e => heq (HNE.out e)))
          clear heq
          go_wp2
          go_quiet (fail)
          go_wp2
          go_ret
          exact ⟨by rw [HF.out]; rfl, hbw.drewN _⟩
      · have HF : Hid (decide (xs = ys) = true) := Lib.hid (decide_eq_true (by
          have := HT.out
          rwa [List.take_of_length_le (by omega), List.take_of_length_le (by have := HL.out; omega)] at this))
        go_wp2
        go_ret
        exact ⟨by rw [HF.out]; rfl, hbw⟩
  · have hb : ((xs.length : Int) != (ys.length : Int)) = true := by simp; omega
    have HF : Hid (decide (xs = ys) = false) := Lib.hid (decide_eq_false (fun e => hl (by rw [e])))
    clear hl
    go_enter Tryz.func56, Tryz.ntmps56
    go_wp2
    go_ret
    exact ⟨by rw [HF.out]; rfl, Dr.refl _⟩
end Go.Proofs.Tg
end
