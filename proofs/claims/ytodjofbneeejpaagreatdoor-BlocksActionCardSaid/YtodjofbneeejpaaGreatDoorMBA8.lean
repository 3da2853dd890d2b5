/- Parts of the proof: WG5, AC1, WG2, SM6, BG8, AC2. -/
import Derived.Maps.OwnOps
import Derived.DeepKeys4
import Derived.Maps.OwnSet
import Derived.Test.YtodjofbneeejpaaGreatDoorMBA0
import Derived.Test.YtodjofbneeejpaaGreatDoorMBA2
import Derived.Test.YtodjofbneeejpaaGreatDoorMBA3
import Derived.Test.YtodjofbneeejpaaGreatDoorMBA4
import Derived.Test.YtodjofbneeejpaaGreatDoorMBA5
import Derived.Test.YtodjofbneeejpaaGreatDoorMBA6
import Derived.Test.YtodjofbneeejpaaGreatDoorMBA7
section
/- Order, isInvolution, commute of the program; Less and place of the reference 18. -/
namespace Go.Proofs.Tg.Gp
open Go.RowKit Go.Gr Go.Sp Go.Ev Go.Pm
set_option maxHeartbeats 4000000
set_option maxRecDepth 100000
theorem ints_blk {w : World} {g n : Nat} {l : List Int} (h : Blk w g 3 (iarr l)) (hl : l.length = n) (hn : n ≤ 6) : Ints w (some ⟨g, 0, none⟩) l := by
  have := Sl.own (own_iarr (b := 0) h (Nat.zero_le _) rfl (by omega))
  exact this
theorem gorder_any (A : Option Addr) (c n : Nat) (a : List Int) (w : World) (hA : Ints w A a) (ha : Perm n a) (hn : n ≤ 6) :
    Calls Tryz.prog 77 #[.slice A n c] w fun e w' => ∃ k : Nat, e = .returned (.tuple #[.int .i64 ((k : Int) + 1), .int .i64 0]) ∧ pw a k = unit n ∧ (∀ j, j < k → pw a j ≠ unit n) ∧ Below w.heap.size w w' := by
  obtain ⟨K, hK, hKe⟩ := pw_end hn ha
  have HK := Lib.hid hKe
  have HA := Lib.hid ha
  have hal := ha.1
  have HPW : Hid (∀ k, Perm n (pw a k)) := Lib.hid (fun k => pw_perm ha k)
  have HV : Hid (∀ V, Below w.heap.size w V → Calls Tryz.prog 74 #[.slice A n c] V fun e w' => e = .returned (.bool true) ∧ Below V.heap.size V w') := Lib.hid (fun V h => by
    have := gvalid_any A c a true V (hA.keep h) (by omega) ⟨fun _ => ⟨by omega, by rw [hal]; exact ha⟩, fun _ => rfl⟩
    rw [hal] at this
    exact this)
  have HID := Lib.hid (fun V => identity_any n V hn)
  clear hKe ha
  go_enter Tryz.func77, Tryz.ntmps77
  go_wp2_with (first
    | (go_at_call 74; refine (HV.out _ (Below.refl _ _)).mono ?_; rintro e w1 ⟨rfl, hb1⟩)
    | (go_at_call 97; refine (HID.out _).mono ?_; rintro e w2 ⟨rfl, hG2, hb2⟩))
  have hbw2 := below_all hb1 hb2
  have HG := Lib.hid hG2
  generalize w1.heap.size = g1 at *
  clear HV HID hb1
  go_loopw [5, 6] (fun s5 s6 wr => ∃ (k : Nat) (P : Option Addr) (cp : Nat), s5 = .int .i64 ((k : Int) + 1) ∧ k ≤ K ∧ s6 = .slice P n cp ∧ Ints wr P (pw a k) ∧ Hid (∀ j, j < k → pw a j ≠ unit n) ∧ Below w2.heap.size w2 wr) (fun s5 _ _ => K + 1 - (intOf s5).toNat)
  case atStart => exact ⟨0, A, c, by go_num, Nat.zero_le _, rfl, hA.keep hbw2, Lib.hid (fun j h => by omega), Below.refl _ _⟩
  case round =>
    obtain ⟨wo, rfl⟩ : ∃ wo : World, wo = wr := ⟨_, rfl⟩
    obtain ⟨k, P, cp, rfl, hk, rfl, hIP, HN, hbo⟩ := hrel
    have hpl := (HPW.out k).1
    have hIU := ints_blk (HG.out.keep hbo HG.out.lt) (unit_len n) hn
    have hsz : IntKind.i64.wrap ((k : Int) + 1 + 1) = (k : Int) + 1 + 1 := IntWalk.i64_in _ (by omega)
    by_cases he : pw a k = unit n
    · have heq := seq_any P (some ⟨g1, 0, none⟩) (pw a k) (unit n) cp n wo hIP hIU (by omega) true (decide_eq_true he)
      rw [hpl, unit_len] at heq
      have HEQ := Lib.hid heq
      have HE := Lib.hid he
      clear heq he hIP hIU
      go_wp2_with (go_at_call 56; refine HEQ.out.mono ?_; rintro e w4 ⟨rfl, hd4⟩)
      go_ret2
      exact ⟨k, rfl, HE.out, HN.out, below_all (below_all hbw2 hbo) hd4.below⟩
    · have heq := seq_any P (some ⟨g1, 0, none⟩) (pw a k) (unit n) cp n wo hIP hIU (by omega) false (decide_eq_false he)
      rw [hpl, unit_len] at heq
      have HEQ := Lib.hid heq
      have HN2 : Hid (∀ j, j < k + 1 → pw a j ≠ unit n) := Lib.hid (fun j hj => by
        by_cases h : j = k
        · rw [h]; exact he
        · exact HN.out j (by omega))
      have hkK : k < K := by
        apply Classical.byContradiction
        intro hlt
        have : k = K := by omega
        rw [this] at he
        exact he HK.out
      have HCP : Hid (∀ V, Below wo.heap.size wo V → Calls Tryz.prog 98 #[.slice A n c, .slice P n cp] V fun e w' => e = .returned (.slice (some ⟨V.heap.size, 0, none⟩) n n) ∧ Blk w' V.heap.size 3 (iarr (pw a (k + 1))) ∧ Below V.heap.size V w') := Lib.hid (fun V h =>
        compose_any A P c cp n a (pw a k) V (hA.keep (below_all (below_all hbw2 hbo) h)) (hIP.keep h) HA.out (HPW.out k) hn)
      clear heq he hIP hIU
      go_wp2_with (first
        | (go_at_call 56; refine HEQ.out.mono ?_; rintro e w4 ⟨rfl, hd4⟩
           have hb4 := hd4.below)
        | (go_at_call 98; refine (HCP.out _ hb4).mono ?_; rintro e w5 ⟨rfl, hG5, hb5⟩))
      go_roundw
      case rel => exact ⟨k + 1, _, n, by go_num, by omega, rfl, ints_blk hG5 (HPW.out (k + 1)).1 hn, HN2, below_all (below_all hbo hb4) hb5⟩
      case measure => simp [intOf]; omega
theorem invol_any (A : Option Addr) (c : Nat) (a : List Int) (v : Bool) (w : World) (hA : Ints w A a) (hl : a.length ≤ 1000000) (hv : v = true ↔ Invo a) :
    Calls Tryz.prog 43 #[.slice A a.length c] w fun e w' => e = .returned (.bool v) ∧ Below w.heap.size w w' := by
  by_cases hp : a.length ≤ 6 ∧ Perm a.length a
  · have HV := Lib.hid (gvalid_any A c a true w hA hl ⟨fun _ => hp, fun _ => rfl⟩)
    have HO : Hid (∀ V, Below w.heap.size w V → Calls Tryz.prog 77 #[.slice A a.length c] V fun e w' => ∃ k : Nat, e = .returned (.tuple #[.int .i64 ((k : Int) + 1), .int .i64 0]) ∧ (k + 1 = 2 ↔ v = true) ∧ Below V.heap.size V w') := Lib.hid (fun V h =>
      (gorder_any A c a.length a V (hA.keep h) hp.2 hp.1).mono fun e w' ⟨k, h1, h2, h3, h4⟩ => ⟨k, h1, (order_two h2 h3).trans ⟨fun h => hv.2 ⟨hp.1, hp.2, h⟩, fun h => (hv.1 h).2.2⟩, h4⟩)
    clear hv hA hp
    go_enter Tryz.func43, Tryz.ntmps43
    go_upto_region 4 with (first
      | (go_at_call 74; refine HV.out.mono ?_; rintro e w1 ⟨rfl, hb1⟩)
      | (go_at_call 77; refine (HO.out _ hb1).mono ?_; rintro e w2 ⟨k, rfl, hk, hb2⟩))
    cases v with
    | true =>
      obtain rfl : k = 1 := by have := hk.2 rfl; omega
      go_wp2
      go_ret
      exact ⟨rfl, below_all hb1 hb2⟩
    | false =>
      have hne : ((k : Int) + 1 == 2) = false := beq_eq_false_iff_ne.2 (fun e => by have := hk.1 (by omega); cases this)
      go_wp2
      go_ret
      exact ⟨rfl, below_all hb1 hb2⟩
  · have HV := Lib.hid (gvalid_any A c a false w hA hl (Iff.intro (fun h => by cases h) (fun h => absurd h hp)))
    obtain rfl : v = false := eq_false_of_ne_true (fun h => hp ⟨(hv.1 h).1, (hv.1 h).2.1⟩)
    clear hv hA hp
    go_enter Tryz.func43, Tryz.ntmps43
    go_wp2_with (go_at_call 74; refine HV.out.mono ?_; rintro e w1 ⟨rfl, hb1⟩)
    go_ret
    exact ⟨rfl, hb1⟩
theorem commute_any (A B : Option Addr) (c d n : Nat) (a b : List Int) (v : Bool) (w : World) (hA : Ints w A a) (hB : Ints w B b) (ha : Perm n a) (hb : Perm n b) (hn : n ≤ 6) (hv : decide (cmp a b = cmp b a) = v) :
    Calls Tryz.prog 61 #[.slice A n c, .slice B n d] w fun e w' => e = .returned (.bool v) ∧ Below w.heap.size w w' := by
  have H1 := Lib.hid (bcompose_any A B c d n a b w hA hB ha hb hn)
  have H2 : Hid (∀ V, Below w.heap.size w V → Calls Tryz.prog 62 #[.slice B n d, .slice A n c] V fun e w' => e = .returned (.slice (some ⟨V.heap.size, 0, none⟩) n n) ∧ Blk w' V.heap.size 3 (iarr (cmp b a)) ∧ Below V.heap.size V w') := Lib.hid (fun V h => bcompose_any B A d c n b a V (hB.keep h) (hA.keep h) hb ha hn)
  have HL1 : Hid ((cmp a b).length = n) := Lib.hid (cmp_perm ha hb).1
  have HL2 : Hid ((cmp b a).length = n) := Lib.hid (cmp_perm hb ha).1
  have HEQ : Hid (∀ V g1 g2, Blk V g1 3 (iarr (cmp a b)) → Blk V g2 3 (iarr (cmp b a)) → Calls Tryz.prog 56 #[.slice (some ⟨g1, 0, none⟩) n n, .slice (some ⟨g2, 0, none⟩) n n] V fun e w' => e = .returned (.bool v) ∧ Dr V w') := Lib.hid (fun V g1 g2 h1 h2 => by
    have := seq_any (some ⟨g1, 0, none⟩) (some ⟨g2, 0, none⟩) (cmp a b) (cmp b a) n n V (ints_blk h1 HL1.out hn) (ints_blk h2 HL2.out hn) (by have := HL1.out; omega) v hv
    rw [HL1.out, HL2.out] at this
    exact this)
  clear hA hB ha hb hv
  generalize cmp a b = x at *
  generalize cmp b a = y at *
  go_enter Tryz.func61, Tryz.ntmps61
  go_upto_region 1 with (fail)
  go_wp2_with (fail)
  refine H1.out.mono ?_
  rintro e w1 ⟨rfl, hG1, hb1⟩
  go_wp2_with (fail)
  refine (H2.out _ hb1).mono ?_
  rintro e w2 ⟨rfl, hG2, hb2⟩
  have HE2 := Lib.hid (HEQ.out w2 _ _ (hG1.keep hb2 hG1.lt) hG2)
  clear hG1 hG2 HEQ H1 H2
  go_wp2_with (go_at_call 56; refine HE2.out.mono ?_; rintro e w3 ⟨rfl, hd3⟩)
  go_ret
  exact ⟨rfl, below_all (below_all hb1 hb2) hd3.below⟩
theorem less_any (A B : Option Addr) (c d : Nat) (a b : List Int) (v : Bool) (w : World) (hA : Ints w A a) (hB : Ints w B b) (hl : a.length ≤ 1000000) (hv : decide (cmpL a b < 0) = v) :
    Calls Tryz.prog 57 #[.slice A a.length c, .slice B b.length d] w fun e w' => e = .returned (.bool v) ∧ w = w' := by
  have H := Lib.hid (Gx.compare_any A B c d a b w hA hB hl)
  generalize cmpL a b = z at *
  go_enter Tryz.func57, Tryz.ntmps57
  go_wp2_with (go_at_call 51; refine H.out.mono ?_; rintro e w1 ⟨rfl, rfl⟩)
  go_ret
  exact ⟨rfl, rfl⟩
end Go.Proofs.Tg.Gp
end
section
/- The package blocks: validMonomials, sizes; the reference's monomials. -/
namespace Go.Proofs.Tg.Bk
open Go.RowKit Go.Gr Go.Sp Go.Ev Go.Pm Go.Mo
set_option maxHeartbeats 1000000
set_option maxRecDepth 100000
theorem bvmons_any (L : Option Addr) (cL : Nat) (l : List (List Int)) (q : Bool) (w : World) (hL : Lists w L l) (hl : l.length ≤ 1000000) (hll : ∀ x ∈ l, x.length ≤ 1000) (hq : q = true ↔ ∀ x ∈ l, vldM x = true) :
    Calls Tryz.prog 46 #[.slice L l.length cL] w fun e w' => e = .returned (.bool q) ∧ w = w' := by
  have HL := Lib.hid hL
  have HQ := Lib.hid hq
  have HLL := Lib.hid hll
  clear hL hq hll
  go_enter Tryz.func46, Tryz.ntmps46
  go_wp2
  go_loopw [7] (fun s7 wr => ∃ k : Nat, s7 = .int .i64 k ∧ k ≤ l.length ∧ Hid (∀ j (h : j < l.length), j < k → vldM l[j] = true) ∧ w = wr) (fun s7 _ => l.length - (intOf s7).toNat)
  case atStart => exact ⟨0, rfl, Nat.zero_le _, Lib.hid (fun j _ h => absurd h (by omega)), rfl⟩
  case round =>
    obtain ⟨k, rfl, hk, HN, rfl⟩ := hrel
    by_cases hkl : k < l.length
    · obtain ⟨ad, E, ce, rfl, hc, hE⟩ := HL.out.at hkl
      have q0 : (0 : Int) ≤ (k : Int) := by omega
      have q1 : (k : Int) < (l.length : Int) := by omega
      have q3 : ((k : Int)).toNat = k := by omega
      obtain ⟨b, hb⟩ : ∃ b, vldM l[k] = b := ⟨_, rfl⟩
      have HV := Lib.hid (valid_any E ce l[k] w hE (HLL.out _ (List.getElem_mem _)))
      rw [hb] at HV
      have HB := Lib.hid hb
      clear hE hb
      cases b with
      | true =>
        have HN2 : Hid (∀ j (h : j < l.length), j < k + 1 → vldM l[j] = true) := Lib.hid (fun j h hj => by
          by_cases he : j = k
          · subst he; exact HB.out
          · exact HN.out j h (by omega))
        clear HB
        generalize l[k] = x at *
        go_wp2_with (go_at_call 78; refine HV.out.mono ?_; rintro e w2 ⟨rfl, rfl⟩)
        go_roundw
        case rel => exact ⟨k + 1, by go_num, by omega, HN2, trivial⟩
        case measure => simp [intOf]; omega
      | false =>
        obtain rfl : q = false := eq_false_of_ne_true (fun h => by
          have := HQ.out.1 h _ (List.getElem_mem hkl)
          rw [HB.out] at this
          cases this)
        clear HB
        generalize l[k] = x at *
        go_wp2_with (go_at_call 78; refine HV.out.mono ?_; rintro e w2 ⟨rfl, rfl⟩)
        go_ret
        exact ⟨rfl, rfl⟩
    · obtain rfl : k = l.length := by omega
      obtain rfl : q = true := HQ.out.2 (fun x hx => by
        obtain ⟨j, hj, rfl⟩ := List.getElem_of_mem hx
        exact HN.out j hj hj)
      have dk : decide ((l.length : Int) < (l.length : Int)) = false := by simp
      go_wp2
      go_ret
      exact ⟨rfl, rfl⟩
/-- The error of a basis' sizes. -/
def szE (n : Nat) (b : List (List Int)) : Int := if ∃ m ∈ b, m.length ≠ n then 4 else if b.length = 0 ∨ 64 < b.length then 2 else 0
theorem sizes_any (L : Option Addr) (cL n : Nat) (l : List (List Int)) (z : Int) (w : World) (hL : Lists w L l) (hl : l.length ≤ 1000000) (hz : szE n l = z) :
    Calls Tryz.prog 59 #[.int .i64 n, .slice L l.length cL] w fun e w' => e = .returned (.int .i64 z) ∧ w = w' := by
  have HL := Lib.hid hL
  have HZ := Lib.hid hz
  clear hL hz
  go_enter Tryz.func59, Tryz.ntmps59
  go_wp2
  go_loopw [9] (fun s9 wr => ∃ k : Nat, s9 = .int .i64 k ∧ k ≤ l.length ∧ Hid (∀ j (h : j < l.length), j < k → l[j].length = n) ∧ w = wr) (fun s9 _ => l.length - (intOf s9).toNat)
  case atStart => exact ⟨0, rfl, Nat.zero_le _, Lib.hid (fun j _ h => absurd h (by omega)), rfl⟩
  case round =>
    obtain ⟨k, rfl, hk, HN, rfl⟩ := hrel
    by_cases hkl : k < l.length
    · obtain ⟨ad, E, ce, rfl, hc, _⟩ := HL.out.at hkl
      have q0 : (0 : Int) ≤ (k : Int) := by omega
      have q1 : (k : Int) < (l.length : Int) := by omega
      have q3 : ((k : Int)).toNat = k := by omega
      by_cases he : l[k].length = n
      · have d1 : decide ((l[k].length : Int) = (n : Int)) = true := decide_eq_true (by omega)
        have d2 : decide (l[k].length = n) = true := decide_eq_true he
        have d3 : (((l[k].length : Nat) : Int) == (n : Int)) = true := beq_iff_eq.2 (by omega)
        have HN2 : Hid (∀ j (h : j < l.length), j < k + 1 → l[j].length = n) := Lib.hid (fun j h hj => by
          by_cases h2 : j = k
          · subst h2; exact he
          · exact HN.out j h (by omega))
        clear he
        generalize l[k] = x at hc d1 d2 d3
        go_wp2
        go_roundw
        case rel => exact ⟨k + 1, by go_num, by omega, HN2, trivial⟩
        case measure => simp [intOf]; omega
      · have d1 : decide ((l[k].length : Int) = (n : Int)) = false := decide_eq_false (by omega)
        have d2 : decide (l[k].length = n) = false := decide_eq_false he
        have d3 : (((l[k].length : Nat) : Int) == (n : Int)) = false := beq_eq_false_iff_ne.2 (by omega)
        obtain rfl : z = 4 := by
          rw [← HZ.out]
          unfold szE
          rw [if_pos ⟨_, List.getElem_mem hkl, he⟩]
        clear he
        generalize l[k] = x at hc d1 d2 d3
        go_wp2
        go_ret
        exact ⟨rfl, rfl⟩
    · obtain rfl : k = l.length := by omega
      have dk : decide ((l.length : Int) < (l.length : Int)) = false := by simp
      have hno : ¬ ∃ m ∈ l, m.length ≠ n := by
        rintro ⟨m, hm, hne⟩
        obtain ⟨j, hj, rfl⟩ := List.getElem_of_mem hm
        exact hne (HN.out j hj hj)
      have hz := HZ.out
      unfold szE at hz
      rw [if_neg hno] at hz
      by_cases h0 : l.length = 0
      · rw [if_pos (.inl h0)] at hz
        subst hz
        have d1 : decide ((l.length : Int) = 0) = true := decide_eq_true (by omega)
        have d2 : decide (l.length = 0) = true := decide_eq_true h0
        have d3 : (((l.length : Nat) : Int) == 0) = true := beq_iff_eq.2 (by omega)
        clear h0 hno
        go_wp2
        go_ret
        exact ⟨rfl, rfl⟩
      · have d1 : decide ((l.length : Int) = 0) = false := decide_eq_false (by omega)
        have d2 : decide (l.length = 0) = false := decide_eq_false h0
        have d3 : (((l.length : Nat) : Int) == 0) = false := beq_eq_false_iff_ne.2 (by omega)
        by_cases h6 : 64 < l.length
        · rw [if_pos (.inr h6)] at hz
          subst hz
          have e1 : decide ((64 : Int) < (l.length : Int)) = true := decide_eq_true (by omega)
          have e2 : decide (64 < l.length) = true := decide_eq_true h6
          clear h0 hno h6
          go_wp2
          go_ret
          exact ⟨rfl, rfl⟩
        · rw [if_neg (by rintro (h | h) <;> contradiction)] at hz
          subst hz
          have e1 : decide ((64 : Int) < (l.length : Int)) = false := decide_eq_false (by omega)
          have e2 : decide (64 < l.length) = false := decide_eq_false h6
          clear h0 hno h6
          go_wp2
          go_ret
          exact ⟨rfl, rfl⟩
end Go.Proofs.Tg.Bk
end
section
/- Keys of permutations and sets of keys, of the package blocks (printed by wip/tools/mk_keys.py). -/
namespace Go.Proofs.Tg.Bk
open Go.RowKit Go.Gr Go.Sp Go.Ev Go.Maps Go.WideShapes Go.Pm
set_option maxHeartbeats 4000000
set_option maxRecDepth 100000
theorem six {w : World} {g : Nat} {t : TypeId} {a0 a1 a2 a3 a4 a5 : Value} (h : Blk w g t #[a0, a1, a2, a3, a4, a5]) :
    (w.cell? ⟨g, 0, none⟩ = some a0 ∧ w.cell? ⟨g, 1, none⟩ = some a1 ∧ w.cell? ⟨g, 2, none⟩ = some a2 ∧ w.cell? ⟨g, 3, none⟩ = some a3 ∧ w.cell? ⟨g, 4, none⟩ = some a4 ∧ w.cell? ⟨g, 5, none⟩ = some a5) ∧
    (w.frozen? ⟨g, 0, none⟩ = false ∧ w.frozen? ⟨g, 1, none⟩ = false ∧ w.frozen? ⟨g, 2, none⟩ = false ∧ w.frozen? ⟨g, 3, none⟩ = false ∧ w.frozen? ⟨g, 4, none⟩ = false ∧ w.frozen? ⟨g, 5, none⟩ = false) :=
  ⟨⟨h.cell 0, h.cell 1, h.cell 2, h.cell 3, h.cell 4, h.cell 5⟩, h.frozen 0, h.frozen 1, h.frozen 2, h.frozen 3, h.frozen 4, h.frozen 5⟩
theorem below6 {w w' : World} {B g : Nat} (h : Below B w w') (hg : B ≤ g) (a0 a1 a2 a3 a4 a5 : Value) :
    Below B w ((((((w'.setCell ⟨g, 0, none⟩ a0).setCell ⟨g, 1, none⟩ a1).setCell ⟨g, 2, none⟩ a2).setCell ⟨g, 3, none⟩ a3).setCell ⟨g, 4, none⟩ a4).setCell ⟨g, 5, none⟩ a5) :=
  below_far (below_far (below_far (below_far (below_far (below_far h hg _ _) hg _ _) hg _ _) hg _ _) hg _ _) hg _ _
/-- The value of a key. -/
def keyV (el : List Int) : Value := .agg ((kv el).map vi).toArray
def z6 : Array Value := #[.int .i64 0, .int .i64 0, .int .i64 0, .int .i64 0, .int .i64 0, .int .i64 0]
theorem keyV_eq (el : List Int) : keyV el = .agg #[.int .i64 (el.getD 0 0), .int .i64 (el.getD 1 0), .int .i64 (el.getD 2 0), .int .i64 (el.getD 3 0), .int .i64 (el.getD 4 0), .int .i64 (el.getD 5 0)] := rfl
theorem keyOf_any (A : Option Addr) (c : Nat) (el : List Int) (w : World) (hA : Ints w A el) (hl : el.length ≤ 6) :
    Calls Tryz.prog 60 #[.slice A el.length c] w fun e w' => e = .returned (keyV el) ∧ Below w.heap.size w w' := by
  have HK := Lib.hid (keyV_eq el)
  generalize keyV el = kk at *
  obtain ⟨W, hW⟩ : ∃ W, (w.alloc (.cells z6 97)).alloc (.cells z6 97) = W := ⟨_, rfl⟩
  have B2 : Blk W w.heap.size 97 z6 := by rw [← hW]; exact (Blk.new _ _ _).alloc _
  have B3 : Blk W (w.heap.size + 1) 97 z6 := by rw [← hW]; have := Blk.new (w.alloc (.cells z6 97)) 97 z6; simpa using this
  have hbW : Below w.heap.size w W := by rw [← hW]; exact ((Below.refl _ _).alloc (Nat.le_refl _) _).alloc (by simp) _
  have hAW := Sl.keep hA hbW
  have HWW := Lib.hid hW
  clear hW hA
  go_enter Tryz.func60, Tryz.ntmps60
  go_upto_region 2 with (fail)
  have hh := HWW.out
  unfold z6 at hh
  rw [hh]
  clear hh
  go_wp2_with (first
    | (refine wpList_copy6 rfl _ _ rfl (w.heap.size + 1) 97 A c el [] rfl rfl hAW hl B3 ?_
       intro W' E3 hbut
       have E2 := hbut.blk _ _ _ (by omega) B2
       have hb' := hbut.below _ _ hbW (by omega)
       obtain ⟨⟨a0, a1, a2, a3, a4, a5⟩, f0, f1, f2, f3, f4, f5⟩ := six E2
       obtain ⟨⟨j0, j1, j2, j3, j4, j5⟩, k0, k1, k2, k3, k4, k5⟩ := six E3
       have hz := E2.lt
       clear B2 B3 E2 E3 hbut hAW
       generalize el.getD 0 0 = v0 at *
       generalize el.getD 1 0 = v1 at *
       generalize el.getD 2 0 = v2 at *
       generalize el.getD 3 0 = v3 at *
       generalize el.getD 4 0 = v4 at *
       generalize el.getD 5 0 = v5 at *))
  refine bodyPost_ret (v := .agg #[.int .i64 v0, .int .i64 v1, .int .i64 v2, .int .i64 v3, .int .i64 v4, .int .i64 v5]) (by simp [results, Tryz.results60, go_sem, a0, a1, a2, a3, a4, a5]) rfl ⟨by rw [HK.out], ?_⟩
  exact below6 hb' (by omega) _ _ _ _ _ _
theorem laidOut : laidOutB Tryz.prog = true := by kernel_rfl
theorem keyLaw : Keyed Tryz.prog 97 :=
  Keyed.of_law (deep_law_laid laidOut (m := 6) (by decide) (of_decide_eq_true (by kernel_rfl)) (by kernel_rfl) (by kernel_rfl))
theorem key_read {n : Nat} {el : List Int} (h : domK n 48 el) : keyOf Tryz.prog 97 (keyV el) = some (kl6 (kv el)) :=
  keyOf_six (I := 3) (s := Tryz.prog.types.size - 1) Tryz.underlying97 Tryz.underlying3 (by kernel_rfl) (by kernel_rfl) (by kernel_rfl) (by kernel_rfl) (kv el) (kv_len el) (kv_dom h)
theorem zeroB (w : World) : (zeroValue 4).run Tryz.prog w = .ok (.bool false) w := by kernel_rfl
/-- Block mb is a map that holds true at just the elements of S, among lists of n small numbers, and nothing else. -/
def SetM (w : World) (mb cnt n : Nat) (S : List (List Int)) : Prop :=
  ∃ D : DataW Unit, w.ownsMap Tryz.prog 97 (plainElem Tryz.prog 4) mb cnt D ∧ SetN (fun v => kl6 (kv v)) (domK n 48) S D
theorem SetM.mapB {w : World} {mb cnt n : Nat} {S : List (List Int)} (h : SetM w mb cnt n S) : MapB w mb := by
  obtain ⟨D, h, _⟩ := h
  exact mapB_own h
theorem SetM.made (w : World) (n : Nat) : SetM (w.alloc (.map #[] 0)) w.heap.size 0 n [] := ⟨_, World.ownsMap_made _ _ _ _, SetN.nil _ _⟩
theorem SetM.below {w w' : World} {B mb cnt n : Nat} {S : List (List Int)} (h : SetM w mb cnt n S) (hb : Below B w w') (hB : mb < B) : SetM w' mb cnt n S := by
  obtain ⟨D, ⟨es, clock, hh, r⟩, h2⟩ := h
  exact ⟨D, ⟨es, clock, (hb.block mb hB).trans hh, r⟩, h2⟩
theorem SetM.lt {w : World} {mb cnt n : Nat} {S : List (List Int)} (h : SetM w mb cnt n S) : mb < w.heap.size := by
  obtain ⟨es, clock, hh⟩ := h.mapB
  exact (Array.getElem?_eq_some_iff.1 hh).1
theorem SetM.grown {w w' : World} {mb cnt n : Nat} {S : List (List Int)} {r : Option Nat} (h : SetM w mb cnt n S) (hg : w.grownBy w' r) (hr : some mb ≠ r) : SetM w' mb cnt n S := by
  have hlt := h.lt
  obtain ⟨D, ⟨es, clock, hh, r⟩, h2⟩ := h
  exact ⟨D, ⟨es, clock, (hg.block mb hlt hr).trans hh, r⟩, h2⟩
theorem SetM.drew {w : World} {mb cnt n : Nat} {S : List (List Int)} (h : SetM w mb cnt n S) : SetM w.drew mb cnt n S := h
theorem SetM.mono {w : World} {mb cnt cnt' n : Nat} {S : List (List Int)} (h : SetM w mb cnt n S) (hc : cnt ≤ cnt') : SetM w mb cnt' n S := by
  obtain ⟨D, h1, h2⟩ := h
  exact ⟨D, h1.mono hc, h2⟩
theorem SetM.look {w : World} {mb cnt n : Nat} {S : List (List Int)} (h : SetM w mb cnt n S) {v : List Int} (hv : domK n 48 v) {c : Bool} (hc : decide (v ∈ S) = c) :
    (Instr.lookup 64 (.map (some mb)) (keyV v) false).run Tryz.prog w = .ok (.bool c) w := by
  obtain ⟨D, h1, h2⟩ := h
  obtain ⟨v', ps, hrun, hv2⟩ := h1.lookup keyLaw Tryz.underlying64 (zeroB w) (plainElem_bool Tryz.underlying4 false) (key_read hv)
  obtain ⟨c', rfl, e⟩ := plainElem_bool_inv Tryz.underlying4 hv2
  rw [h2.at' v hv, (decide_eq_decide.2 Iff.rfl).trans hc] at e
  injection e with e _
  injection e with e
  injection e with e
  subst e
  exact hrun
theorem SetM.put {w : World} {mb cnt n : Nat} {S : List (List Int)} (h : SetM w mb cnt n S) (hn : n ≤ 6) (hcnt : cnt ≤ 1000000000) {v : List Int} (hv : domK n 48 v) (hnew : v ∉ S) :
    ∃ w', (Instr.mapUpdate 64 (.map (some mb)) (keyV v) (.bool true)).run Tryz.prog w = .ok () w' ∧ SetM w' mb (cnt + 1) n (v :: S) ∧ w.grownBy w' (some mb) := by
  obtain ⟨D, h1, h2⟩ := h
  obtain ⟨w', hrun, h3, h4⟩ := h1.update keyLaw Tryz.underlying64 (by simp only [maxLen]; omega) (key_read hv) (plainElem_bool Tryz.underlying4 true)
  exact ⟨w', hrun, ⟨_, h3, h2.put (fun _ _ => kl6_key _) (fun _ _ hu hv => klv_inj hn hu hv) hv hnew⟩, h4⟩
theorem SetM.len {w : World} {mb cnt n : Nat} {S : List (List Int)} (h : SetM w mb cnt n S) (ty : TypeId) : (Builtin.len_ #[64] ty #[.map (some mb)]).run Tryz.prog w = .ok (.int .i64 S.length) w := by
  obtain ⟨D, h1, h2⟩ := h
  rw [h1.len Tryz.underlying64 ty, h2.size]
theorem bturn {w w1 w2 : World} {B mb : Nat} (h : Below B w w1) (hm : MapB w1 mb) (hg : w1.grownBy w2 (some mb)) (hB : B ≤ mb) : Below B w w2 :=
  h.grown hg (by have := hm.lt; omega) (fun q hq => by injection hq with hq; omega)
theorem perm_dom {n : Nat} (hn : n ≤ 6) {a : List Int} (h : Perm n a) : domK n 48 a := ⟨h.1, fun x hx => by have := h.2.1 x hx; omega⟩
end Go.Proofs.Tg.Bk
end
section
/- A map from keys to numbers as a list of keys: at each key its place. -/
namespace Go.Proofs.Tg
open Go.RowKit Go.Maps Go.WideShapes
/-- The map holds at each element of the list its place, and has no other key. -/
structure IdxN {α : Type} [DecidableEq α] (kl : α → Lit) (dom : α → Prop) (S : List α) (D : DataW Unit) : Prop where
  tidy : Maps.Tidy D
  at' : ∀ i (h : i < S.length), dom S[i] → D.atKey (kl S[i]) (.lit (.int .i64 0)) = .lit (.int .i64 (i : Nat))
  has : ∀ v, dom v → Maps.has D (kl v) = decide (v ∈ S)
theorem IdxN.nil {α : Type} [DecidableEq α] (kl : α → Lit) (dom : α → Prop) : IdxN kl dom [] (.map []) := ⟨Maps.tidy_empty, fun i h => absurd h (by simp), fun v _ => by simp [Maps.has]⟩
theorem IdxN.put {α : Type} [DecidableEq α] {kl : α → Lit} {dom : α → Prop} {S : List α} {D : DataW Unit} (h : IdxN kl dom S D) (hk : ∀ v, dom v → WideAt.IsKeyLit (kl v)) (hi : ∀ u v, dom u → dom v → kl u = kl v → u = v) {x : α} (hx : dom x) (hn : x ∉ S) :
    IdxN kl dom (S ++ [x]) (D.put (kl x) (.lit (.int .i64 (S.length : Nat)))) := by
  refine ⟨h.tidy.put (hk x hx) _, fun i hl hv => ?_, fun v hv => ?_⟩
  · by_cases hil : i < S.length
    · have e : (S ++ [x])[i] = S[i] := List.getElem_append_left hil
      rw [e] at hv ⊢
      rw [Maps.atKey_put_other (fun e2 => hn (by rw [← hi _ x hv hx e2]; exact List.getElem_mem _)), h.at' i hil hv]
    · have e0 : i = S.length := by simp at hl; omega
      subst e0
      have e : (S ++ [x])[S.length] = x := by simp
      rw [e] at hv ⊢
      rw [Maps.atKey_put_same h.tidy.isMap (hk x hv)]
  · by_cases he : v = x
    · subst he
      rw [Maps.has_put_same h.tidy.isMap (hk v hv)]
      simp
    · rw [Maps.has_put_other (fun e => he (hi v x hv hx e)), h.has v hv]
      simp [he]
end Go.Proofs.Tg
end
section
/- How permutations move monomials, and what they do to the places of a basis. Plain. -/
namespace Go.Pm
open Go.Sp
/-- The first k entries put to their places. -/
def mvF (L : Nat) (a m : List Int) (k : Nat) : List Int := (List.range k).foldl (fun r v => r.set (a.getD v 0).toNat (m.getD v 0)) (List.replicate L 0)
theorem mvF_zero (L : Nat) (a m : List Int) : mvF L a m 0 = List.replicate L 0 := rfl
theorem mvF_succ (L : Nat) (a m : List Int) (k : Nat) : mvF L a m (k + 1) = (mvF L a m k).set (a.getD k 0).toNat (m.getD k 0) := by simp [mvF, List.range_succ]
theorem mvF_len (L : Nat) (a m : List Int) : ∀ k, (mvF L a m k).length = L
  | 0 => by simp [mvF]
  | k + 1 => by rw [mvF_succ, List.length_set, mvF_len L a m k]
theorem kv_getD (m : List Int) {i : Nat} (h : i < 6) : (kv m).getD i 0 = m.getD i 0 := by simp [kv, h]
theorem kv_set {l : List Int} {i : Nat} (hi : i < l.length) (hl : l.length ≤ 6) (x : Int) : kv (l.set i x) = (kv l).set i x := by
  refine ext_get (by rw [List.length_set, kv_len, kv_len]) fun j hj => ?_
  rw [kv_len] at hj
  rw [kv_getD _ hj]
  simp only [List.getD_eq_getElem?_getD, List.getElem?_set]
  by_cases h : i = j
  · subst h
    rw [if_pos rfl, if_pos rfl, if_pos hi, if_pos (by rw [kv_len]; exact hj)]
  · rw [if_neg h, if_neg h]
    have := kv_getD l hj
    simpa only [List.getD_eq_getElem?_getD] using this.symm
theorem kv_zero {n : Nat} (hn : n ≤ 6) : kv (List.replicate n 0) = List.replicate 6 0 := by
  refine ext_get (by rw [kv_len, List.length_replicate]) fun j hj => ?_
  rw [kv_len] at hj
  have e : ∀ m j : Nat, (List.replicate m (0 : Int)).getD j 0 = 0 := fun m j => by
    rw [List.getD_eq_getElem?_getD, List.getElem?_replicate]
    split <;> rfl
  rw [kv_getD _ hj, e, e]
/-- The key of a monomial that has been moved. -/
theorem kv_mvF {n : Nat} (hn : n ≤ 6) {a m : List Int} (ha : Perm n a) : ∀ k, k ≤ n → kv (mvF n a m k) = mvF 6 a m k
  | 0, _ => by rw [mvF_zero, mvF_zero, kv_zero hn]
  | k + 1, hk => by
    have h1 := perm_get ha (show k < n by omega)
    rw [mvF_succ, mvF_succ, kv_set (by rw [mvF_len]; omega) (by rw [mvF_len]; exact hn), kv_mvF hn ha k (by omega)]
def mv (n : Nat) (a m : List Int) : List Int := mvF n a m n
theorem mvF_dom {n : Nat} {c : Int} (hc : 0 ≤ c) {a m : List Int} (hm : domK n c m) : ∀ k, domK n c (mvF n a m k)
  | 0 => ⟨mvF_len _ _ _ _, fun x hx => by rw [mvF_zero] at hx; rw [List.eq_of_mem_replicate hx]; omega⟩
  | k + 1 => by
    have ih := mvF_dom (a := a) hc hm k
    refine ⟨mvF_len _ _ _ _, fun x hx => ?_⟩
    rw [mvF_succ] at hx
    rcases List.mem_or_eq_of_mem_set hx with h | h
    · exact ih.2 x h
    · rw [h]
      by_cases hk : k < m.length
      · rw [show m.getD k 0 = m[k] by simp [hk]]
        exact hm.2 _ (List.getElem_mem _)
      · rw [show m.getD k 0 = 0 by simp [hk]]; omega
/-- Where the basis' elements go. -/
def img (n : Nat) (a : List Int) (basis : List (List Int)) : List Int := basis.map fun m => ((basis.idxOf (mv n a m) : Nat) : Int)
def ActsOn (n : Nat) (a : List Int) (basis : List (List Int)) : Prop := ∀ m ∈ basis, mv n a m ∈ basis
instance (n : Nat) (a : List Int) (basis : List (List Int)) : Decidable (ActsOn n a basis) := inferInstanceAs (Decidable (∀ _ ∈ _, _))
end Go.Pm
end
section
/- The package blocks: the map from the monomials of a basis to their places. -/
namespace Go.Proofs.Tg.Bk
open Go.RowKit Go.Gr Go.Sp Go.Ev Go.Maps Go.WideShapes Go.Pm
set_option maxHeartbeats 4000000
set_option maxRecDepth 100000
/-- Block mb is a map that holds at each element of S its place, among lists of n small numbers. -/
def IdxM (w : World) (mb cnt n : Nat) (S : List (List Int)) : Prop :=
  ∃ D : DataW Unit, w.ownsMap Tryz.prog 97 (plainElem Tryz.prog 3) mb cnt D ∧ IdxN (fun v => kl6 (kv v)) (domK n 48) S D
theorem IdxM.mapB {w : World} {mb cnt n : Nat} {S : List (List Int)} (h : IdxM w mb cnt n S) : MapB w mb := by
  obtain ⟨D, h, _⟩ := h
  exact mapB_own h
theorem IdxM.made (w : World) (n : Nat) : IdxM (w.alloc (.map #[] 0)) w.heap.size 0 n [] := ⟨_, World.ownsMap_made _ _ _ _, IdxN.nil _ _⟩
theorem IdxM.below {w w' : World} {B mb cnt n : Nat} {S : List (List Int)} (h : IdxM w mb cnt n S) (hb : Below B w w') (hB : mb < B) : IdxM w' mb cnt n S := by
  obtain ⟨D, ⟨es, clock, hh, r⟩, h2⟩ := h
  exact ⟨D, ⟨es, clock, (hb.block mb hB).trans hh, r⟩, h2⟩
theorem IdxM.lt {w : World} {mb cnt n : Nat} {S : List (List Int)} (h : IdxM w mb cnt n S) : mb < w.heap.size := by
  obtain ⟨es, clock, hh⟩ := h.mapB
  exact (Array.getElem?_eq_some_iff.1 hh).1
theorem IdxM.grown {w w' : World} {mb cnt n : Nat} {S : List (List Int)} {r : Option Nat} (h : IdxM w mb cnt n S) (hg : w.grownBy w' r) (hr : some mb ≠ r) : IdxM w' mb cnt n S := by
  have hlt := h.lt
  obtain ⟨D, ⟨es, clock, hh, r⟩, h2⟩ := h
  exact ⟨D, ⟨es, clock, (hg.block mb hlt hr).trans hh, r⟩, h2⟩
theorem IdxM.drew {w : World} {mb cnt n : Nat} {S : List (List Int)} (h : IdxM w mb cnt n S) : IdxM w.drew mb cnt n S := h
theorem zeroI (w : World) : (zeroValue 3).run Tryz.prog w = .ok (.int .i64 0) w := by kernel_rfl
theorem idxL_at {l : List (List Int)} (hn : l.Nodup) {i : Nat} (h : i < l.length) : l.idxOf l[i] = i := by
  induction l generalizing i with
  | nil => simp at h
  | cons a l ih =>
    have hn' := List.nodup_cons.1 hn
    cases i with
    | zero => simp
    | succ i =>
      have hi : i < l.length := by simpa using h
      have hne : a ≠ l[i] := fun e => hn'.1 (by rw [e]; exact List.getElem_mem _)
      have hb : (a == l[i]) = false := beq_eq_false_iff_ne.2 hne
      rw [List.getElem_cons_succ, List.idxOf_cons, hb, ih hn'.2 hi]
      try rfl
theorem IdxM.look {w : World} {mb cnt n : Nat} {S : List (List Int)} (h : IdxM w mb cnt n S) {v : List Int} (hv : domK n 48 v) {c : Bool} (hc : decide (v ∈ S) = c) :
    ∃ z : Int, (Instr.lookup 59 (.map (some mb)) (keyV v) true).run Tryz.prog w = .ok (.tuple #[.int .i64 z, .bool c]) w ∧ (c = true → S.Nodup → z = (S.idxOf v : Nat)) := by
  obtain ⟨D, h1, h2⟩ := h
  obtain ⟨v', ps, hrun, hv2⟩ := h1.look_ok keyLaw Tryz.underlying59 (zeroI w) (plainElem_int Tryz.underlying3 (a := 0) (by decide)) (key_read hv)
  obtain ⟨z, rfl, e, _⟩ := plainElem_int_inv Tryz.underlying3 hv2
  have e2 := (h2.has v hv).trans ((decide_eq_decide.2 Iff.rfl).trans hc)
  rw [e2] at hrun
  refine ⟨z, hrun, fun ht hn => ?_⟩
  subst ht
  obtain ⟨i, hi, rfl⟩ := List.getElem_of_mem (of_decide_eq_true hc)
  have hz := h2.at' i hi hv
  rw [hz] at e
  injection e with e _
  injection e with e
  injection e with _ e
  rw [idxL_at hn hi]
  exact e.symm
theorem IdxM.put {w : World} {mb cnt n : Nat} {S : List (List Int)} (h : IdxM w mb cnt n S) (hn : n ≤ 6) (hcnt : cnt ≤ 1000000000) {v : List Int} (hv : domK n 48 v) (hnew : v ∉ S) (hS : S.length ≤ 1000000) :
    ∃ w', (Instr.mapUpdate 59 (.map (some mb)) (keyV v) (.int .i64 (S.length : Nat))).run Tryz.prog w = .ok () w' ∧ IdxM w' mb (cnt + 1) n (S ++ [v]) ∧ w.grownBy w' (some mb) := by
  obtain ⟨D, h1, h2⟩ := h
  obtain ⟨w', hrun, h3, h4⟩ := h1.update keyLaw Tryz.underlying59 (by simp only [maxLen]; omega) (key_read hv) (plainElem_int Tryz.underlying3 (a := (S.length : Nat)) (wf_small ⟨by omega, by omega⟩))
  exact ⟨w', hrun, ⟨_, h3, h2.put (fun _ _ => kl6_key _) (fun _ _ hu hv => klv_inj hn hu hv) hv hnew⟩, h4⟩
/-- What positions holds. -/
structure PoSt (w : World) (n : Nat) (l : List (List Int)) (wr : World) (mb k : Nat) : Prop where
  below : Below w.heap.size w wr
  map : IdxM wr mb k n (l.take k)
  nodup : (l.take k).Nodup
  low : w.heap.size ≤ mb
def RetPos (n : Nat) (l : List (List Int)) (q : Bool) (w : World) (e : Ending) (w' : World) : Prop := Below w.heap.size w w' ∧
  ((q = false ∧ e = .returned (.tuple #[.map none, .bool false])) ∨ (q = true ∧ ∃ mb, e = .returned (.tuple #[.map (some mb), .bool true]) ∧ IdxM w' mb l.length n l ∧ w.heap.size ≤ mb))
theorem positions_any (L : Option Addr) (cL n : Nat) (l : List (List Int)) (q : Bool) (w : World) (hL : Lists w L l) (hd : ∀ m ∈ l, domK n 48 m) (hn : n ≤ 6) (hl : l.length ≤ 1000) (hq : q = true ↔ l.Nodup) :
    Calls Tryz.prog 31 #[.slice L l.length cL] w (RetPos n l q w) := by
  have HL := Lib.hid hL
  have HD := Lib.hid hd
  have HQ := Lib.hid hq
  clear hL hd hq
  have hmm := @run_makeMap Tryz.prog
  go_enter Tryz.func31, Tryz.ntmps31
  go_wp2

  have M0 := IdxM.made w n
  have hb0 := (Below.refl w.heap.size w).alloc (Nat.le_refl _) (.map #[] 0)
  generalize w.alloc (.map #[] 0) = W at *
  clear hmm
  go_loopw [12] (fun s12 wr => ∃ k : Nat, s12 = .int .i64 k ∧ k ≤ l.length ∧ Hid (PoSt w n l wr w.heap.size k)) (fun s12 _ => l.length - (intOf s12).toNat)
  case atStart => exact ⟨0, rfl, Nat.zero_le _, Lib.hid ⟨hb0, by simpa using M0, by simp, Nat.le_refl _⟩⟩
  case round =>
    clear M0 hb0
    obtain ⟨wo, rfl⟩ : ∃ wo : World, wo = wr := ⟨_, rfl⟩
    obtain ⟨k, rfl, hk, HST⟩ := hrel
    have hbo := HST.out.below
    by_cases hkl : k < l.length
    · obtain ⟨ad, E, ce, rfl, hc, hE⟩ := HL.out.at hkl
      have hc := keep_cell hbo hc
      have q0 : (0 : Int) ≤ (k : Int) := by omega
      have q1 : (k : Int) < (l.length : Int) := by omega
      have q3 : ((k : Int)).toNat = k := by omega
      have hdk := HD.out l[k] (List.getElem_mem _)
      have hlen := hdk.1
      have HKY : Hid (∀ V, Below wo.heap.size wo V → Calls Tryz.prog 60 #[.slice E n ce] V fun e w' => e = .returned (keyV l[k]) ∧ Below V.heap.size V w') := Lib.hid (fun V h => by
        have := keyOf_any E ce l[k] V (hE.keep (below_all hbo h)) (by omega)
        rwa [hlen] at this)
      rw [hlen] at hc
      have hmap := HST.out.map
      have hlt := hmap.lt
      have HKL : Hid ((l.take k).length = k) := Lib.hid (by rw [List.length_take]; omega)
      by_cases hin : l[k] ∈ l.take k
      · obtain rfl : q = false := eq_false_of_ne_true (fun h => by
          have h1 := List.Nodup.sublist (List.take_sublist (k + 1) l) (HQ.out.1 h)
          rw [List.take_succ_eq_append_getElem hkl] at h1
          exact (List.nodup_append.1 h1).2.2 _ hin _ (by simp) rfl)
        have hdec : decide (l[k] ∈ l.take k) = true := decide_eq_true hin
        clear hin hE hlen
        generalize l[k] = x at *
        generalize l.take k = S at *
        go_wp2_with (go_at_call 60; refine (HKY.out _ (Below.refl _ _)).mono ?_; rintro e w4 ⟨rfl, hb4⟩
                     obtain ⟨z, hlook, _⟩ := (hmap.below hb4 hlt).look hdk hdec)
        go_ret2
        exact ⟨below_all hbo hb4, .inl ⟨rfl, rfl⟩⟩
      · have hdec : decide (l[k] ∈ l.take k) = false := decide_eq_false hin
        have HIN := Lib.hid hin
        have HTS : Hid (l.take (k + 1) = l.take k ++ [l[k]]) := Lib.hid (List.take_succ_eq_append_getElem hkl)
        have HND : Hid ((l.take (k + 1)).Nodup) := Lib.hid (by
          rw [HTS.out]
          refine List.nodup_append.2 ⟨HST.out.nodup, by simp, fun a ha b hb => ?_⟩
          rw [List.mem_singleton.1 hb]
          rintro rfl
          exact hin ha)
        clear hin hE hlen
        generalize l[k] = x at *
        have hlow := HST.out.low
        go_upto_region 6 with (first
          | (go_at_call 60; refine (HKY.out _ (Below.refl _ _)).mono ?_; rintro e w4 ⟨rfl, hb4⟩
             obtain ⟨z, hlook, _⟩ := (hmap.below hb4 hlt).look hdk hdec))
        clear hlook
        have hmap4 := hmap.below hb4 hlt
        have hlt4 := hmap4.lt
        go_wp2_with (go_at_call 60; refine (HKY.out _ hb4).mono ?_; rintro e w5 ⟨rfl, hb5⟩
                     have hmap5 := hmap4.below hb5 hlt4
                     obtain ⟨w6, hrun, hM6, hg6⟩ := hmap5.put hn (by omega) hdk HIN.out (by rw [HKL.out]; omega)
                     rw [HKL.out] at hrun)
        go_roundw
        case rel =>
          refine ⟨k + 1, by go_num, by omega, Lib.hid ⟨?_, by rw [HTS.out]; exact hM6, HND.out, hlow⟩⟩
          exact bturn (below_all (below_all hbo hb4) hb5) hmap5.mapB hg6 hlow
        case measure => simp [intOf]; omega
    · obtain rfl : k = l.length := by omega
      have hm := HST.out.map
      have hnd := HST.out.nodup
      rw [List.take_length] at hm hnd
      obtain rfl : q = true := HQ.out.2 hnd
      have HM := Lib.hid hm
      have hlow := HST.out.low
      have dk : decide ((l.length : Int) < (l.length : Int)) = false := by simp
      clear hm hnd
      go_wp2
      go_ret2
      exact ⟨hbo, .inr ⟨rfl, _, rfl, HM.out, hlow⟩⟩
end Go.Proofs.Tg.Bk
end
