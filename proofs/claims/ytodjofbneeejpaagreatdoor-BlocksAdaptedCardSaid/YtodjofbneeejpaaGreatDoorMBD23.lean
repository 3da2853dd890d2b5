/- Parts of the proof: RF1, RB1, CH1, OR1, CH2, CH4, BN1, BN9. -/
import Derived.Test.YtodjofbneeejpaaGreatDoorMBD0
import Derived.Test.YtodjofbneeejpaaGreatDoorMBD1
import Derived.Test.YtodjofbneeejpaaGreatDoorMBD2
import Derived.Test.YtodjofbneeejpaaGreatDoorMBD6
import Derived.Test.YtodjofbneeejpaaGreatDoorMBD7
import Derived.Test.YtodjofbneeejpaaGreatDoorMBD9
import Derived.Test.YtodjofbneeejpaaGreatDoorMBD10
import Derived.Test.YtodjofbneeejpaaGreatDoorMBD11
import Derived.Test.YtodjofbneeejpaaGreatDoorMBD15
import Derived.Test.YtodjofbneeejpaaGreatDoorMBD17
section
/- The reference 19: monomials, Moved, image. -/
namespace Go.Proofs.Tg.Rf
open Go.RowKit Go.Gr Go.Sp Go.Ev Go.Pm Go.Mo
open Go.Proofs.Tg.Gp (findI find_any)
open Go.Proofs.Tg.Bk (img_len img_at)
set_option maxHeartbeats 4000000
set_option maxRecDepth 100000
theorem rmons_any (L : Option Addr) (cL : Nat) (l : List (List Int)) (q : Bool) (w : World) (hL : Lists w L l) (hl : l.length ≤ 1000000) (hll : ∀ x ∈ l, x.length ≤ 1000) (hq : q = true ↔ ∀ x ∈ l, vldM x = true) :
    Calls Tryz.prog 37 #[.slice L l.length cL] w fun e w' => e = .returned (.bool q) ∧ w = w' := by
  have HL := Lib.hid hL
  have HQ := Lib.hid hq
  have HLL := Lib.hid hll
  clear hL hq hll
  go_enter Tryz.func37, Tryz.ntmps37
  go_wp2
  go_loopw [3] (fun s3 wr => ∃ k : Nat, s3 = .int .i64 k ∧ k ≤ l.length ∧ Hid (∀ j (h : j < l.length), j < k → vldM l[j] = true) ∧ w = wr) (fun s3 _ => l.length - (intOf s3).toNat)
  case atStart => exact ⟨0, rfl, Nat.zero_le _, Lib.hid (fun j _ h => absurd h (by omega)), rfl⟩
  case round =>
   obtain ⟨k, rfl, hk, HN, rfl⟩ := hrel
   by_cases hkl : k < l.length
   ·obtain ⟨ad, E, ce, rfl, hc, hE⟩ := HL.out.at hkl
    have q0 : (0 : Int) ≤ (k : Int) := by omega
    have q1 : (k : Int) < (l.length : Int) := by omega
    have q3 : ((k : Int)).toNat = k := by omega
    obtain ⟨b, hb⟩ : ∃ b, vldM l[k] = b := ⟨_, rfl⟩
    have HV := Lib.hid (rvalid_any E ce l[k] w hE (HLL.out _ (List.getElem_mem _)))
    rw [hb] at HV
    have HB := Lib.hid hb
    clear hE hb
    cases b with
    | true =>
      have HN2 : Hid (∀ j (h : j < l.length), j < k + 1 → vldM l[j] = true) := Lib.hid (fun j h hj => by
       by_cases he : j = k
       ·subst he; exact HB.out
       ·exact HN.out j h (by omega))
      clear HB
      generalize l[k] = x at *
      go_wp2_with (go_at_call 67; refine HV.out.mono ?_; rintro e w2 ⟨rfl, rfl⟩)
      go_roundw
      case rel => exact ⟨k + 1, by go_num, by omega, HN2, trivial⟩
      case measure => simp [intOf]; omega
    | false =>
      obtain rfl : q = false := eq_false_of_ne_true (fun h => by
       have := HQ.out.1 h _ (List.getElem_mem hkl)
       rw [HB.out] at this
       cases this)
      clear HB
      generalize l[k] = x at *
      go_wp2_with (go_at_call 67; refine HV.out.mono ?_; rintro e w2 ⟨rfl, rfl⟩)
      go_ret
      exact ⟨rfl, rfl⟩
   ·obtain rfl : k = l.length := by omega
    obtain rfl : q = true := HQ.out.2 (fun x hx => by
     obtain ⟨j, hj, rfl⟩ := List.getElem_of_mem hx
     exact HN.out j hj hj)
    have dk : decide ((l.length : Int) < (l.length : Int)) = false := by simp
    go_wp2
    go_ret
    exact ⟨rfl, rfl⟩
theorem moved_any (A E : Option Addr) (cA cE n : Nat) (a m : List Int) (w : World) (hA : Ints w A a) (ha : Perm n a) (hE : Ints w E m) (hm : m.length = n) (hn : n ≤ 6) :
    Calls Tryz.prog 100 #[.slice A n cA, .slice E n cE] w fun e w' => e = .returned (.slice (some ⟨w.heap.size, 0, none⟩) n n) ∧ Blk w' w.heap.size 3 (iarr (mv n a m)) ∧ Below w.heap.size w w' := by
  have HA := Lib.hid hA
  have HE := Lib.hid hE
  have HPA := Lib.hid ha
  have HLM := Lib.hid hm
  have hmk := make_ints n n (Nat.le_refl _) (by omega) w
  have hal := Below.alloc (Below.refl w.heap.size w) (Nat.le_refl _) (.cells (madeCells #[.int .i64 0] n) 3)
  rw [iarr_made n] at hmk hal
  have e0 : Blk (w.alloc (.cells (iarr (List.replicate n 0)) 3)) w.heap.size 3 (iarr (mvF n a m 0)) := by rw [mvF_zero]; exact Blk.new _ _ _
  generalize hW : w.alloc (.cells (iarr (List.replicate n 0)) 3) = W at *
  have HB0 := Lib.hid e0
  clear hA hE ha hm hW e0
  go_enter Tryz.func100, Tryz.ntmps100
  go_wp2
  clear hmk
  go_loopw [6] (fun s6 wr => ∃ j : Nat, s6 = .int .i64 j ∧ j ≤ n ∧ Hid (Blk wr w.heap.size 3 (iarr (mvF n a m j))) ∧ Below w.heap.size w wr) (fun s6 _ => n - (intOf s6).toNat)
  case atStart => exact ⟨0, rfl, Nat.zero_le _, HB0, hal⟩
  case round =>
   clear HB0 hal
   obtain ⟨wi, rfl⟩ : ∃ wi : World, wi = wr := ⟨_, rfl⟩
   obtain ⟨j, rfl, hj, HBI, hbi⟩ := hrel
   by_cases hjn : j < n
   ·have hja : j < a.length := by rw [HPA.out.1]; exact hjn
    have hjm : j < m.length := by rw [HLM.out]; exact hjn
    obtain ⟨aa, rfl, hca⟩ := Ints.at (HA.out.keep hbi) hja
    obtain ⟨ee, rfl, hce⟩ := Ints.at (HE.out.keep hbi) hjm
    obtain ⟨x, hx⟩ : ∃ x : Nat, a[j] = (x : Int) := ⟨(a[j]).toNat, by have := HPA.out.2.1 a[j] (List.getElem_mem _); omega⟩
    have hxn : x < n := by have := HPA.out.2.1 a[j] (List.getElem_mem _); omega
    have HST : Hid ((mvF n a m j).set x m[j] = mvF n a m (j + 1)) := Lib.hid (by
     rw [mvF_succ, show a.getD j 0 = (x : Int) by simp [hja, hx], show m.getD j 0 = m[j] by simp [hjm]]
     rfl)
    rw [hx] at hca
    have c0 := HBI.out.cell x
    have f0 := HBI.out.frozen x
    rw [iarr_at _ (by rw [mvF_len]; omega)] at c0
    generalize (mvF n a m j)[x]'(by rw [mvF_len]; omega) = old at c0
    generalize m[j] = y at *
    have r0 : (0 : Int) ≤ (j : Int) := by omega
    have r1 : (j : Int) < (n : Int) := by omega
    have r3 : ((j : Int)).toNat = j := by omega
    have x0 : (0 : Int) ≤ (x : Int) := by omega
    have x1 : (x : Int) < (n : Int) := by omega
    have x3 : ((x : Int)).toNat = x := by omega
    clear hx
    go_wp2
    go_region
    go_wp2
    go_roundw
    case rel =>
     refine ⟨j + 1, by go_num, by omega, Lib.hid ?_, (below_far hbi (Nat.le_refl _) _ _).drew⟩
     have := HBI.out.set x (.int .i64 y)
     rw [iarr_set, HST.out] at this
     exact this.drew
    case measure => simp [intOf]; omega
   ·obtain rfl : j = n := by omega
    have dj : decide ((j : Int) < (j : Int)) = false := by simp
    go_wp2
    go_ret
    exact ⟨rfl, HBI.out, hbi⟩
end Go.Proofs.Tg.Rf
end
section
/- The reference 19: ones. -/
namespace Go.Gr
theorem popc_half {x k : Nat} (h : x < 2 ^ (k + 1)) : popc (k + 1) x = x % 2 + popc (k + 1) (x / 2) := by
 have hz : ∀ k x, x < 2 ^ k → popc (k + 1) x = popc k x := by
  intro k
  induction k with
  | zero => intro x hx; have : x = 0 := by simpa using hx
            subst this; rfl
  | succ k ih =>
    intro x hx
    rw [popc, ih _ (by rw [Nat.pow_succ] at hx; omega)]
    rfl
 rw [hz k (x / 2) (by rw [Nat.pow_succ] at h; omega)]
 rfl
end Go.Gr
namespace Go.Proofs.Tg.Rf
open Go.RowKit Go.Gr Go.Sp Go.Ev Go.Pm Go.Mo
set_option maxHeartbeats 4000000
set_option maxRecDepth 100000
theorem rones_any (n : Nat) (w : World) (hn : n < 2 ^ 62) :
    Calls Tryz.prog 70 #[.int .i64 n] w fun e w' => e = .returned (.int .i64 (popc 64 n)) ∧ w = w' := by
  have h62 : (2 : Nat) ^ 62 = 4611686018427387904 := rfl
  rw [h62] at hn
  go_enter Tryz.func70, Tryz.ntmps70
  go_wp2
  go_loopw [0, 3] (fun s0 s3 wr => ∃ m k : Nat, s0 = .int .i64 m ∧ s3 = .int .i64 k ∧ m ≤ n ∧ k ≤ 64 ∧ k + popc 64 m = popc 64 n ∧ w = wr) (fun s0 _ _ => (intOf s0).toNat)
  case atStart => exact ⟨n, 0, rfl, rfl, Nat.le_refl _, by omega, by omega, rfl⟩
  case round =>
   obtain ⟨m, k, rfl, rfl, hm, hk, he, rfl⟩ := hrel
   by_cases h0 : 0 < m
   ·have d1 : decide ((0 : Int) < (m : Int)) = true := by simp; omega
    have hp : popc 64 m = m % 2 + popc 64 (m / 2) := popc_half (k := 63) (x := m) (by omega)
    have hle := popc_le 64 n
    have hb : bits BinOp.and IntKind.i64 (m : Int) 1 = ((m % 2 : Nat) : Int) := by
     rw [show (1 : Int) = ((1 : Nat) : Int) from rfl, i64_and_n m 1 (by omega) (by omega), Nat.and_one_is_mod]
    have hw : wrap64 ((k : Int) + ((m % 2 : Nat) : Int)) = ((k + m % 2 : Nat) : Int) := by unfold wrap64; omega
    have hk2 : k + m % 2 ≤ 64 := by omega
    have hp2 : k + m % 2 + popc 64 (m / 2) = popc 64 n := by omega
    have hm3 : m / 2 ≤ n ∧ m / 2 < m := by omega
    have HP2 := Lib.hid hp2
    clear hp hle he hp2
    go_wp2
    go_roundw
    case rel => exact ⟨m / 2, k + m % 2, by simp, by simp, hm3.1, hk2, HP2.out, trivial⟩
    case measure =>
     have := hm3.2
     simp only [intOf]
     omega
   ·obtain rfl : m = 0 := by omega
    have hk0 : k = popc 64 n := by
     have : popc 64 0 = 0 := by decide +kernel
     omega
    have HK := Lib.hid hk0
    clear he hk0
    go_wp2
    go_ret
    refine ⟨?_, rfl⟩
    rw [HK.out]
    rfl
end Go.Proofs.Tg.Rf
end
section
/- Subsets as numbers: exclusive or, signs of characters, products. Plain. -/
namespace Go.Pm
open Go.Gr
theorem popc_xor : ∀ k x y, popc k (x ^^^ y) % 2 = (popc k x + popc k y) % 2
  | 0, _, _ => rfl
  | k + 1, x, y => by
    have h := popc_xor k (x / 2) (y / 2)
    simp only [popc]
    have e1 : (x ^^^ y) / 2 = (x / 2) ^^^ (y / 2) := Nat.xor_div_two ..
    have e2 : (x ^^^ y) % 2 = (x % 2 + y % 2) % 2 := by
     have h2 := Nat.testBit_xor x y 0
     simp only [Nat.testBit_zero] at h2
     rcases Nat.mod_two_eq_zero_or_one x with hx | hx <;> rcases Nat.mod_two_eq_zero_or_one y with hy | hy <;> rcases Nat.mod_two_eq_zero_or_one (x ^^^ y) with hz | hz <;> simp [hx, hy, hz] at h2 ⊢
    rw [e1]
    omega
theorem sgn_xor (s t c : Nat) : sgn (s ^^^ t) c = sgn s c * sgn t c := by
 unfold sgn
 have h : (s ^^^ t) &&& c = (s &&& c) ^^^ (t &&& c) := Nat.and_xor_distrib_right ..
 rw [h, size_popc, size_popc, size_popc]
 have h2 := popc_xor 64 (s &&& c) (t &&& c)
 by_cases h3 : popc 64 (s &&& c) % 2 = 0
 ·by_cases h4 : popc 64 (t &&& c) % 2 = 0
  ·rw [if_pos (by omega), if_pos h3, if_pos h4]; rfl
  ·rw [if_neg (by omega), if_pos h3, if_neg h4]; rfl
 ·by_cases h4 : popc 64 (t &&& c) % 2 = 0
  ·rw [if_neg (by omega), if_neg h3, if_pos h4]; rfl
  ·rw [if_pos (by omega), if_neg h3, if_neg h4]; rfl
/-- The product of the subset s. -/
def pr (n : Nat) (l : List (List Int)) (s : Nat) : List Int := (prods n l).getD s []
theorem pr_low {n : Nat} {l : List (List Int)} {a : List Int} {s : Nat} (h : s < 2 ^ l.length) : pr n (l ++ [a]) s = pr n l s := by
 unfold pr
 rw [prods_snoc, List.getD_eq_getElem?_getD, List.getElem?_append_left (by rw [prods_len]; exact h), ← List.getD_eq_getElem?_getD]
theorem pr_high {n : Nat} {l : List (List Int)} {a : List Int} {s : Nat} (h : s < 2 ^ l.length) : pr n (l ++ [a]) (2 ^ l.length + s) = cmp a (pr n l s) := by
 unfold pr
 rw [prods_snoc, List.getD_eq_getElem?_getD, List.getElem?_append_right (by rw [prods_len]; omega), prods_len, Nat.add_sub_cancel_left, List.getElem?_map, List.getD_eq_getElem?_getD, List.getElem?_eq_getElem (by rw [prods_len]; exact h)]
 rfl
theorem pr_mem {n : Nat} {l : List (List Int)} {s : Nat} (h : s < 2 ^ l.length) : pr n l s ∈ prods n l := by
 have h2 : s < (prods n l).length := by rw [prods_len]; exact h
 unfold pr
 rw [List.getD_eq_getElem?_getD, List.getElem?_eq_getElem h2]
 exact List.getElem_mem h2
/-- How a number below twice a power of two is made of its top bit and the rest. -/
theorem xor_high {m s t : Nat} (hs : s < 2 ^ m) (ht : t < 2 ^ m) : (2 ^ m + s) ^^^ t = 2 ^ m + (s ^^^ t) ∧ (2 ^ m + s) ^^^ (2 ^ m + t) = s ^^^ t := by
 have e : ∀ x, x < 2 ^ m → 2 ^ m + x = 2 ^ m ^^^ x := fun x hx => by
  have h1 := Nat.two_pow_add_eq_or_of_lt hx 1
  rw [Nat.mul_one] at h1
  rw [h1]
  refine Nat.eq_of_testBit_eq fun i => ?_
  rw [Nat.testBit_or, Nat.testBit_xor, Nat.testBit_two_pow]
  by_cases hi : m = i
  ·subst hi
   rw [Nat.testBit_lt_two_pow hx]
   simp
  ·simp [hi]
 have hx : s ^^^ t < 2 ^ m := Nat.xor_lt_two_pow hs ht
 constructor
 ·rw [e s hs, e _ hx, Nat.xor_assoc]
 ·rw [e s hs, e t ht, Nat.xor_assoc, ← Nat.xor_assoc s, Nat.xor_comm s (2 ^ m), Nat.xor_assoc (2 ^ m) s t, ← Nat.xor_assoc, Nat.xor_self, Nat.zero_xor]
theorem pr_xor {n : Nat} {l : List (List Int)} (h : Sub n l) : ∀ s t, s < 2 ^ l.length → t < 2 ^ l.length → cmp (pr n l s) (pr n l t) = pr n l (s ^^^ t) := by
 induction l using snoc_ind with
 | h0 =>
   intro s t hs ht
   have hs0 : s = 0 := by simpa using hs
   have ht0 : t = 0 := by simpa using ht
   subst hs0 ht0
   show cmp (unit n) (unit n) = unit n
   exact unit_cmp (unit_perm n)
 | h1 l a ih =>
   intro s t hs ht
   have hi := h.init
   have ih := ih hi
   rw [List.length_append, List.length_singleton, Nat.pow_succ] at hs ht
   have hpa := h.perm a (by simp)
   have hia := h.inv a (by simp)
   have hca : ∀ p ∈ prods n l, cmp a p = cmp p a := prods_com hi.perm hpa (fun b hb => h.com a (by simp) b (List.mem_append_left _ hb))
   have hpp := prods_perm hi.perm
   generalize hm : 2 ^ l.length = m at *
   have key : ∀ x, x < m * 2 → ∃ y, y < m ∧ (x = y ∨ x = m + y) := fun x hx => by
    by_cases hxm : x < m
    ·exact ⟨x, hxm, .inl rfl⟩
    ·exact ⟨x - m, by omega, .inr (by omega)⟩
   obtain ⟨u, hu, hsu⟩ := key s hs
   obtain ⟨v, hv, htv⟩ := key t ht
   have hu' : u < 2 ^ l.length := by rw [hm]; exact hu
   have hv' : v < 2 ^ l.length := by rw [hm]; exact hv
   have hx : u ^^^ v < 2 ^ l.length := Nat.xor_lt_two_pow hu' hv'
   have hmu := pr_mem (n := n) hu'
   have hmv := pr_mem (n := n) hv'
   have pu := hpp _ hmu
   have pv := hpp _ hmv
   rcases hsu with rfl | rfl <;> rcases htv with rfl | rfl
   ·rw [pr_low hu', pr_low hv', pr_low hx, ih _ _ hu hv]
   ·have e := (xor_high hv' hu').1
    rw [Nat.xor_comm] at e
    rw [hm] at e
    rw [e, Nat.xor_comm v, ← hm, pr_low hu', pr_high hv', pr_high hx, ← ih _ _ hu hv, ← cmp_assoc hpa.1 pv, ← hca _ hmu, cmp_assoc pu.1 pv]
   ·have e := (xor_high hu' hv').1
    rw [hm] at e
    rw [e, ← hm, pr_high hu', pr_low hv', pr_high hx, ← ih _ _ hu hv, cmp_assoc pu.1 pv]
   ·have e := (xor_high hu' hv').2
    rw [hm] at e
    rw [e, ← hm, pr_high hu', pr_high hv', pr_low hx, ← ih _ _ hu hv]
    rw [cmp_assoc pu.1 (cmp_perm hpa pv), ← cmp_assoc hpa.1 pv, ← hca _ hmu, cmp_assoc pu.1 pv, ← cmp_assoc hpa.1 (cmp_perm pu pv), hia, unit_cmp (cmp_perm pu pv)]
end Go.Pm
end
section
/- A group acts on pairs of places: two orbits are the same or apart. Plain. -/
namespace Go.Pm
theorem perm_onto {n : Nat} {a : List Int} (h : Perm n a) {t : Nat} (ht : t < n) : ∃ j, j < n ∧ a.getD j 0 = (t : Int) := by
 have hm : (t : Int) ∈ a := by
  apply Classical.byContradiction
  intro hno
  have hnd : ((t : Int) :: a).Nodup := List.nodup_cons.2 ⟨hno, h.2.2⟩
  have hsub : ∀ x ∈ (t : Int) :: a, x ∈ unit n := fun x hx => by
   have hx2 : 0 ≤ x ∧ x < n := by
    rcases List.mem_cons.1 hx with rfl | hx
    ·omega
    ·exact h.2.1 x hx
   exact List.mem_map.2 ⟨x.toNat, List.mem_range.2 (by omega), by omega⟩
  have := hnd.length_le_of_subset hsub
  rw [List.length_cons, h.1, unit_len] at this
  omega
 obtain ⟨j, hj, he⟩ := List.getElem_of_mem hm
 exact ⟨j, by rw [← h.1]; exact hj, by simp [hj, he]⟩
theorem mv_cmp {n : Nat} {a b m : List Int} (ha : Perm n a) (hb : Perm n b) : mv n (cmp a b) m = mv n a (mv n b m) := by
 have hab := cmp_perm ha hb
 refine ext_get (by rw [mv, mv, mvF_len, mvF_len]) fun t ht => ?_
 rw [mv, mvF_len] at ht
 obtain ⟨j, hj, he⟩ := perm_onto hab ht
 have h1 := mvF_at (m := m) hab n (Nat.le_refl _) j hj
 have hbj := perm_get hb hj
 have hc : (cmp a b).getD j 0 = a.getD (b.getD j 0).toNat 0 := cmp_get a b (by rw [hb.1]; exact hj)
 have h2 := mvF_at (m := mv n b m) ha n (Nat.le_refl _) (b.getD j 0).toNat (by omega)
 have h3 := mvF_at (m := m) hb n (Nat.le_refl _) j hj
 rw [he] at h1
 rw [← hc, he] at h2
 rw [show ((t : Int)).toNat = t by omega] at h1 h2
 unfold mv at h2 ⊢
 rw [h1, h2]
 exact h3.symm
theorem img_getD {n : Nat} {a : List Int} {l : List (List Int)} {i : Nat} (h : i < l.length) : (img n a l).getD i 0 = ((l.idxOf (mv n a l[i]) : Nat) : Int) := by simp [img, h]
theorem img_cmp {n : Nat} {a b : List Int} {l : List (List Int)} (ha : Perm n a) (hb : Perm n b) (hB : ActsOn n b l) {i : Nat} (hi : i < l.length) : (img n (cmp a b) l).getD i 0 = (img n a l).getD ((img n b l).getD i 0).toNat 0 := by
 rw [img_getD hi, img_getD hi, mv_cmp ha hb]
 obtain ⟨h1, h2⟩ := idxL_get (hB _ (List.getElem_mem hi))
 rw [show (((l.idxOf (mv n b l[i]) : Nat) : Int)).toNat = l.idxOf (mv n b l[i]) by omega, img_getD h1, h2]
theorem img_unit {n : Nat} {l : List (List Int)} (hl : ∀ m ∈ l, m.length = n) (hn : l.Nodup) {i : Nat} (hi : i < l.length) : (img n (unit n) l).getD i 0 = (i : Int) := by
 rw [img_getD hi]
 have hm : mv n (unit n) l[i] = l[i] := by
  refine ext_get (by rw [mv, mvF_len, hl _ (List.getElem_mem _)]) fun t ht => ?_
  rw [mv, mvF_len] at ht
  have h1 := mvF_at (m := l[i]) (unit_perm n) n (Nat.le_refl _) t ht
  rw [unit_get ht, show ((t : Int)).toNat = t by omega] at h1
  exact h1
 have h2 : l.idxOf l[i] = i := Go.Proofs.Tg.Bk.idxL_at hn hi
 rw [hm, h2]
end Go.Pm
end
section
/- The rows of an adapted basis consist of signs. Plain. -/
namespace Go.Pm
open Go.Gr
def wsum (c : Nat) (im : List (List Int)) (i j k : Nat) : Int := ((List.range k).map fun s => if plc im i s = j then sgn s c else 0).sum
theorem wsum_succ (c : Nat) (im : List (List Int)) (i j k : Nat) : wsum c im i j (k + 1) = wsum c im i j k + if plc im i k = j then sgn k c else 0 := by
 unfold wsum
 rw [List.range_succ, List.map_append, List.sum_append]
 simp
theorem wvT_sum (c : Nat) (im : List (List Int)) (L i : Nat) : ∀ k, (∀ s, s < k → plc im i s < L) → ∀ j, j < L → (wvT c im L i k).getD j 0 = wsum c im i j k
  | 0, _, j, hj => by simp [wvT_zero, wsum, hj]
  | k + 1, hp, j, hj => by
    have ih := wvT_sum c im L i k (fun s hs => hp s (by omega))
    rw [wvT_succ, wsum_succ, List.getD_eq_getElem?_getD, List.getElem?_set]
    by_cases h : plc im i k = j
    ·subst h
     rw [if_pos rfl, if_pos (by rw [wvT_len]; exact hj), if_pos rfl, Option.getD_some, ih _ hj]
    ·rw [if_neg h, if_neg h, Int.add_zero, ← List.getD_eq_getElem?_getD, ih j hj]
theorem perm_sum {l l' : List Int} (h : l.Perm l') : l.sum = l'.sum := by
 induction h with
 | nil => rfl
 | cons a _ ih => rw [List.sum_cons, List.sum_cons, ih]
 | swap a b l => rw [List.sum_cons, List.sum_cons, List.sum_cons, List.sum_cons]; omega
 | trans _ _ h1 h2 => exact h1.trans h2
/-- A sum over all subsets, each moved by one. -/
theorem sum_xor {m t : Nat} (ht : t < 2 ^ m) (f : Nat → Int) : ((List.range (2 ^ m)).map fun s => f (t ^^^ s)).sum = ((List.range (2 ^ m)).map f).sum := by
 have hx : ∀ s, s < 2 ^ m → t ^^^ s < 2 ^ m := fun s hs => Nat.xor_lt_two_pow ht hs
 have hinv : ∀ s, t ^^^ (t ^^^ s) = s := fun s => by rw [← Nat.xor_assoc, Nat.xor_self, Nat.zero_xor]
 have hperm : ((List.range (2 ^ m)).map fun s => t ^^^ s).Perm (List.range (2 ^ m)) := by
  refine (List.perm_ext_iff_of_nodup ?_ List.nodup_range).2 fun a => ?_
  ·refine List.pairwise_map.2 (List.nodup_range.imp fun {a b} hab e => hab ?_)
   have h1 := hinv a
   have h2 := hinv b
   rw [e] at h1
   exact h1.symm.trans h2
  ·rw [List.mem_map, List.mem_range]
   constructor
   ·rintro ⟨s, hs, rfl⟩
    exact hx s (List.mem_range.1 hs)
   ·intro ha
    exact ⟨t ^^^ a, List.mem_range.2 (hx a ha), hinv a⟩
 have h2 := hperm.map f
 rw [List.map_map] at h2
 exact perm_sum h2
/-- The places of a family of images that is closed under the exclusive or. -/
structure ImOk (im : List (List Int)) (L m : Nat) : Prop where
  len : im.length = 2 ^ m
  lt : ∀ s i, s < 2 ^ m → i < L → plc im i s < L
  zero : ∀ i, i < L → plc im i 0 = i
  xor : ∀ s t i, s < 2 ^ m → t < 2 ^ m → i < L → plc im i (s ^^^ t) = plc im (plc im i t) s
theorem ImOk.back {im : List (List Int)} {L m : Nat} (h : ImOk im L m) {s i : Nat} (hs : s < 2 ^ m) (hi : i < L) : plc im (plc im i s) s = i := by
 rw [← h.xor s s i hs hs hi, Nat.xor_self, h.zero i hi]
theorem ImOk.sum {im : List (List Int)} {L m : Nat} (h : ImOk im L m) (c : Nat) {s i : Nat} (hs : s < 2 ^ m) (hi : i < L) : wsum c im i (plc im i s) (2 ^ m) = sgn s c * wsum c im i i (2 ^ m) := by
 have h1 : wsum c im i (plc im i s) (2 ^ m) = ((List.range (2 ^ m)).map fun t => if plc im i (s ^^^ t) = plc im i s then sgn (s ^^^ t) c else 0).sum := by
  unfold wsum
  exact (sum_xor hs (fun t => if plc im i t = plc im i s then sgn t c else 0)).symm
 have h2 : ((List.range (2 ^ m)).map fun t => if plc im i (s ^^^ t) = plc im i s then sgn (s ^^^ t) c else 0) = (List.range (2 ^ m)).map fun t => sgn s c * if plc im i t = i then sgn t c else 0 := by
  refine List.map_congr_left fun t ht => ?_
  have ht := List.mem_range.1 ht
  rw [h.xor s t i hs ht hi, sgn_xor]
  by_cases he : plc im i t = i
  ·rw [he, if_pos rfl, if_pos rfl]
  ·rw [if_neg he, if_neg (fun e => he (by
    have h3 := h.back hs (h.lt t i ht hi)
    rw [e, h.back hs hi] at h3
    exact h3.symm)), Int.mul_zero]
 rw [h1, h2]
 unfold wsum
 generalize List.range (2 ^ m) = r
 induction r with
 | nil => simp
 | cons a r ih => rw [List.map_cons, List.sum_cons, List.map_cons, List.sum_cons, ih, Int.mul_add]
theorem wsum_none {c : Nat} {im : List (List Int)} {i j k : Nat} (h : ∀ s, s < k → plc im i s ≠ j) : wsum c im i j k = 0 := by
 induction k with
 | zero => rfl
 | succ k ih => rw [wsum_succ, ih (fun s hs => h s (by omega)), if_neg (h k (by omega))]; rfl
/-- Each number of such a row is nothing or the first one, up to its sign. -/
theorem ImOk.wv_sign {im : List (List Int)} {L m : Nat} (h : ImOk im L m) (c : Nat) {i j : Nat} (hi : i < L) (hj : j < L) : (wv c im L i).getD j 0 = 0 ∨ (wv c im L i).getD j 0 = (wv c im L i).getD i 0 ∨ (wv c im L i).getD j 0 = -(wv c im L i).getD i 0 := by
 have hp : ∀ s, s < im.length → plc im i s < L := fun s hs => h.lt s i (by rw [← h.len]; exact hs) hi
 unfold wv
 rw [wvT_sum c im L i _ hp j hj, wvT_sum c im L i _ hp i hi, h.len]
 by_cases he : ∃ s, s < 2 ^ m ∧ plc im i s = j
 ·obtain ⟨s, hs, rfl⟩ := he
  rw [h.sum c hs hi]
  rcases sgn_sq s c with e | e
  ·rw [e, Int.one_mul]; exact .inr (.inl rfl)
  ·rw [e]; exact .inr (.inr (by omega))
 ·exact .inl (wsum_none fun s hs e => he ⟨s, hs, e⟩)
theorem ImOk.sgOk {im : List (List Int)} {L m : Nat} (h : ImOk im L m) (c : Nat) : SgOk c im L := by
 intro i hi r hr x hx
 unfold adRow at hr
 split at hr
 ·next h0 =>
  injection hr with hr
  rw [← hr] at hx
  obtain ⟨y, hy, rfl⟩ := List.mem_map.1 hx
  obtain ⟨j, hj, rfl⟩ := List.getElem_of_mem hy
  have hjL : j < L := by
   have : (wv c im L i).length = L := wvT_len _ _ _ _ _
   omega
  have hs := h.wv_sign c hi hjL
  rw [show (wv c im L i).getD j 0 = (wv c im L i)[j] by simp [hj]] at hs
  have hne := h0.2
  generalize (wv c im L i).getD i 0 = v at *
  unfold Sg
  rcases hs with e | e | e
  ·rw [e]; exact .inl (Int.zero_tdiv v)
  ·rw [e]; exact .inr (.inl (Int.tdiv_self hne))
  ·rw [e, Int.neg_tdiv, Int.tdiv_self hne]; exact .inr (.inr rfl)
 ·cases hr
end Go.Pm
end
section
/- The first number of a row of an adapted basis is positive, and the quotients by it are signs (plain). -/
namespace Go.Pm
open Go.Gr
set_option maxRecDepth 100000
theorem wsum_nonneg {c : Nat} {im : List (List Int)} {i : Nat} : ∀ k, (∀ s, s < k → plc im i s = i → sgn s c = 1) → 0 ≤ wsum c im i i k
  | 0, _ => by simp [wsum]
  | k + 1, h => by
    have ih := wsum_nonneg k (fun s hs => h s (by omega))
    rw [wsum_succ]
    by_cases he : plc im i k = i
    ·rw [if_pos he, h k (by omega) he]; omega
    ·rw [if_neg he]; omega
theorem ImOk.wv_pos {im : List (List Int)} {L m : Nat} (h : ImOk im L m) (c : Nat) {i : Nat} (hi : i < L) (h0 : (wv c im L i).getD i 0 ≠ 0) : 0 < (wv c im L i).getD i 0 := by
 have hp : ∀ s, s < im.length → plc im i s < L := fun s hs => h.lt s i (by rw [← h.len]; exact hs) hi
 unfold wv at h0 ⊢
 rw [wvT_sum c im L i _ hp i hi, h.len] at h0 ⊢
 have h1 : 0 ≤ wsum c im i i (2 ^ m) := wsum_nonneg _ fun s hs he => by
  have h2 := h.sum c hs hi
  rw [he] at h2
  rcases sgn_sq s c with e | e
  ·exact e
  ·rw [e] at h2
   omega
 omega
theorem ImOk.wv_div {im : List (List Int)} {L m : Nat} (h : ImOk im L m) (c : Nat) {i j : Nat} (hi : i < L) (hj : j < L) (h0 : (wv c im L i).getD i 0 ≠ 0) :
    (((wv c im L i).getD j 0 : Int) : Rat) / (((wv c im L i).getD i 0 : Int) : Rat) = ((((wv c im L i).getD j 0).tdiv ((wv c im L i).getD i 0) : Int) : Rat) := by
  have hs := h.wv_sign c hi hj
  generalize (wv c im L i).getD i 0 = v at *
  generalize (wv c im L i).getD j 0 = u at *
  have hv : ((v : Int) : Rat) ≠ 0 := fun e => h0 (Rat.intCast_eq_zero_iff.1 e)
  rcases hs with e | e | e
  ·rw [e, Int.zero_tdiv]; simp [Rat.div_def]
  ·rw [e, Int.tdiv_self h0, Rat.div_def, Rat.mul_inv_cancel _ hv]; rfl
  ·rw [e, Int.neg_tdiv, Int.tdiv_self h0, Rat.div_def, Rat.intCast_neg, Rat.neg_mul, Rat.mul_inv_cancel _ hv]; rfl
end Go.Pm
end
section
/- Numbers in base 2^32, the least digit first: plain. -/
namespace Go.Bn
abbrev B : Nat := 4294967296
def val : List Nat → Nat
  | [] => 0
  | x :: xs => x + B * val xs
def Dig (xs : List Nat) : Prop := ∀ x ∈ xs, x < B
/-- No zeros at the end. -/
def Norm (xs : List Nat) : Prop := ∀ h : xs ≠ [], xs.getLast h ≠ 0
theorem val_app (xs ys : List Nat) : val (xs ++ ys) = val xs + B ^ xs.length * val ys := by
 induction xs with
 | nil => simp [val]
 | cons x xs ih =>
   simp only [List.cons_append, val, ih, List.length_cons, Nat.pow_succ]
   rw [Nat.mul_add, Nat.mul_comm (B ^ xs.length) B, Nat.mul_assoc]; omega
theorem val_lt {xs : List Nat} (h : Dig xs) : val xs < B ^ xs.length := by
 induction xs with
 | nil => simp [val]
 | cons x xs ih =>
   have h1 := h x (by simp)
   have h2 := ih (fun y hy => h y (by simp [hy]))
   simp only [val, List.length_cons, Nat.pow_succ]
   have : B * (val xs + 1) ≤ B * B ^ xs.length := Nat.mul_le_mul_left _ h2
   rw [Nat.mul_comm (B ^ xs.length) B]
   rw [Nat.mul_add] at this
   omega
theorem val_zeros (n : Nat) : val (List.replicate n 0) = 0 := by
 induction n with
 | zero => rfl
 | succ n ih => rw [List.replicate_succ]; simp [val, ih]
/-- The digits of a number. -/
def dg (n : Nat) : List Nat := if _h : n = 0 then [] else n % B :: dg (n / B)
termination_by n
decreasing_by exact Nat.div_lt_self (by omega) (by decide)
theorem dg_zero : dg 0 = [] := by unfold dg; rfl
theorem dg_pos {n : Nat} (h : n ≠ 0) : dg n = n % B :: dg (n / B) := by rw [dg]; simp [h]
theorem dg_small {n : Nat} (h : n ≠ 0) (hb : n < B) : dg n = [n] := by
 rw [dg_pos h, Nat.mod_eq_of_lt hb, Nat.div_eq_of_lt hb, dg_zero]
theorem val_dg (n : Nat) : val (dg n) = n := by
 induction n using Nat.strongRecOn with
 | _ n ih =>
   by_cases h : n = 0
   ·subst h; rw [dg_zero]; rfl
   ·rw [dg_pos h]
    simp only [val]
    rw [ih _ (Nat.div_lt_self (by omega) (by decide))]
    have := Nat.mod_add_div n B
    omega
theorem dg_dig (n : Nat) : Dig (dg n) := by
 induction n using Nat.strongRecOn with
 | _ n ih =>
   by_cases h : n = 0
   ·subst h; rw [dg_zero]; intro x hx; cases hx
   ·rw [dg_pos h]
    intro x hx
    rcases List.mem_cons.1 hx with rfl | hx
    ·exact Nat.mod_lt _ (by decide)
    ·exact ih _ (Nat.div_lt_self (by omega) (by decide)) x hx
theorem norm_cons {x : Nat} {xs : List Nat} (h : Norm (x :: xs)) : Norm xs := by
 intro hne
 have := h (by simp)
 rwa [List.getLast_cons hne] at this
theorem norm_pos {xs : List Nat} (h : Norm xs) (hv : val xs = 0) : xs = [] := by
 induction xs with
 | nil => rfl
 | cons x xs ih =>
   simp only [val] at hv
   have h1 : x = 0 := by omega
   have h2 : val xs = 0 := by
    have : B * val xs = 0 := by omega
    rcases Nat.mul_eq_zero.1 this with h | h
    ·exact absurd h (by decide)
    ·exact h
   have h3 := ih (norm_cons h) h2
   subst h3 h1
   exact absurd rfl (h (by simp))
/-- The digits are the only ones without zeros at the end. -/
theorem dg_val {xs : List Nat} (hd : Dig xs) (hn : Norm xs) : dg (val xs) = xs := by
 induction xs with
 | nil => exact dg_zero
 | cons x xs ih =>
   have hx := hd x (by simp)
   have ih := ih (fun y hy => hd y (by simp [hy])) (norm_cons hn)
   have hv : val (x :: xs) ≠ 0 := fun e => by have := norm_pos hn e; cases this
   rw [dg_pos hv]
   simp only [val] at hv ⊢
   rw [Nat.add_mul_mod_self_left, Nat.mod_eq_of_lt hx, Nat.add_mul_div_left _ _ (by decide), Nat.div_eq_of_lt hx, Nat.zero_add, ih]
theorem dg_norm (n : Nat) : Norm (dg n) := by
 induction n using Nat.strongRecOn with
 | _ n ih =>
   by_cases h : n = 0
   ·subst h; rw [dg_zero]; intro h; exact absurd rfl h
   ·intro hne
    have hlt : n / B < n := Nat.div_lt_self (by omega) (by decide)
    have ih := ih _ hlt
    have e := dg_pos h
    by_cases h2 : n / B = 0
    ·have hb : n < B := by
      rcases Nat.div_eq_zero_iff.1 h2 with h3 | h3
      ·exact absurd h3 (by decide)
      ·exact h3
     have : ∀ (l : List Nat) (hl : l ≠ []), l = [n] → l.getLast hl ≠ 0 := fun l hl el => by subst el; simpa using h
     exact this _ hne (dg_small h hb)
    ·have hd : dg (n / B) ≠ [] := fun e2 => h2 (by have := val_dg (n / B); rw [e2] at this; exact this.symm)
     have : ∀ (l : List Nat) (hl : l ≠ []), l = n % B :: dg (n / B) → l.getLast hl ≠ 0 := fun l hl el => by
      subst el
      rw [List.getLast_cons hd]
      exact ih hd
     exact this _ hne e
/-- Zeros struck from the end. -/
theorem dg_append_zero (xs : List Nat) : val (xs ++ [0]) = val xs := by rw [val_app]; simp [val]
theorem dg_len_lt {n k : Nat} (h : n < B ^ k) : (dg n).length ≤ k := by
 induction k generalizing n with
 | zero => have : n = 0 := by simpa using h
           subst this; rw [dg_zero]; simp
 | succ k ih =>
   by_cases h0 : n = 0
   ·subst h0; rw [dg_zero]; simp
   ·rw [dg_pos h0, List.length_cons]
    have : n / B < B ^ k := by
     rw [Nat.pow_succ] at h
     exact Nat.div_lt_of_lt_mul (by rw [Nat.mul_comm]; exact h)
    have := ih this
    omega
theorem dg_ge {n k : Nat} (h : B ^ k ≤ n) : k < (dg n).length := by
 have h1 := val_lt (dg_dig n)
 rw [val_dg] at h1
 rcases Nat.lt_or_ge k (dg n).length with h2 | h2
 ·exact h2
 ·have := Nat.pow_le_pow_right (show 0 < B by decide) h2
  omega
end Go.Bn
end
section
/- The estimate of a digit of a quotient by the top three digits and the top two of the divisor: plain numbers. -/
namespace Go.Bn
/-- The two numbers by their tops. -/
structure Tops (u v top u2 v1 v2 P : Nat) : Prop where
  u_hi : (top * B + u2) * P ≤ u
  u_lo : u < (top * B + u2 + 1) * P
  v_hi : (v1 * B + v2) * P ≤ v
  v_lo : v < (v1 * B + v2 + 1) * P
  u2lt : u2 < B
  v2lt : v2 < B
  big : B ≤ 2 * v1
  v1lt : v1 < B
theorem Tops.two {u v top u2 v1 v2 P q : Nat} (h : Tops u v top u2 v1 v2 P) (hq : q * v ≤ u) : q * (v1 * B + v2) ≤ top * B + u2 := by
 have h1 : q * ((v1 * B + v2) * P) ≤ q * v := Nat.mul_le_mul_left _ h.v_hi
 have h2 : q * (v1 * B + v2) * P < (top * B + u2 + 1) * P := by
  rw [Nat.mul_assoc]; exact Nat.lt_of_le_of_lt (Nat.le_trans h1 hq) h.u_lo
 have := Nat.lt_of_mul_lt_mul_right h2
 omega
/-- The first estimate is not too small. -/
theorem Tops.first {u v top u2 v1 v2 P q : Nat} (h : Tops u v top u2 v1 v2 P) (hq : q * v ≤ u) : q ≤ top / v1 := by
 have h1 := h.two hq
 have hu := h.u2lt
 have hb := h.big
 rw [Nat.mul_add, ← Nat.mul_assoc] at h1
 have h2 : q * v1 * B < (top + 1) * B := by rw [Nat.add_mul]; omega
 have h3 := Nat.lt_of_mul_lt_mul_right h2
 rw [Nat.le_div_iff_mul_le (by simp only [B] at hb; omega)]
 omega
/-- An estimate that fails the test is too great. -/
theorem Tops.down {u v top u2 v1 v2 P q e r : Nat} (h : Tops u v top u2 v1 v2 P) (hq : q * v ≤ u) (he : e * v1 + r = top) (ht : r * B + u2 < e * v2) (hqe : q ≤ e) : q ≤ e - 1 := by
 rcases Nat.lt_or_ge q e with h1 | h1
 ·omega
 ·have : q = e := by omega
  subst this
  have h2 := h.two hq
  rw [Nat.mul_add, ← Nat.mul_assoc, ← he, Nat.add_mul] at h2
  omega
/-- The first estimate is at most the base and one. -/
theorem Tops.small {u v top u2 v1 v2 P : Nat} (h : Tops u v top u2 v1 v2 P) (hlt : u < v * B) : top / v1 ≤ B + 1 := by
 have hb := h.big
 have hv2 := h.v2lt
 have h1 : (top * B + u2) * P < (v1 * B + v2 + 1) * P * B := Nat.lt_of_le_of_lt h.u_hi (Nat.lt_of_lt_of_le hlt (Nat.mul_le_mul_right _ (Nat.le_of_lt h.v_lo)))
 have h2 : (top * B + u2) * P < ((v1 * B + v2 + 1) * B) * P := by rw [Nat.mul_right_comm]; exact h1
 have h3 := Nat.lt_of_mul_lt_mul_right h2
 have h4 : (v1 * B + v2 + 1) * B ≤ (v1 * B + B) * B := Nat.mul_le_mul_right _ (by omega)
 have h5 : top * B < (v1 * B + B) * B := Nat.lt_of_le_of_lt (Nat.le_add_right _ u2) (Nat.lt_of_lt_of_le h3 h4)
 have h6 : top < v1 * B + B := Nat.lt_of_mul_lt_mul_right h5
 have h7 : top < (B + 2) * v1 := by
  simp only [B] at h6 hb ⊢; omega
 have := (Nat.div_lt_iff_lt_mul (by simp only [B] at hb; omega)).2 h7
 omega
/-- An estimate that passes the test, or whose rest is no digit any more, is at most one too great. -/
theorem Tops.near {u v top u2 v1 v2 P e r : Nat} (h : Tops u v top u2 v1 v2 P) (hP : 0 < P) (he : e * v1 + r = top) (heB : e ≤ B) (ht : e * v2 ≤ r * B + u2 ∨ B ≤ r) : e * v < u + v := by
 have hv2 := h.v2lt
 have hbg := h.big
 have h0 : e * v2 ≤ r * B + u2 := by
  rcases ht with ht | ht
  ·exact ht
  ·have h1 : e * v2 ≤ B * B := Nat.mul_le_mul heB (Nat.le_of_lt hv2)
   have h2 : B * B ≤ r * B := Nat.mul_le_mul_right _ ht
   omega
 have h1 : e * (v1 * B + v2) ≤ top * B + u2 := by
  rw [Nat.mul_add, ← Nat.mul_assoc, ← he, Nat.add_mul]; omega
 have h2 : e * (v1 * B + v2) * P ≤ u := Nat.le_trans (Nat.mul_le_mul_right _ h1) h.u_hi
 rcases Nat.eq_zero_or_pos e with rfl | hpos
 ·have h3 : 1 * P ≤ (v1 * B + v2) * P := Nat.mul_le_mul_right _ (by simp only [B] at hbg ⊢; omega)
  have := h.v_hi
  omega
 ·have h3 : e * v < e * ((v1 * B + v2 + 1) * P) := Nat.mul_lt_mul_of_pos_left h.v_lo hpos
  have h4 : e * ((v1 * B + v2 + 1) * P) = e * (v1 * B + v2) * P + e * P := by rw [← Nat.mul_assoc, Nat.mul_add, Nat.add_mul, Nat.mul_one]
  have h5 : e * P ≤ v := by
   refine Nat.le_trans (Nat.mul_le_mul_right P ?_) h.v_hi
   simp only [B] at hbg heB ⊢; omega
  omega
end Go.Bn
end
