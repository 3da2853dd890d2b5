/- Parts of the proof: BG9, WG3, WG4, BG2. -/
import Derived.Laws.Tables
import Derived.IntWalk
import Derived.Deep.RegionWith
import Derived.Deep.RegionHeld3
import Derived.Deep.DeepCutAuto
import Derived.Laws.MakeOwn
import Derived.Test.YtodjofbneeejpaaGreatDoorMBD0
import Derived.Test.YtodjofbneeejpaaGreatDoorMBD1
import Derived.Test.YtodjofbneeejpaaGreatDoorMBD4
section
/- Is it a permutation? What the two loops hold. Plain. -/
namespace Go.Pm
/-- The first k elements are in range and different. -/
def GoodP (a : List Int) (k : Nat) : Prop := (∀ x ∈ a.take k, 0 ≤ x ∧ x < a.length) ∧ (a.take k).Nodup
theorem GoodP.zero (a : List Int) : GoodP a 0 := ⟨fun x hx => by simp at hx, by simp⟩
theorem GoodP.succ {a : List Int} {k : Nat} (h : GoodP a k) (hk : k < a.length) (h0 : 0 ≤ a[k]) (h1 : a[k] < a.length) (hn : a[k] ∉ a.take k) : GoodP a (k + 1) := by
 unfold GoodP
 rw [List.take_succ_eq_append_getElem hk]
 refine ⟨fun x hx => ?_, List.nodup_append.2 ⟨h.2, by simp, fun x hx y hy e => ?_⟩⟩
 ·rcases List.mem_append.1 hx with hx | hx
  ·exact h.1 x hx
  ·rw [List.mem_singleton.1 hx]; exact ⟨h0, h1⟩
 ·rw [List.mem_singleton.1 hy] at e
  exact hn (by rw [← e]; exact hx)
theorem GoodP.perm {a : List Int} (h : GoodP a a.length) : Perm a.length a := by
 unfold GoodP at h
 rw [List.take_length] at h
 exact ⟨rfl, h.1, h.2⟩
theorem bad_range {a : List Int} {k : Nat} (hk : k < a.length) (h : ¬ (0 ≤ a[k] ∧ a[k] < a.length)) : ¬ Perm a.length a := fun hp => h (hp.2.1 _ (List.getElem_mem _))
theorem bad_twice {a : List Int} {k : Nat} (hk : k < a.length) (h : a[k] ∈ a.take k) : ¬ Perm a.length a := fun hp => by
 obtain ⟨i, hi, he⟩ := List.getElem_of_mem h
 rw [List.length_take] at hi
 rw [List.getElem_take] at he
 exact List.pairwise_iff_getElem.1 hp.2.2 i k (by omega) hk (by omega) he
end Go.Pm
end
section
/- Identities and products of permutations: group, blocks, the reference 18 (printed by wip/tools/mk_perm.py). -/
namespace Go.Proofs.Tg.Gp
open Go.RowKit Go.Gr Go.Sp Go.Ev Go.Pm
set_option maxHeartbeats 4000000
set_option maxRecDepth 100000
theorem take_all_fill {s : List Int} {n : Nat} (h : s.length = n) : s.take n ++ List.replicate (n - n) 0 = s := by
 rw [Nat.sub_self, List.replicate_zero, List.append_nil, List.take_of_length_le (by omega)]
theorem identity_any (n : Nat) (w : World) (hn : n ≤ 6) : Calls Tryz.prog 97 #[.int .i64 n] w fun e w' => e = .returned (.slice (some ⟨w.heap.size, 0, none⟩) n n) ∧ Blk w' w.heap.size 3 (iarr (unit n)) ∧ Below w.heap.size w w' := by
 have HSL : Hid ((unit n).length = n) := Lib.hid (unit_len n)
 have HSA : Hid (∀ k (h : k < (unit n).length), (unit n)[k] = (k : Int)) := Lib.hid (fun k h => by simp [unit])
 have hmk := fun W => make_ints n n (Nat.le_refl _) (by omega) W
 generalize unit n = s at *
 go_enter Tryz.func97, Tryz.ntmps97
 go_wp2
 clear hmk
 go_loopw [9] (fun i wr => ∃ k : Nat, k ≤ n ∧ i = .int .i64 k ∧ Blk wr w.heap.size 3 (iarr (s.take k ++ List.replicate (n - k) 0)) ∧ Below w.heap.size w wr) (fun i _ => n - (intOf i).toNat)
 case atStart =>
  refine ⟨0, Nat.zero_le _, rfl, ?_, (Below.refl _ _).alloc (Nat.le_refl _) _⟩
  have e : iarr (s.take 0 ++ List.replicate (n - 0) 0) = madeCells #[.int .i64 0] n := (iarr_made n).symm
  rw [e]
  exact Blk.new w 3 _
 case round =>
  obtain ⟨wo, rfl⟩ : ∃ wo : World, wo = wr := ⟨_, rfl⟩
  obtain ⟨k, hk, rfl, B0, hbw⟩ := hrel
  by_cases hlt : k < n
  ·have hl2 : (s.take k ++ List.replicate (n - k) 0).length = n := by
    have := HSL.out
    rw [List.length_append, List.length_take, List.length_replicate]; omega
   have HST : Hid ((s.take k ++ List.replicate (n - k) 0).set k (k : Int) = s.take (k + 1) ++ List.replicate (n - (k + 1)) 0) := Lib.hid (fill_set _ k _ _ HSL.out hlt (HSA.out k (by rw [HSL.out]; exact hlt)))
   have c0 := B0.cell k
   have f0 := B0.frozen k
   rw [iarr_at _ (by rw [hl2]; exact hlt)] at c0
   generalize (s.take k ++ List.replicate (n - k) 0)[k]'(by rw [hl2]; exact hlt) = old at c0
   have HB0 := Lib.hid B0
   have q0 : (0 : Int) ≤ (k : Int) := by omega
   have q1 : (k : Int) < (n : Int) := by omega
   have q3 : ((k : Int)).toNat = k := by omega
   clear B0 hl2
   go_wp2
   go_roundw
   case rel =>
    refine ⟨k + 1, by omega, by go_num, ?_, below_far hbw (Nat.le_refl _) _ _⟩
    have := HB0.out.set k (.int .i64 (k : Int))
    rw [iarr_set, HST.out] at this
    exact this
   case measure => simp [intOf]; omega
  ·obtain rfl : k = n := by omega
   rw [take_all_fill HSL.out] at B0
   have dk : decide ((k : Int) < (k : Int)) = false := by simp
   go_wp2
   go_ret
   exact ⟨rfl, B0, hbw⟩
theorem runit_any (n : Nat) (w : World) (hn : n ≤ 6) : Calls Tryz.prog 52 #[.int .i64 n] w fun e w' => e = .returned (.slice (some ⟨w.heap.size, 0, none⟩) n n) ∧ Blk w' w.heap.size 3 (iarr (unit n)) ∧ Below w.heap.size w w' := by
 have HSL : Hid ((unit n).length = n) := Lib.hid (unit_len n)
 have HSA : Hid (∀ k (h : k < (unit n).length), (unit n)[k] = (k : Int)) := Lib.hid (fun k h => by simp [unit])
 have hmk := fun W => make_ints n n (Nat.le_refl _) (by omega) W
 generalize unit n = s at *
 go_enter Tryz.func52, Tryz.ntmps52
 go_wp2
 clear hmk
 go_loopw [4] (fun i wr => ∃ k : Nat, k ≤ n ∧ i = .int .i64 k ∧ Blk wr w.heap.size 3 (iarr (s.take k ++ List.replicate (n - k) 0)) ∧ Below w.heap.size w wr) (fun i _ => n - (intOf i).toNat)
 case atStart =>
  refine ⟨0, Nat.zero_le _, rfl, ?_, (Below.refl _ _).alloc (Nat.le_refl _) _⟩
  have e : iarr (s.take 0 ++ List.replicate (n - 0) 0) = madeCells #[.int .i64 0] n := (iarr_made n).symm
  rw [e]
  exact Blk.new w 3 _
 case round =>
  obtain ⟨wo, rfl⟩ : ∃ wo : World, wo = wr := ⟨_, rfl⟩
  obtain ⟨k, hk, rfl, B0, hbw⟩ := hrel
  by_cases hlt : k < n
  ·have hl2 : (s.take k ++ List.replicate (n - k) 0).length = n := by
    have := HSL.out
    rw [List.length_append, List.length_take, List.length_replicate]; omega
   have HST : Hid ((s.take k ++ List.replicate (n - k) 0).set k (k : Int) = s.take (k + 1) ++ List.replicate (n - (k + 1)) 0) := Lib.hid (fill_set _ k _ _ HSL.out hlt (HSA.out k (by rw [HSL.out]; exact hlt)))
   have c0 := B0.cell k
   have f0 := B0.frozen k
   rw [iarr_at _ (by rw [hl2]; exact hlt)] at c0
   generalize (s.take k ++ List.replicate (n - k) 0)[k]'(by rw [hl2]; exact hlt) = old at c0
   have HB0 := Lib.hid B0
   have q0 : (0 : Int) ≤ (k : Int) := by omega
   have q1 : (k : Int) < (n : Int) := by omega
   have q3 : ((k : Int)).toNat = k := by omega
   clear B0 hl2
   go_wp2
   go_roundw
   case rel =>
    refine ⟨k + 1, by omega, by go_num, ?_, below_far hbw (Nat.le_refl _) _ _⟩
    have := HB0.out.set k (.int .i64 (k : Int))
    rw [iarr_set, HST.out] at this
    exact this
   case measure => simp [intOf]; omega
  ·obtain rfl : k = n := by omega
   rw [take_all_fill HSL.out] at B0
   have dk : decide ((k : Int) < (k : Int)) = false := by simp
   go_wp2
   go_ret
   exact ⟨rfl, B0, hbw⟩
theorem compose_any (A B : Option Addr) (c d n : Nat) (a b : List Int) (w : World) (hA : Ints w A a) (hB : Ints w B b) (ha : Perm n a) (hb : Perm n b) (hn : n ≤ 6) :
    Calls Tryz.prog 98 #[.slice A n c, .slice B n d] w fun e w' => e = .returned (.slice (some ⟨w.heap.size, 0, none⟩) n n) ∧ Blk w' w.heap.size 3 (iarr (cmp a b)) ∧ Below w.heap.size w w' := by
  have HA := Lib.hid ha
  have HB := Lib.hid hb
  have HSL : Hid ((cmp a b).length = n) := Lib.hid (cmp_perm ha hb).1
  have HSA : Hid (∀ k (h2 : k < b.length) (h1 : (b[k]).toNat < a.length) (h3 : k < (cmp a b).length), (cmp a b)[k] = a[(b[k]).toNat]) := Lib.hid (fun k h2 h1 h3 => by simp [cmp, h1])
  have HAW := Lib.hid hA
  have HBW := Lib.hid hB
  have hmk := fun W => make_ints n n (Nat.le_refl _) (by omega) W
  clear ha hb hA hB
  generalize cmp a b = s at *
  go_enter Tryz.func98, Tryz.ntmps98
  go_wp2
  clear hmk
  go_loopw [13] (fun i wr => ∃ k : Nat, k ≤ n ∧ i = .int .i64 k ∧ Blk wr w.heap.size 3 (iarr (s.take k ++ List.replicate (n - k) 0)) ∧ Below w.heap.size w wr) (fun i _ => n - (intOf i).toNat)
  case atStart =>
   refine ⟨0, Nat.zero_le _, rfl, ?_, (Below.refl _ _).alloc (Nat.le_refl _) _⟩
   have e : iarr (s.take 0 ++ List.replicate (n - 0) 0) = madeCells #[.int .i64 0] n := (iarr_made n).symm
   rw [e]
   exact Blk.new w 3 _
  case round =>
   obtain ⟨wo, rfl⟩ : ∃ wo : World, wo = wr := ⟨_, rfl⟩
   obtain ⟨k, hk, rfl, B0, hbw⟩ := hrel
   by_cases hlt : k < n
   ·have hal : a.length = n := HA.out.1
    have hbl : b.length = n := HB.out.1
    have hr := HB.out.2.1 (b[k]'(by omega)) (List.getElem_mem _)
    obtain ⟨m, hm⟩ : ∃ m : Nat, b[k]'(by omega) = (m : Int) := ⟨(b[k]'(by omega)).toNat, by omega⟩
    have hmn : m < n := by omega
    have hsk := HSA.out k (by omega) (by omega) (by rw [HSL.out]; exact hlt)
    have hmt : (b[k]'(by omega)).toNat = m := by omega
    obtain ⟨bd, rfl, hcb⟩ := Ints.at (HBW.out.keep hbw) (show k < b.length by omega)
    obtain ⟨ad, rfl, hca⟩ := Ints.at (HAW.out.keep hbw) (show m < a.length by omega)
    rw [hm] at hcb
    have hl2 : (s.take k ++ List.replicate (n - k) 0).length = n := by
     have := HSL.out
     rw [List.length_append, List.length_take, List.length_replicate]; omega
    have HST : Hid ((s.take k ++ List.replicate (n - k) 0).set k (a[m]'(by omega)) = s.take (k + 1) ++ List.replicate (n - (k + 1)) 0) := Lib.hid (fill_set _ k _ _ HSL.out hlt (by rw [hsk]; simp only [hmt]))
    have c0 := B0.cell k
    have f0 := B0.frozen k
    rw [iarr_at _ (by rw [hl2]; exact hlt)] at c0
    generalize (s.take k ++ List.replicate (n - k) 0)[k]'(by rw [hl2]; exact hlt) = old at c0
    have HB0 := Lib.hid B0
    have q0 : (0 : Int) ≤ (k : Int) := by omega
    have q1 : (k : Int) < (n : Int) := by omega
    have q3 : ((k : Int)).toNat = k := by omega
    have p0 : (0 : Int) ≤ (m : Int) := by omega
    have p1 : (m : Int) < (n : Int) := by omega
    have p3 : ((m : Int)).toNat = m := by omega
    generalize a[m]'(by omega) = x at *
    clear hsk hmt hm hr
    clear B0 hl2 hal hbl
    go_wp2
    go_roundw
    case rel =>
     refine ⟨k + 1, by omega, by go_num, ?_, below_far hbw (Nat.le_refl _) _ _⟩
     have := HB0.out.set k (.int .i64 x)
     rw [iarr_set, HST.out] at this
     exact this
    case measure => simp [intOf]; omega
   ·obtain rfl : k = n := by omega
    rw [take_all_fill HSL.out] at B0
    have dk : decide ((k : Int) < (k : Int)) = false := by simp
    go_wp2
    go_ret
    exact ⟨rfl, B0, hbw⟩
theorem bcompose_any (A B : Option Addr) (c d n : Nat) (a b : List Int) (w : World) (hA : Ints w A a) (hB : Ints w B b) (ha : Perm n a) (hb : Perm n b) (hn : n ≤ 6) :
    Calls Tryz.prog 62 #[.slice A n c, .slice B n d] w fun e w' => e = .returned (.slice (some ⟨w.heap.size, 0, none⟩) n n) ∧ Blk w' w.heap.size 3 (iarr (cmp a b)) ∧ Below w.heap.size w w' := by
  have HA := Lib.hid ha
  have HB := Lib.hid hb
  have HSL : Hid ((cmp a b).length = n) := Lib.hid (cmp_perm ha hb).1
  have HSA : Hid (∀ k (h2 : k < b.length) (h1 : (b[k]).toNat < a.length) (h3 : k < (cmp a b).length), (cmp a b)[k] = a[(b[k]).toNat]) := Lib.hid (fun k h2 h1 h3 => by simp [cmp, h1])
  have HAW := Lib.hid hA
  have HBW := Lib.hid hB
  have hmk := fun W => make_ints n n (Nat.le_refl _) (by omega) W
  clear ha hb hA hB
  generalize cmp a b = s at *
  go_enter Tryz.func62, Tryz.ntmps62
  go_wp2
  clear hmk
  go_loopw [13] (fun i wr => ∃ k : Nat, k ≤ n ∧ i = .int .i64 k ∧ Blk wr w.heap.size 3 (iarr (s.take k ++ List.replicate (n - k) 0)) ∧ Below w.heap.size w wr) (fun i _ => n - (intOf i).toNat)
  case atStart =>
   refine ⟨0, Nat.zero_le _, rfl, ?_, (Below.refl _ _).alloc (Nat.le_refl _) _⟩
   have e : iarr (s.take 0 ++ List.replicate (n - 0) 0) = madeCells #[.int .i64 0] n := (iarr_made n).symm
   rw [e]
   exact Blk.new w 3 _
  case round =>
   obtain ⟨wo, rfl⟩ : ∃ wo : World, wo = wr := ⟨_, rfl⟩
   obtain ⟨k, hk, rfl, B0, hbw⟩ := hrel
   by_cases hlt : k < n
   ·have hal : a.length = n := HA.out.1
    have hbl : b.length = n := HB.out.1
    have hr := HB.out.2.1 (b[k]'(by omega)) (List.getElem_mem _)
    obtain ⟨m, hm⟩ : ∃ m : Nat, b[k]'(by omega) = (m : Int) := ⟨(b[k]'(by omega)).toNat, by omega⟩
    have hmn : m < n := by omega
    have hsk := HSA.out k (by omega) (by omega) (by rw [HSL.out]; exact hlt)
    have hmt : (b[k]'(by omega)).toNat = m := by omega
    obtain ⟨bd, rfl, hcb⟩ := Ints.at (HBW.out.keep hbw) (show k < b.length by omega)
    obtain ⟨ad, rfl, hca⟩ := Ints.at (HAW.out.keep hbw) (show m < a.length by omega)
    rw [hm] at hcb
    have hl2 : (s.take k ++ List.replicate (n - k) 0).length = n := by
     have := HSL.out
     rw [List.length_append, List.length_take, List.length_replicate]; omega
    have HST : Hid ((s.take k ++ List.replicate (n - k) 0).set k (a[m]'(by omega)) = s.take (k + 1) ++ List.replicate (n - (k + 1)) 0) := Lib.hid (fill_set _ k _ _ HSL.out hlt (by rw [hsk]; simp only [hmt]))
    have c0 := B0.cell k
    have f0 := B0.frozen k
    rw [iarr_at _ (by rw [hl2]; exact hlt)] at c0
    generalize (s.take k ++ List.replicate (n - k) 0)[k]'(by rw [hl2]; exact hlt) = old at c0
    have HB0 := Lib.hid B0
    have q0 : (0 : Int) ≤ (k : Int) := by omega
    have q1 : (k : Int) < (n : Int) := by omega
    have q3 : ((k : Int)).toNat = k := by omega
    have p0 : (0 : Int) ≤ (m : Int) := by omega
    have p1 : (m : Int) < (n : Int) := by omega
    have p3 : ((m : Int)).toNat = m := by omega
    generalize a[m]'(by omega) = x at *
    clear hsk hmt hm hr
    clear B0 hl2 hal hbl
    go_wp2
    go_roundw
    case rel =>
     refine ⟨k + 1, by omega, by go_num, ?_, below_far hbw (Nat.le_refl _) _ _⟩
     have := HB0.out.set k (.int .i64 x)
     rw [iarr_set, HST.out] at this
     exact this
    case measure => simp [intOf]; omega
   ·obtain rfl : k = n := by omega
    rw [take_all_fill HSL.out] at B0
    have dk : decide ((k : Int) < (k : Int)) = false := by simp
    go_wp2
    go_ret
    exact ⟨rfl, B0, hbw⟩
theorem rprod_any (A B : Option Addr) (c d n : Nat) (a b : List Int) (w : World) (hA : Ints w A a) (hB : Ints w B b) (ha : Perm n a) (hb : Perm n b) (hn : n ≤ 6) :
    Calls Tryz.prog 53 #[.slice A n c, .slice B n d] w fun e w' => e = .returned (.slice (some ⟨w.heap.size, 0, none⟩) n n) ∧ Blk w' w.heap.size 3 (iarr (cmp a b)) ∧ Below w.heap.size w w' := by
  have HA := Lib.hid ha
  have HB := Lib.hid hb
  have HSL : Hid ((cmp a b).length = n) := Lib.hid (cmp_perm ha hb).1
  have HSA : Hid (∀ k (h2 : k < b.length) (h1 : (b[k]).toNat < a.length) (h3 : k < (cmp a b).length), (cmp a b)[k] = a[(b[k]).toNat]) := Lib.hid (fun k h2 h1 h3 => by simp [cmp, h1])
  have HAW := Lib.hid hA
  have HBW := Lib.hid hB
  have hmk := fun W => make_ints n n (Nat.le_refl _) (by omega) W
  clear ha hb hA hB
  generalize cmp a b = s at *
  go_enter Tryz.func53, Tryz.ntmps53
  go_wp2
  clear hmk
  go_loopw [6] (fun i wr => ∃ k : Nat, k ≤ n ∧ i = .int .i64 k ∧ Blk wr w.heap.size 3 (iarr (s.take k ++ List.replicate (n - k) 0)) ∧ Below w.heap.size w wr) (fun i _ => n - (intOf i).toNat)
  case atStart =>
   refine ⟨0, Nat.zero_le _, rfl, ?_, (Below.refl _ _).alloc (Nat.le_refl _) _⟩
   have e : iarr (s.take 0 ++ List.replicate (n - 0) 0) = madeCells #[.int .i64 0] n := (iarr_made n).symm
   rw [e]
   exact Blk.new w 3 _
  case round =>
   obtain ⟨wo, rfl⟩ : ∃ wo : World, wo = wr := ⟨_, rfl⟩
   obtain ⟨k, hk, rfl, B0, hbw⟩ := hrel
   by_cases hlt : k < n
   ·have hal : a.length = n := HA.out.1
    have hbl : b.length = n := HB.out.1
    have hr := HB.out.2.1 (b[k]'(by omega)) (List.getElem_mem _)
    obtain ⟨m, hm⟩ : ∃ m : Nat, b[k]'(by omega) = (m : Int) := ⟨(b[k]'(by omega)).toNat, by omega⟩
    have hmn : m < n := by omega
    have hsk := HSA.out k (by omega) (by omega) (by rw [HSL.out]; exact hlt)
    have hmt : (b[k]'(by omega)).toNat = m := by omega
    obtain ⟨bd, rfl, hcb⟩ := Ints.at (HBW.out.keep hbw) (show k < b.length by omega)
    obtain ⟨ad, rfl, hca⟩ := Ints.at (HAW.out.keep hbw) (show m < a.length by omega)
    rw [hm] at hcb
    have hl2 : (s.take k ++ List.replicate (n - k) 0).length = n := by
     have := HSL.out
     rw [List.length_append, List.length_take, List.length_replicate]; omega
    have HST : Hid ((s.take k ++ List.replicate (n - k) 0).set k (a[m]'(by omega)) = s.take (k + 1) ++ List.replicate (n - (k + 1)) 0) := Lib.hid (fill_set _ k _ _ HSL.out hlt (by rw [hsk]; simp only [hmt]))
    have c0 := B0.cell k
    have f0 := B0.frozen k
    rw [iarr_at _ (by rw [hl2]; exact hlt)] at c0
    generalize (s.take k ++ List.replicate (n - k) 0)[k]'(by rw [hl2]; exact hlt) = old at c0
    have HB0 := Lib.hid B0
    have q0 : (0 : Int) ≤ (k : Int) := by omega
    have q1 : (k : Int) < (n : Int) := by omega
    have q3 : ((k : Int)).toNat = k := by omega
    have p0 : (0 : Int) ≤ (m : Int) := by omega
    have p1 : (m : Int) < (n : Int) := by omega
    have p3 : ((m : Int)).toNat = m := by omega
    generalize a[m]'(by omega) = x at *
    clear hsk hmt hm hr
    clear B0 hl2 hal hbl
    go_wp2
    go_roundw
    case rel =>
     refine ⟨k + 1, by omega, by go_num, ?_, below_far hbw (Nat.le_refl _) _ _⟩
     have := HB0.out.set k (.int .i64 x)
     rw [iarr_set, HST.out] at this
     exact this
    case measure => simp [intOf]; omega
   ·obtain rfl : k = n := by omega
    rw [take_all_fill HSL.out] at B0
    have dk : decide ((k : Int) < (k : Int)) = false := by simp
    go_wp2
    go_ret
    exact ⟨rfl, B0, hbw⟩
end Go.Proofs.Tg.Gp
end
section
/- Is it a permutation: group, the reference 18 (printed by wip/tools/mk_valid.py). -/
namespace Go.Proofs.Tg.Gp
open Go.RowKit Go.Gr Go.Sp Go.Ev Go.Pm
open Go.Proofs.Tg.Gx (farr farr_set farr_made farr_congr make_bools)
set_option maxHeartbeats 4000000
set_option maxRecDepth 100000
def seenF (L : Nat) (a : List Int) (k : Nat) : Array Value := farr L fun i => .bool (decide ((i : Int) ∈ a.take k))
theorem seenF_zero (L : Nat) (a : List Int) : farr L (fun _ => .bool false) = seenF L a 0 := by
 unfold seenF
 exact farr_congr fun i _ => by simp
theorem seenF_at (L : Nat) (a : List Int) (k : Nat) {i : Nat} (h : i < L) : (seenF L a k)[i]? = some (.bool (decide ((i : Int) ∈ a.take k))) := by simp [seenF, farr, h]
theorem seenF_set {L : Nat} {a : List Int} {k m : Nat} (hk : k < a.length) (hm : a[k] = (m : Int)) : (seenF L a k).setIfInBounds m (.bool true) = seenF L a (k + 1) := by
 unfold seenF
 rw [farr_set]
 refine farr_congr fun i _ => ?_
 rw [List.take_succ_eq_append_getElem hk]
 by_cases hi : i = m
 ·rw [if_pos hi]
  exact congrArg Value.bool (decide_eq_true (List.mem_append_right _ (List.mem_singleton.2 (by omega)))).symm
 ·rw [if_neg hi]
  refine congrArg Value.bool (decide_eq_decide.2 ⟨fun h => List.mem_append_left _ h, fun h => ?_⟩)
  rcases List.mem_append.1 h with h | h
  ·exact h
  ·exact absurd (List.mem_singleton.1 h) (by omega)
theorem gvalid_any (A : Option Addr) (c : Nat) (a : List Int) (v : Bool) (w : World) (hA : Ints w A a) (hl : a.length ≤ 1000000) (hv : v = true ↔ a.length ≤ 6 ∧ Perm a.length a) :
    Calls Tryz.prog 74 #[.slice A a.length c] w fun e w' => e = .returned (.bool v) ∧ Below w.heap.size w w' := by
  have HV := Lib.hid hv
  have HAW := Lib.hid hA
  clear hv hA
  by_cases h6 : a.length ≤ 6
  ·have d6 : decide ((6 : Int) < (a.length : Int)) = false := decide_eq_false (by omega)
   go_enter Tryz.func74, Tryz.ntmps74
   go_wp2
   go_loopw [11] (fun i wr => ∃ k : Nat, k ≤ a.length ∧ i = .int .i64 k ∧ Hid (GoodP a k) ∧ Blk wr w.heap.size 136 (seenF 6 a k) ∧ Below w.heap.size w wr) (fun i _ => a.length - (intOf i).toNat)
   case atStart =>
    refine ⟨0, Nat.zero_le _, rfl, Lib.hid (GoodP.zero a), ?_, (Below.refl _ _).alloc (Nat.le_refl _) _⟩
    have e : #[Value.bool false, .bool false, .bool false, .bool false, .bool false, .bool false] = seenF 6 a 0 := by rw [← seenF_zero]; rfl
    rw [← e]
    exact Blk.new w 136 _
   case round =>
    obtain ⟨wo, rfl⟩ : ∃ wo : World, wo = wr := ⟨_, rfl⟩
    obtain ⟨k, hk, rfl, HG, B0, hbw⟩ := hrel
    by_cases hlt : k < a.length
    ·obtain ⟨ad, rfl, hca⟩ := Ints.at (HAW.out.keep hbw) hlt
     have q0 : (0 : Int) ≤ (k : Int) := by omega
     have q1 : (k : Int) < (a.length : Int) := by omega
     have q3 : ((k : Int)).toNat = k := by omega
     obtain ⟨x, hx⟩ : ∃ x, a[k] = x := ⟨_, rfl⟩
     rw [hx] at hca
     have HX := Lib.hid hx
     clear hx
     by_cases x0 : x < 0
     ·have d0 : decide (x < 0) = true := decide_eq_true x0
      obtain rfl : v = false := eq_false_of_ne_true (fun h => bad_range hlt (by rw [HX.out]; omega) (HV.out.1 h).2)
      go_wp2
      go_ret
      exact ⟨rfl, hbw⟩
     ·have d0 : decide (x < 0) = false := decide_eq_false x0
      by_cases x1 : (a.length : Int) ≤ x
      ·have d1 : decide ((a.length : Int) ≤ x) = true := decide_eq_true x1
       obtain rfl : v = false := eq_false_of_ne_true (fun h => bad_range hlt (by rw [HX.out]; omega) (HV.out.1 h).2)
       go_wp2
       go_ret
       exact ⟨rfl, hbw⟩
      ·have d1 : decide ((a.length : Int) ≤ x) = false := decide_eq_false x1
       obtain ⟨m, rfl⟩ : ∃ m : Nat, x = (m : Int) := ⟨x.toNat, by omega⟩
       have p0 : (0 : Int) ≤ (m : Int) := by omega
       have p1 : (m : Int) < (6 : Nat) := by omega
       have p1' : (m : Int) < 6 := by omega
       have p3 : ((m : Int)).toNat = m := by omega
       have c0 := B0.cell m
       have f0 := B0.frozen m
       rw [seenF_at _ _ _ (by omega)] at c0
       by_cases hs : (m : Int) ∈ a.take k
       ·rw [decide_eq_true hs] at c0
        obtain rfl : v = false := eq_false_of_ne_true (fun h => bad_twice hlt (by rw [HX.out]; exact hs) (HV.out.1 h).2)
        go_wp2
        go_ret
        exact ⟨rfl, hbw⟩
       ·rw [decide_eq_false hs] at c0
        have HG2 := Lib.hid (HG.out.succ hlt (by rw [HX.out]; omega) (by rw [HX.out]; omega) (by rw [HX.out]; exact hs))
        have HST := Lib.hid (seenF_set (L := 6) hlt HX.out)
        have HB0 := Lib.hid B0
        clear B0
        go_wp2
        go_roundw
        case rel =>
         refine ⟨k + 1, by omega, by go_num, HG2, ?_, below_far hbw (Nat.le_refl _) _ _⟩
         have := HB0.out.set m (.bool true)
         rw [HST.out] at this
         exact this
        case measure => simp [intOf]; omega
    ·obtain rfl : k = a.length := by omega
     obtain rfl : v = true := HV.out.2 ⟨h6, HG.out.perm⟩
     have dk : decide ((a.length : Int) < (a.length : Int)) = false := by simp
     go_wp2
     go_ret
     exact ⟨rfl, hbw⟩
  ·have d6 : decide ((6 : Int) < (a.length : Int)) = true := decide_eq_true (by omega)
   obtain rfl : v = false := eq_false_of_ne_true (fun h => h6 (HV.out.1 h).1)
   go_enter Tryz.func74, Tryz.ntmps74
   go_wp2
   go_ret
   exact ⟨rfl, Below.refl _ _⟩
theorem rvalid18_any (A : Option Addr) (c : Nat) (a : List Int) (v : Bool) (w : World) (hA : Ints w A a) (hl : a.length ≤ 1000000) (hv : v = true ↔ a.length ≤ 6 ∧ Perm a.length a) :
    Calls Tryz.prog 55 #[.slice A a.length c] w fun e w' => e = .returned (.bool v) ∧ Below w.heap.size w w' := by
  have HV := Lib.hid hv
  have HAW := Lib.hid hA
  clear hv hA
  by_cases h6 : a.length ≤ 6
  ·have d6 : decide ((6 : Int) < (a.length : Int)) = false := decide_eq_false (by omega)
   have hmk := fun W => make_bools a.length hl W
   go_enter Tryz.func55, Tryz.ntmps55
   go_wp2
   clear hmk
   go_loopw [4] (fun i wr => ∃ k : Nat, k ≤ a.length ∧ i = .int .i64 k ∧ Hid (GoodP a k) ∧ Blk wr w.heap.size 4 (seenF a.length a k) ∧ Below w.heap.size w wr) (fun i _ => a.length - (intOf i).toNat)
   case atStart =>
    refine ⟨0, Nat.zero_le _, rfl, Lib.hid (GoodP.zero a), ?_, (Below.refl _ _).alloc (Nat.le_refl _) _⟩
    rw [seenF_zero]
    exact Blk.new w 4 _
   case round =>
    obtain ⟨wo, rfl⟩ : ∃ wo : World, wo = wr := ⟨_, rfl⟩
    obtain ⟨k, hk, rfl, HG, B0, hbw⟩ := hrel
    by_cases hlt : k < a.length
    ·obtain ⟨ad, rfl, hca⟩ := Ints.at (HAW.out.keep hbw) hlt
     have q0 : (0 : Int) ≤ (k : Int) := by omega
     have q1 : (k : Int) < (a.length : Int) := by omega
     have q3 : ((k : Int)).toNat = k := by omega
     obtain ⟨x, hx⟩ : ∃ x, a[k] = x := ⟨_, rfl⟩
     rw [hx] at hca
     have HX := Lib.hid hx
     clear hx
     by_cases x0 : x < 0
     ·have d0 : decide (x < 0) = true := decide_eq_true x0
      obtain rfl : v = false := eq_false_of_ne_true (fun h => bad_range hlt (by rw [HX.out]; omega) (HV.out.1 h).2)
      go_wp2
      go_ret
      exact ⟨rfl, hbw⟩
     ·have d0 : decide (x < 0) = false := decide_eq_false x0
      by_cases x1 : (a.length : Int) ≤ x
      ·have d1 : decide ((a.length : Int) ≤ x) = true := decide_eq_true x1
       obtain rfl : v = false := eq_false_of_ne_true (fun h => bad_range hlt (by rw [HX.out]; omega) (HV.out.1 h).2)
       go_wp2
       go_ret
       exact ⟨rfl, hbw⟩
      ·have d1 : decide ((a.length : Int) ≤ x) = false := decide_eq_false x1
       obtain ⟨m, rfl⟩ : ∃ m : Nat, x = (m : Int) := ⟨x.toNat, by omega⟩
       have p0 : (0 : Int) ≤ (m : Int) := by omega
       have p1 : (m : Int) < (a.length : Nat) := by omega
       have p1' : (m : Int) < 6 := by omega
       have p3 : ((m : Int)).toNat = m := by omega
       have c0 := B0.cell m
       have f0 := B0.frozen m
       rw [seenF_at _ _ _ (by omega)] at c0
       by_cases hs : (m : Int) ∈ a.take k
       ·rw [decide_eq_true hs] at c0
        obtain rfl : v = false := eq_false_of_ne_true (fun h => bad_twice hlt (by rw [HX.out]; exact hs) (HV.out.1 h).2)
        go_wp2
        go_ret
        exact ⟨rfl, hbw⟩
       ·rw [decide_eq_false hs] at c0
        have HG2 := Lib.hid (HG.out.succ hlt (by rw [HX.out]; omega) (by rw [HX.out]; omega) (by rw [HX.out]; exact hs))
        have HST := Lib.hid (seenF_set (L := a.length) hlt HX.out)
        have HB0 := Lib.hid B0
        clear B0
        go_wp2
        go_roundw
        case rel =>
         refine ⟨k + 1, by omega, by go_num, HG2, ?_, below_far hbw (Nat.le_refl _) _ _⟩
         have := HB0.out.set m (.bool true)
         rw [HST.out] at this
         exact this
        case measure => simp [intOf]; omega
    ·obtain rfl : k = a.length := by omega
     obtain rfl : v = true := HV.out.2 ⟨h6, HG.out.perm⟩
     have dk : decide ((a.length : Int) < (a.length : Int)) = false := by simp
     go_wp2
     go_ret
     exact ⟨rfl, hbw⟩
  ·have d6 : decide ((6 : Int) < (a.length : Int)) = true := decide_eq_true (by omega)
   obtain rfl : v = false := eq_false_of_ne_true (fun h => h6 (HV.out.1 h).1)
   go_enter Tryz.func55, Tryz.ntmps55
   go_wp2
   go_ret
   exact ⟨rfl, Below.refl _ _⟩
end Go.Proofs.Tg.Gp
end
section
/- Ascending lists of lists: where an element lies or belongs; insertion. Plain. -/
namespace Go.Pm
open Go.Gr
theorem cmpL_self : ∀ x, cmpL x x = 0
  | [] => rfl
  | a :: l => by
    unfold cmpL
    rw [if_neg (by omega), if_neg (by omega)]
    exact cmpL_self l
theorem cmpL_tri : ∀ x y, cmpL x y < 0 ∨ x = y ∨ cmpL y x < 0
  | [], [] => .inr (.inl rfl)
  | [], _ :: _ => .inl (by simp [cmpL])
  | _ :: _, [] => .inr (.inr (by simp [cmpL]))
  | a :: l, b :: m => by
    by_cases h1 : a < b
    ·left; unfold cmpL; rw [if_pos h1]; omega
    ·by_cases h2 : b < a
     ·right; right; unfold cmpL; rw [if_pos h2]; omega
     ·have hab : a = b := by omega
      subst hab
      rcases cmpL_tri l m with h | h | h
      ·left; unfold cmpL; rw [if_neg h1, if_neg h1]; exact h
      ·right; left; rw [h]
      ·right; right; unfold cmpL; rw [if_neg h1, if_neg h1]; exact h
theorem lt_irr {x : List Int} : ¬ cmpL x x < 0 := by rw [cmpL_self]; omega
theorem lt_trans {x y z : List Int} (h1 : cmpL x y < 0) (h2 : cmpL y z < 0) : cmpL x z < 0 :=
  Classical.byContradiction fun h => cmpL_trans z x y h (cmpL_asym _ _ h1) h2
theorem le_iff {x y : List Int} : ¬ cmpL x y < 0 ↔ x = y ∨ cmpL y x < 0 := by
 constructor
 ·intro h
  rcases cmpL_tri x y with h1 | h1
  ·exact absurd h1 h
  ·exact h1
 ·rintro (rfl | h)
  ·exact lt_irr
  ·exact cmpL_asym _ _ h
def Asc (l : List (List Int)) : Prop := l.Pairwise fun a b => cmpL a b < 0
theorem Asc.nodup {l : List (List Int)} (h : Asc l) : l.Nodup := h.imp fun {a b} (hab : cmpL a b < 0) e => by rw [e] at hab; exact lt_irr hab
theorem Asc.lt {l : List (List Int)} (h : Asc l) {i j : Nat} (hi : i < l.length) (hj : j < l.length) (hij : i < j) : cmpL l[i] l[j] < 0 := List.pairwise_iff_getElem.1 h i j hi hj hij
/-- Neighbours in order are enough. -/
theorem asc_of {l : List (List Int)} (h : ∀ (i : Nat) (hi : i + 1 < l.length), cmpL (l[i]'(by omega)) l[i + 1] < 0) : Asc l := by
 refine List.pairwise_iff_getElem.2 fun i j hi hj hij => ?_
 obtain ⟨d, rfl⟩ : ∃ d, j = i + 1 + d := ⟨j - (i + 1), by omega⟩
 clear hij
 induction d with
 | zero => exact h i hj
 | succ d ih => exact lt_trans (ih (by omega)) (h (i + 1 + d) (by omega))
/-- Where an element lies or belongs. -/
def At (l : List (List Int)) (a : List Int) (m : Nat) : Prop := m ≤ l.length ∧ (∀ i (h : i < l.length), i < m → cmpL l[i] a < 0) ∧ (∀ i (h : i < l.length), m ≤ i → ¬ cmpL l[i] a < 0)
theorem At.found {l : List (List Int)} {a : List Int} {m : Nat} (h : At l a m) (hl : Asc l) : (∃ h : m < l.length, l[m] = a) ↔ a ∈ l := by
 constructor
 ·rintro ⟨h1, rfl⟩
  exact List.getElem_mem _
 ·intro ha
  obtain ⟨k, hk, rfl⟩ := List.getElem_of_mem ha
  have h1 : m ≤ k := Classical.byContradiction fun hlt => lt_irr (h.2.1 k hk (by omega))
  by_cases hmk : m = k
  ·subst hmk; exact ⟨hk, rfl⟩
  ·exact absurd (hl.lt (by omega) hk (by omega)) (h.2.2 m (by omega) (Nat.le_refl _))
theorem At.insert {l : List (List Int)} {a : List Int} {m : Nat} (h : At l a m) (hl : Asc l) (ha : a ∉ l) : Asc (l.take m ++ a :: l.drop m) := by
 have h1 : ∀ x ∈ l.take m, cmpL x a < 0 := fun x hx => by
  obtain ⟨i, hi, rfl⟩ := List.getElem_of_mem hx
  rw [List.length_take] at hi
  rw [List.getElem_take]
  exact h.2.1 i (by omega) (by omega)
 have h2 : ∀ x ∈ l.drop m, cmpL a x < 0 := fun x hx => by
  obtain ⟨i, hi, rfl⟩ := List.getElem_of_mem hx
  rw [List.length_drop] at hi
  rw [List.getElem_drop]
  rcases le_iff.1 (h.2.2 (m + i) (by omega) (by omega)) with e | e
  ·exact absurd (e ▸ List.getElem_mem _) ha
  ·exact e
 refine List.pairwise_append.2 ⟨List.Pairwise.sublist (List.take_sublist _ _) hl, List.pairwise_cons.2 ⟨h2, List.Pairwise.sublist (List.drop_sublist _ _) hl⟩, fun x hx y hy => ?_⟩
 rcases List.mem_cons.1 hy with rfl | hy
 ·exact h1 x hx
 ·exact lt_trans (h1 x hx) (h2 y hy)
theorem ins_mem {l : List (List Int)} {a x : List Int} {m : Nat} : x ∈ l.take m ++ a :: l.drop m ↔ x = a ∨ x ∈ l := by
 rw [List.mem_append, List.mem_cons]
 have e : x ∈ l ↔ x ∈ l.take m ∨ x ∈ l.drop m := by rw [← List.mem_append, List.take_append_drop]
 rw [e]
 constructor
 ·rintro (h | h | h)
  ·exact .inr (.inl h)
  ·exact .inl h
  ·exact .inr (.inr h)
 ·rintro (h | h | h)
  ·exact .inr (.inl h)
  ·exact .inl h
  ·exact .inr (.inr h)
/-- A list without repetitions within a list that is no longer has all of its elements. -/
theorem full_of {α : Type} {l S : List α} (hn : l.Nodup) (hs : ∀ x ∈ l, x ∈ S) (hl : S.length ≤ l.length) : ∀ x ∈ S, x ∈ l := by
 classical
 intro x hx
 apply Classical.byContradiction
 intro hne
 have h1 : (x :: l).Nodup := List.nodup_cons.2 ⟨hne, hn⟩
 have h2 : (x :: l) ⊆ S := fun y hy => by
  rcases List.mem_cons.1 hy with rfl | hy
  ·exact hx
  ·exact hs y hy
 have := h1.length_le_of_subset h2
 simp at this
 omega
end Go.Pm
end
