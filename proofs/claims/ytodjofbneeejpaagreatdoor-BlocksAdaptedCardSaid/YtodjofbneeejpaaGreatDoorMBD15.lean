/- Parts of the proof: WGB, WGC, WGD. -/
import Derived.Test.YtodjofbneeejpaaGreatDoorMBD7
import Derived.Test.YtodjofbneeejpaaGreatDoorMBD8
import Derived.Test.YtodjofbneeejpaaGreatDoorMBD14
section
/- The reference 19: involution, find, products. -/
namespace Go.Proofs.Tg.Gp
open Go.RowKit Go.Gr Go.Sp Go.Ev Go.Pm
set_option maxHeartbeats 2000000
set_option maxRecDepth 100000
theorem rinvol_any (A : Option Addr) (c : Nat) (a : List Int) (v : Bool) (w : World) (hA : Ints w A a) (hl : a.length ≤ 1000000) (hv : v = true ↔ Invo a) :
    Calls Tryz.prog 28 #[.slice A a.length c] w fun e w' => e = .returned (.bool v) ∧ Below w.heap.size w w' := by
  by_cases hp : a.length ≤ 6 ∧ Perm a.length a
  ·have HV := Lib.hid (rvalid18_any A c a true w hA hl ⟨fun _ => hp, fun _ => rfl⟩)
   have HUN := Lib.hid (fun V => runit_any a.length V hp.1)
   have HPR : Hid (∀ V, Below w.heap.size w V → Calls Tryz.prog 53 #[.slice A a.length c, .slice A a.length c] V fun e w' => e = .returned (.slice (some ⟨V.heap.size, 0, none⟩) a.length a.length) ∧ Blk w' V.heap.size 3 (iarr (cmp a a)) ∧ Below V.heap.size V w') := Lib.hid (fun V h => rprod_any A A c c a.length a a V (hA.keep h) (hA.keep h) hp.2 hp.2 hp.1)
   have hcl := (cmp_perm hp.2 hp.2).1
   by_cases h1 : a = unit a.length
   ·obtain rfl : v = false := eq_false_of_ne_true (fun h => (hv.1 h).2.2.1 h1)
    have HEQ : Hid (∀ V g, Below w.heap.size w V → Blk V g 3 (iarr (unit a.length)) → Calls Tryz.prog 56 #[.slice A a.length c, .slice (some ⟨g, 0, none⟩) a.length a.length] V fun e w' => e = .returned (.bool true) ∧ Below V.heap.size V w') := Lib.hid (fun V g h hg => by
     have := seq_any A (some ⟨g, 0, none⟩) a (unit a.length) c a.length V (hA.keep h) (ints_blk hg (unit_len _) hp.1) hl true (decide_eq_true h1)
     rw [unit_len] at this
     exact this.mono fun e w' h2 => ⟨h2.1, h2.2.below⟩)
    clear hp hcl h1 hv hA
    generalize a.length = n at *
    go_enter Tryz.func28, Tryz.ntmps28
    go_wp2_with (first
      | (go_at_call 55; refine HV.out.mono ?_; rintro e w1 ⟨rfl, hb1⟩)
      | (go_at_call 52; refine (HUN.out _).mono ?_; rintro e w2 ⟨rfl, hG2, hb2⟩; have hb12 := below_all hb1 hb2)
      | (go_at_call 56; refine (HEQ.out _ _ hb12 hG2).mono ?_; rintro e w3 ⟨rfl, hb3⟩))
    go_ret
    exact ⟨rfl, below_all hb12 hb3⟩
   ·have HEQ : Hid (∀ V g, Below w.heap.size w V → Blk V g 3 (iarr (unit a.length)) → Calls Tryz.prog 56 #[.slice A a.length c, .slice (some ⟨g, 0, none⟩) a.length a.length] V fun e w' => e = .returned (.bool false) ∧ Below V.heap.size V w') := Lib.hid (fun V g h hg => by
     have := seq_any A (some ⟨g, 0, none⟩) a (unit a.length) c a.length V (hA.keep h) (ints_blk hg (unit_len _) hp.1) hl false (decide_eq_false h1)
     rw [unit_len] at this
     exact this.mono fun e w' h2 => ⟨h2.1, h2.2.below⟩)
    have hvv : decide (cmp a a = unit a.length) = v := by
     cases v with
     | true => exact decide_eq_true (hv.1 rfl).2.2.2
     | false => exact decide_eq_false (fun h => by have := hv.2 ⟨hp.1, hp.2, h1, h⟩; cases this)
    have HEQ2 : Hid (∀ V gp g, Blk V gp 3 (iarr (cmp a a)) → Blk V g 3 (iarr (unit a.length)) → Calls Tryz.prog 56 #[.slice (some ⟨gp, 0, none⟩) a.length a.length, .slice (some ⟨g, 0, none⟩) a.length a.length] V fun e w' => e = .returned (.bool v) ∧ Below V.heap.size V w') := Lib.hid (fun V gp g h hg => by
     have := seq_any (some ⟨gp, 0, none⟩) (some ⟨g, 0, none⟩) (cmp a a) (unit a.length) a.length a.length V (ints_blk h hcl hp.1) (ints_blk hg (unit_len _) hp.1) (by omega) v hvv
     rw [unit_len, hcl] at this
     exact this.mono fun e w' h2 => ⟨h2.1, h2.2.below⟩)
    clear hp hcl h1 hv hA hvv
    generalize cmp a a = s at *
    generalize a.length = n at *
    go_enter Tryz.func28, Tryz.ntmps28
    go_wp2_with (fail)
    refine HV.out.mono ?_
    rintro e w1 ⟨rfl, hb1⟩
    go_wp2_with (fail)
    refine (HUN.out _).mono ?_
    rintro e w2 ⟨rfl, hG2, hb2⟩
    have hb2 := below_all hb1 hb2
    go_wp2_with (fail)
    refine (HEQ.out _ _ hb2 hG2).mono ?_
    rintro e w3 ⟨rfl, hb3⟩
    have hb3 := below_all hb2 hb3
    go_wp2_with (fail)
    refine (HPR.out _ hb3).mono ?_
    rintro e w4 ⟨rfl, hG4, hb4⟩
    have hb4' := below_all hb3 hb4
    go_wp2_with (fail)
    refine (HUN.out _).mono ?_
    rintro e w5 ⟨rfl, hG5, hb5⟩
    have hb5' := below_all hb4' hb5
    have hG4 := hG4.keep hb5 hG4.lt
    go_wp2_with (fail)
    refine (HEQ2.out _ _ _ hG4 hG5).mono ?_
    rintro e w6 ⟨rfl, hb6⟩
    go_wp2_with (fail)
    go_ret
    exact ⟨rfl, below_all hb5' hb6⟩
  ·have HV := Lib.hid (rvalid18_any A c a false w hA hl (Iff.intro (fun h => by cases h) (fun h => absurd h hp)))
   obtain rfl : v = false := eq_false_of_ne_true (fun h => hp ⟨(hv.1 h).1, (hv.1 h).2.1⟩)
   clear hv hA hp
   go_enter Tryz.func28, Tryz.ntmps28
   go_wp2_with (go_at_call 55; refine HV.out.mono ?_; rintro e w1 ⟨rfl, hb1⟩)
   go_ret
   exact ⟨rfl, hb1⟩
/-- Where an element first stands, or -1. -/
def findI (l : List (List Int)) (m : List Int) : Int := if m ∈ l then (l.idxOf m : Nat) else -1
theorem idx_first {l : List (List Int)} {m : List Int} {i : Nat} (hi : i < l.length) (he : l[i] = m) (hn : ∀ j (h : j < l.length), j < i → l[j] ≠ m) : l.idxOf m = i := by
 induction l generalizing i with
 | nil => simp at hi
 | cons a l ih =>
   cases i with
   | zero =>
     have : a = m := he
     simp [this]
   | succ i =>
     have hb : (a == m) = false := beq_eq_false_iff_ne.2 (hn 0 (by simp) (by omega))
     rw [List.idxOf_cons, hb, ih (by simpa using hi) he (fun j h hj => hn (j + 1) (by simpa using h) (by omega))]
     rfl
theorem find_any (L : Option Addr) (cL : Nat) (l : List (List Int)) (A : Option Addr) (c : Nat) (m : List Int) (w : World) (hL : Lists w L l) (hA : Ints w A m) (hl : l.length ≤ 1000000) (hll : ∀ x ∈ l, x.length ≤ 1000) :
    Calls Tryz.prog 38 #[.slice L l.length cL, .slice A m.length c] w fun e w' => e = .returned (.int .i64 (findI l m)) ∧ Below w.heap.size w w' := by
  have HL := Lib.hid hL
  have HA := Lib.hid hA
  have HLL := Lib.hid hll
  clear hL hA hll
  go_enter Tryz.func38, Tryz.ntmps38
  go_wp2
  go_loopw [5] (fun s5 wr => ∃ k : Nat, s5 = .int .i64 k ∧ k ≤ l.length ∧ Hid (∀ j (h : j < l.length), j < k → l[j] ≠ m) ∧ Below w.heap.size w wr) (fun s5 _ => l.length - (intOf s5).toNat)
  case atStart => exact ⟨0, rfl, Nat.zero_le _, Lib.hid (fun j _ h => absurd h (by omega)), Below.refl _ _⟩
  case round =>
   obtain ⟨wo, rfl⟩ : ∃ wo : World, wo = wr := ⟨_, rfl⟩
   obtain ⟨k, rfl, hk, HN, hbo⟩ := hrel
   by_cases hkl : k < l.length
   ·obtain ⟨ad, E, ce, rfl, hc, hE⟩ := (HL.out.keep hbo).at hkl
    have q0 : (0 : Int) ≤ (k : Int) := by omega
    have q1 : (k : Int) < (l.length : Int) := by omega
    have q3 : ((k : Int)).toNat = k := by omega
    have hxl := HLL.out l[k] (List.getElem_mem _)
    by_cases he : l[k] = m
    ·have HEQ := Lib.hid (seq_any E A l[k] m ce c wo hE (HA.out.keep hbo) (by omega) true (decide_eq_true he))
     have HF : Hid (findI l m = (k : Int)) := Lib.hid (by
      unfold findI
      rw [if_pos (by rw [← he]; exact List.getElem_mem _), idx_first hkl he HN.out])
     clear he hE
     generalize l[k] = x at *
     go_wp2_with (go_at_call 56; refine HEQ.out.mono ?_; rintro e w1 ⟨rfl, hd1⟩)
     go_ret
     exact ⟨by rw [HF.out]; rfl, below_all hbo hd1.below⟩
    ·have HEQ := Lib.hid (seq_any E A l[k] m ce c wo hE (HA.out.keep hbo) (by omega) false (decide_eq_false he))
     have HN2 : Hid (∀ j (h : j < l.length), j < k + 1 → l[j] ≠ m) := Lib.hid (fun j h hj => by
      by_cases hjk : j = k
      ·subst hjk; exact he
      ·exact HN.out j h (by omega))
     clear he hE
     generalize l[k] = x at hc HEQ hxl
     go_wp2_with (go_at_call 56; refine HEQ.out.mono ?_; rintro e w1 ⟨rfl, hd1⟩)
     go_roundw
     case rel => exact ⟨k + 1, by go_num, by omega, HN2, below_all hbo hd1.below⟩
     case measure => simp [intOf]; omega
   ·obtain rfl : k = l.length := by omega
    have HF : Hid (findI l m = -1) := Lib.hid (by
     unfold findI
     rw [if_neg (fun h => by
      obtain ⟨j, hj, he⟩ := List.getElem_of_mem h
      exact HN.out j hj hj he)])
    have dk : decide ((l.length : Int) < (l.length : Int)) = false := by simp
    go_wp2
    go_ret
    exact ⟨by rw [HF.out]; rfl, hbo⟩
end Go.Proofs.Tg.Gp
end
section
/- The reference 19: the products of all subsets (printed by wip/tools/mk_prods.py). -/
namespace Go.Proofs.Tg.Gp
open Go.RowKit Go.Gr Go.Sp Go.Ev Go.Pm
set_option maxHeartbeats 2000000
set_option maxRecDepth 100000
/-- What the products' outer loop holds. -/
structure PrSt (w : World) (n : Nat) (P : List (List Int)) (wr : World) (v : Value) (rs : List PRow) : Prop where
  below : Below w.heap.size w wr
  rows : RowsB wr rs
  que : Que wr w.heap.size 22 v (rs.map (cellP n))
  eq : rs.map Prod.snd = P
theorem products_any (L : Option Addr) (cL n : Nat) (l : List (List Int)) (w : World) (hL : Lists w L l) (hp : ∀ a ∈ l, Perm n a) (hn : n ≤ 6) (hl : l.length ≤ 6) :
    Calls Tryz.prog 58 #[.slice L l.length cL, .int .i64 n] w fun e w' => ∃ A c, e = .returned (.slice A (prods n l).length c) ∧ Lists w' A (prods n l) ∧ Below w.heap.size w w' := by
  have HL := Lib.hid hL
  have HP := Lib.hid hp
  have HUN := Lib.hid (fun V => runit_any n V hn)
  have HPP : Hid (∀ i, ∀ p ∈ prods n (l.take i), Perm n p) := Lib.hid (fun i => prods_perm fun a ha => hp a (List.mem_of_mem_take ha))
  have HPL : Hid (∀ i, i ≤ l.length → (prods n (l.take i)).length = 2 ^ i) := Lib.hid (fun i hi => by rw [prods_len, List.length_take, Nat.min_eq_left hi])
  have HPS : Hid (∀ i (h : i < l.length), prods n (l.take (i + 1)) = prods n (l.take i) ++ (prods n (l.take i)).map (cmp l[i])) := Lib.hid (fun i h => by rw [List.take_succ_eq_append_getElem h, prods_snoc])
  obtain ⟨j0, hj0, hjz0, hjz1, hjz2⟩ := info_parts prow_info
  clear hL hp
  go_enter Tryz.func58, Tryz.ntmps58
  go_wp2_with (go_at_call 52; refine (HUN.out _).mono ?_; rintro e w1 ⟨rfl, hG1, hb1⟩)
  have hal := Below.alloc (Below.refl w1.heap.size w1) (Nat.le_refl _) (.cells #[.slice (some ⟨w.heap.size, 0, none⟩) n n] 22)
  have hQ := Que.of_blk (base := w.heap.size) (xs := [cellP n (w.heap.size, unit n)]) (Blk.new w1 22 #[.slice (some ⟨w.heap.size, 0, none⟩) n n]) hb1.size (by simp [maxLen])
  have hGx := hG1.keep hal hG1.lt
  have hbx := below_all hb1 hal
  clear hG1 hb1 hal HUN
  generalize w1.alloc (.cells #[.slice (some ⟨w.heap.size, 0, none⟩) n n] 22) = W at *
  generalize w1.heap.size = gq at *
  go_loopw [6, 5] (fun s6 s5 wr => ∃ (i : Nat) (rs : List PRow), s6 = .int .i64 i ∧ i ≤ l.length ∧ Hid (PrSt w n (prods n (l.take i)) wr s5 rs)) (fun s6 _ _ => l.length - (intOf s6).toNat)
  case atStart => exact ⟨0, [(w.heap.size, unit n)], rfl, Nat.zero_le _, Lib.hid ⟨hbx, fun r hr => by rw [List.mem_singleton.1 hr]; exact hGx, hQ, by simp [prods_nil]⟩⟩
  case round =>
   clear hbx hGx hQ
   obtain ⟨wo, rfl⟩ : ∃ wo : World, wo = wr := ⟨_, rfl⟩
   obtain ⟨i, rs, rfl, hi, HST⟩ := hrel
   by_cases hil : i < l.length
   ·have HSU := Lib.hid (HPS.out i hil)
    have HLN := Lib.hid (HPL.out i hi)
    have HPi := Lib.hid (HPP.out i)
    generalize prods n (l.take i) = P at *
    go_wp2
    go_loopw [7, 5] (fun s7 s5 wr => ∃ (s : Nat) (rs : List PRow), s7 = .int .i64 s ∧ s ≤ P.length ∧ Hid (PrSt w n (P ++ (P.take s).map (cmp l[i])) wr s5 rs)) (fun s7 _ _ => P.length - (intOf s7).toNat)
    case atStart => exact ⟨0, rs, rfl, Nat.zero_le _, by simpa using HST⟩
    case round =>
     clear HST
     obtain ⟨wi, rfl⟩ : ∃ wi : World, wi = wr := ⟨_, rfl⟩
     obtain ⟨s, rs, rfl, hs, HST⟩ := hrel
     have hpw : P.length ≤ 32 := by
      rw [HLN.out]
      have : 2 ^ i ≤ 2 ^ 5 := Nat.pow_le_pow_right (by omega) (by omega)
      exact this
     have hsh : wrap64 ((2 : Int) ^ i) = (P.length : Int) := by
      have e : (2 : Int) ^ i = ((P.length : Nat) : Int) := by rw [HLN.out]; simp
      rw [e]
      unfold wrap64
      omega
     have hbi := HST.out.below
     by_cases hsl : s < P.length
     ·obtain ⟨ad, E, ce, rfl, hcw, hE⟩ := HL.out.at hil
      have s1 := keep_cell hbi hcw
      have hpa := HP.out l[i] (List.getElem_mem _)
      obtain ⟨od, cap, rfl, hSl, hod, hspot⟩ := HST.out.que.sl
      have hrl : rs.length = P.length + s := by
       have := congrArg List.length HST.out.eq
       rw [List.length_map, List.length_append, List.length_map, List.length_take] at this
       omega
      have hsr : s < rs.length := by omega
      obtain ⟨od', hod', s2'⟩ := Sl.at1 hSl (show s < (rs.map (cellP n)).length by simpa using hsr)
      injection hod' with hod'
      subst hod'
      have hrs : rs[s].2 = P[s] := by
       have h1 : (rs.map Prod.snd)[s]? = some P[s] := by rw [HST.out.eq, List.getElem?_append_left hsl, List.getElem?_eq_getElem hsl]
       rw [List.getElem?_map, List.getElem?_eq_getElem hsr] at h1
       simpa using h1
      have hrb := HST.out.rows rs[s] (List.getElem_mem _)
      have hps := HPi.out P[s] (List.getElem_mem _)
      have s2 : wi.cell? (od.add s) = some (.slice (some ⟨(rs[s]).1, 0, none⟩) n n) := by simpa [cellP] using s2'
      clear s2'
      have HPR : Hid (∀ V, Below wi.heap.size wi V → Calls Tryz.prog 53 #[.slice E n ce, .slice (some ⟨(rs[s]).1, 0, none⟩) n n] V fun e w' => ∃ g, e = .returned (.slice (some ⟨g, 0, none⟩) n n) ∧ Blk w' g 3 (iarr (cmp l[i] P[s])) ∧ Below V.heap.size V w') := Lib.hid (fun V h => by
       rw [hrs] at hrb
       exact (rprod_any E (some ⟨(rs[s]).1, 0, none⟩) ce n n l[i] P[s] V ((hE.keep hbi).keep h) ((ints_blk hrb hps.1 hn).keep h) hpa hps hn).mono fun e w' ⟨h1, h2, h3⟩ => ⟨_, h1, h2, h3⟩)
      have HNX : Hid (P ++ (P.take (s + 1)).map (cmp l[i]) = P ++ (P.take s).map (cmp l[i]) ++ [cmp l[i] P[s]]) := Lib.hid (by rw [List.take_succ_eq_append_getElem hsl, List.map_append, List.append_assoc]; rfl)
      rw [hpa.1] at s1
      have q0 : (0 : Int) ≤ (i : Int) := by omega
      have q1 : (i : Int) < (l.length : Int) := by omega
      have q3 : ((i : Int)).toNat = i := by omega
      have r0 : (0 : Int) ≤ (s : Int) := by omega
      have r1 : (s : Int) < ((rs.map (cellP n)).length : Int) := by simp; omega
      have r1' : (s : Int) < (rs.length : Int) := by omega
      have r1'' : s < rs.length := hsr
      have r3 : ((s : Int)).toNat = s := by omega
      rw [List.length_map]
      have hrle : rs.length ≤ 64 := by omega
      clear hrs hrb hps hpa hE hSl hrl
      generalize rs[s].1 = gs at *
      generalize cmp l[i] P[s] = z at *
      go_upto_region 8 with (fail)
      have BZ : Below wi.heap.size wi wi.drew := (Below.refl _ _).drew
      refine wp_region_held_drew (S := (fun w' => w'.cell? (ad.add i) = some (.slice E n ce) ∧ w'.cell? (od.add s) = some (.slice (some ⟨gs, 0, none⟩) n n))) (by kernel_rfl) ⟨s1, s2⟩ (fun hHeld => ?_)
      generalize wi.drew = Z at *
      refine wpAnyH_get 0 (some 23) (.slice (some od) rs.length cap) rfl rfl (by kernel_rfl) (by kernel_rfl) (by kernel_rfl) (fun _ _ _ h => h) (by rfl) hHeld ?_ ?_
      ·(intro w hSw; (try dsimp only at hSw); go_simp; all_goals (try with_reducible rfl))
      (try simp only [Act.put, List.setIfInBounds_toArray, List.set_cons_zero, List.set_cons_succ])
      refine wpAnyH_get 1 (some 24) (.slice (some ad) l.length cL) rfl rfl (by kernel_rfl) (by kernel_rfl) (by kernel_rfl) (fun _ _ _ h => h) (by rfl) hHeld ?_ ?_
      ·(intro w hSw; (try dsimp only at hSw); go_simp; all_goals (try with_reducible rfl))
      (try simp only [Act.put, List.setIfInBounds_toArray, List.set_cons_zero, List.set_cons_succ])
      refine wpAnyH_get 2 (some 25) (.int .i64 i) rfl rfl (by kernel_rfl) (by kernel_rfl) (by kernel_rfl) (fun _ _ _ h => h) (by rfl) hHeld ?_ ?_
      ·(intro w hSw; (try dsimp only at hSw); go_simp; all_goals (try with_reducible rfl))
      (try simp only [Act.put, List.setIfInBounds_toArray, List.set_cons_zero, List.set_cons_succ])
      refine wpAnyH_get 3 (some 26) (.pointer (some (ad.add i))) rfl rfl (by kernel_rfl) (by kernel_rfl) (by kernel_rfl) (fun _ _ _ h => h) (by rfl) hHeld ?_ ?_
      ·(intro w hSw; (try dsimp only at hSw); go_simp; all_goals (try with_reducible rfl))
      (try simp only [Act.put, List.setIfInBounds_toArray, List.set_cons_zero, List.set_cons_succ])
      refine wpAnyH_get 4 (some 27) (.slice E n ce) rfl rfl (by kernel_rfl) (by kernel_rfl) (by kernel_rfl) (fun _ _ _ h => h) (by rfl) hHeld ?_ ?_
      ·(intro w hSw; (try dsimp only at hSw); go_simp; all_goals (try with_reducible rfl))
      (try simp only [Act.put, List.setIfInBounds_toArray, List.set_cons_zero, List.set_cons_succ])
      refine wpAnyH_get 5 (some 28) (.slice (some od) rs.length cap) rfl rfl (by kernel_rfl) (by kernel_rfl) (by kernel_rfl) (fun _ _ _ h => h) (by rfl) hHeld ?_ ?_
      ·(intro w hSw; (try dsimp only at hSw); go_simp; all_goals (try with_reducible rfl))
      (try simp only [Act.put, List.setIfInBounds_toArray, List.set_cons_zero, List.set_cons_succ])
      refine wpAnyH_get 6 (some 29) (.int .i64 s) rfl rfl (by kernel_rfl) (by kernel_rfl) (by kernel_rfl) (fun _ _ _ h => h) (by rfl) hHeld ?_ ?_
      ·(intro w hSw; (try dsimp only at hSw); go_simp; all_goals (try with_reducible rfl))
      (try simp only [Act.put, List.setIfInBounds_toArray, List.set_cons_zero, List.set_cons_succ])
      refine wpAnyH_get 7 (some 30) (.pointer (some (od.add s))) rfl rfl (by kernel_rfl) (by kernel_rfl) (by kernel_rfl) (fun _ _ _ h => h) (by rfl) hHeld ?_ ?_
      ·(intro w hSw; (try dsimp only at hSw); go_simp; all_goals (try with_reducible rfl))
      (try simp only [Act.put, List.setIfInBounds_toArray, List.set_cons_zero, List.set_cons_succ])
      refine wpAnyH_get 8 (some 31) (.slice (some ⟨gs, 0, none⟩) n n) rfl rfl (by kernel_rfl) (by kernel_rfl) (by kernel_rfl) (fun _ _ _ h => h) (by rfl) hHeld ?_ ?_
      ·(intro w hSw; (try dsimp only at hSw); go_simp; all_goals (try with_reducible rfl))
      (try simp only [Act.put, List.setIfInBounds_toArray, List.set_cons_zero, List.set_cons_succ])
      refine wpAnyH_ready (rs := [9]) (by kernel_rfl) (by simp) ?_
      refine AllReadyH.cons rfl (fun K hK => ?_) AllReadyH.nil
      go_simp
      refine (HPR.out _ BZ).mono ?_
      rintro e w1 ⟨g1, rfl, hG1, hb1⟩
      (try go_simp)
      have BZ := below_all BZ hb1
      refine hK.out _ _ ⟨keep_cell BZ s1, keep_cell BZ s2⟩ (fun hHeld => ?_)
      clear hK K hb1
      (try simp only [Act.put, List.setIfInBounds_toArray, List.set_cons_zero, List.set_cons_succ])
      refine wpAnyH_ready (rs := [10]) (by kernel_rfl) (by simp) ?_
      refine AllReadyH.cons rfl (fun K hK => ?_) AllReadyH.nil
      go_simp
      have hal1 := Below.alloc (Below.refl w1.heap.size w1) (Nat.le_refl _) (.cells #[.slice (some ⟨g1, 0, none⟩) n n] 22)
      have hGn := (Blk.new w1 22 #[.slice (some ⟨g1, 0, none⟩) n n]).cell 0
      have BZ := below_all BZ hal1
      have hG1 := hG1.keep hal1 hG1.lt
      refine hK.out _ _ ⟨keep_cell BZ s1, keep_cell BZ s2⟩ (fun hHeld => ?_)
      clear hK K hal1
      (try simp only [Act.put, List.setIfInBounds_toArray, List.set_cons_zero, List.set_cons_succ])
      generalize w1.alloc (.cells #[.slice (some ⟨g1, 0, none⟩) n n] 22) = W2 at *
      generalize w1.heap.size = gn at *
      (try simp only [Act.put, List.setIfInBounds_toArray, List.set_cons_zero, List.set_cons_succ])
      refine wpAnyH_ready (rs := [11]) (by kernel_rfl) (by simp) ?_
      refine AllReadyH.cons rfl (fun K hK => ?_) AllReadyH.nil
      have hQ2 := HST.out.que.below BZ
      have hR2 := HST.out.rows.keep BZ
      have hb2 := below_all hbi BZ
      refine step_que_append _ (by rfl) _ _ 23 (by rfl) w.heap.size 22 j0 (.slice none 0 0) 24 Tryz.underlying23 hj0 hjz0 hjz1 hjz2 rfl (.slice (some od) rs.length cap) (rs.map (cellP n)) (by simp [Act.eval]) (by simpa using hQ2) ⟨gn, 0, none⟩ 1 (.slice (some ⟨g1, 0, none⟩) n n) (by simp [Act.eval]) hGn (by simp [Value.oneCell']) (by simp [maxLen]; omega) (by simp; omega) hb2.size ?_
      intro v8 w8 hQN hg8 _ hkeep
      have hoq := hQ2.blk
      have hRN := (hR2.grown hQ2 (by simpa using hg8)).snoc (hG1.grown hg8 (by have := hQ2.ne hG1 (by decide); simpa using this))
      have hbN := hb2.grown hg8 hb2.size (fun q hq => by
       have h1 : od.block = q := by simpa [Value.ownBlock] using hq
       omega)
      have t1 : w8.cell? (ad.add i) = some (.slice E n ce) := hg8.cell (keep_cell BZ s1) (fun e => by
       rw [add_block] at e
       have h1 : ad.block = od.block := by simpa [Value.ownBlock] using e
       have h2 := World.block_lt_of_cell? w _ hcw
       rw [add_block] at h2
       omega)
      have t2 : w8.cell? (od.add s) = some (.slice (some ⟨gs, 0, none⟩) n n) := by
       have h1 := (hkeep od _ _ rfl).2 (od.off + s) (by simp; omega)
       rw [spot_add hspot]
       rw [h1, ← spot_add hspot]
       exact keep_cell BZ s2
      refine hK.out _ _ ⟨t1, t2⟩ (fun hHeld => ?_)
      clear hK K
      (try simp only [Act.put, List.setIfInBounds_toArray, List.set_cons_zero, List.set_cons_succ])
      refine wpAnyH_get 12 (some 5) (v8) rfl rfl (by kernel_rfl) (by kernel_rfl) (by kernel_rfl) (fun _ _ _ h => h) (by rfl) hHeld ?_ ?_
      ·(intro w hSw; (try dsimp only at hSw); go_simp; all_goals (try with_reducible rfl))
      (try simp only [Act.put, List.setIfInBounds_toArray, List.set_cons_zero, List.set_cons_succ])
      refine wpAnyH_done (by kernel_rfl) ?_ _
      go_wp2
      go_roundw
      case rel =>
       exact ⟨s + 1, rs ++ [(g1, z)], by go_num, by omega, Lib.hid ⟨hbN, hRN, by rw [List.map_append]; exact hQN, by rw [List.map_append, HST.out.eq, HNX.out]; rfl⟩⟩
      case measure => simp [intOf]; omega
     ·obtain rfl : s = P.length := by omega
      have he := HST.out
      rw [List.take_length, ← HSU.out] at he
      have HE := Lib.hid he
      clear he
      have dk : decide ((P.length : Int) < (P.length : Int)) = false := by simp
      go_wp2
      go_roundw
      case rel => exact ⟨i + 1, rs, by go_num, by omega, HE⟩
      case measure => simp [intOf]; omega
   ·obtain rfl : i = l.length := by omega
    rw [List.take_length] at HST
    have hrn : ∀ r ∈ rs, r.2.length = n := fun r hr => by
     have h1 : r.2 ∈ rs.map Prod.snd := List.mem_map.2 ⟨r, hr, rfl⟩
     rw [HST.out.eq] at h1
     have := HPP.out l.length r.2 (by rw [List.take_length]; exact h1)
     exact this.1
    obtain ⟨od, cap, rfl, hSl, _⟩ := HST.out.que.sl
    rw [List.length_map] at hSl
    have hLs := lists_rows hSl HST.out.rows hn hrn
    rw [HST.out.eq] at hLs
    have hlen : rs.length = (prods n l).length := by rw [← HST.out.eq, List.length_map]
    have HF : Hid (∃ A c, Value.slice (some od) (rs.map (cellP n)).length cap = .slice A (prods n l).length c ∧ Lists wo A (prods n l)) := Lib.hid ⟨some od, cap, by rw [List.length_map, hlen], hLs⟩
    have dk : decide ((l.length : Int) < (l.length : Int)) = false := by simp
    have hbF := HST.out.below
    clear hrn hSl hLs hlen
    go_wp2
    go_ret
    obtain ⟨A, c, h1, h2⟩ := HF.out
    exact ⟨A, c, (by rw [← h1]; rfl), h2, hbF⟩
end Go.Proofs.Tg.Gp
end
section
/- The reference 19: independent (printed by wip/tools/mk_indep.py). -/
namespace Go.Proofs.Tg.Gp
open Go.RowKit Go.Gr Go.Sp Go.Ev Go.Pm
set_option maxHeartbeats 2000000
set_option maxRecDepth 100000
theorem findI_at {l : List (List Int)} (hn : l.Nodup) {i : Nat} (h : i < l.length) : findI l l[i] = (i : Int) := by
 unfold findI
 rw [if_pos (List.getElem_mem _), idx_first h rfl (fun j hj hji he => List.pairwise_iff_getElem.1 hn j i hj h hji he)]
theorem nodup_find {l : List (List Int)} (h : ∀ i (hi : i < l.length), findI l l[i] = (i : Int)) : l.Nodup := by
 refine List.pairwise_iff_getElem.2 fun i j hi hj hij he => ?_
 have h1 := h i hi
 have h2 := h j hj
 rw [he] at h1
 omega
theorem indep_any (L : Option Addr) (cL n : Nat) (l : List (List Int)) (v : Bool) (w : World) (hL : Lists w L l) (hp : ∀ a ∈ l, Perm n a) (hn : n ≤ 6) (hl : l.length ≤ 1000000) (hv : v = true ↔ Indep n l) :
    Calls Tryz.prog 29 #[.slice L l.length cL, .int .i64 n] w fun e w' => e = .returned (.bool v) ∧ Below w.heap.size w w' := by
  have HL := Lib.hid hL
  have HP := Lib.hid hp
  have HV := Lib.hid hv
  clear hL hp hv
  go_enter Tryz.func29, Tryz.ntmps29
  go_wp2
  go_loopw [5] (fun s5 wr => ∃ i : Nat, s5 = .int .i64 i ∧ i ≤ l.length ∧ Hid (∀ p q (h1 : p < l.length) (h2 : q < p), p < i → cmp l[p] l[q] = cmp l[q] l[p]) ∧ Below w.heap.size w wr) (fun s5 _ => l.length - (intOf s5).toNat)
  case atStart => exact ⟨0, rfl, Nat.zero_le _, Lib.hid (fun p q _ _ h => absurd h (by omega)), Below.refl _ _⟩
  case round =>
   obtain ⟨wo, rfl⟩ : ∃ wo : World, wo = wr := ⟨_, rfl⟩
   obtain ⟨i, rfl, hi, HI, hbo⟩ := hrel
   by_cases hil : i < l.length
   ·go_wp2
    go_loopw [6] (fun s6 wr => ∃ k : Nat, s6 = .int .i64 k ∧ k ≤ i ∧ Hid (∀ q (h2 : q < i), q < k → cmp l[i] (l[q]'(by omega)) = cmp (l[q]'(by omega)) l[i]) ∧ Below w.heap.size w wr) (fun s6 _ => i - (intOf s6).toNat)
    case atStart => exact ⟨0, rfl, Nat.zero_le _, Lib.hid (fun q _ h => absurd h (by omega)), hbo⟩
    case round =>
     clear hbo
     obtain ⟨wi, rfl⟩ : ∃ wi : World, wi = wr := ⟨_, rfl⟩
     obtain ⟨k, rfl, hk, HK, hbi⟩ := hrel
     by_cases hkl : k < i
     ·have hkk : k < l.length := by omega
      obtain ⟨ad, E1, ce1, rfl, s1, hE1⟩ := (HL.out.keep hbi).at hil
      obtain ⟨ad', E2, ce2, had, s2, hE2⟩ := (HL.out.keep hbi).at hkk
      injection had with had
      subst had
      have q0 : (0 : Int) ≤ (i : Int) := by omega
      have q1 : (i : Int) < (l.length : Int) := by omega
      have q3 : ((i : Int)).toNat = i := by omega
      have r0 : (0 : Int) ≤ (k : Int) := by omega
      have r1 : (k : Int) < (l.length : Int) := by omega
      have r3 : ((k : Int)).toNat = k := by omega
      have hp1 := HP.out l[i] (List.getElem_mem _)
      have hp2 := HP.out (l[k]'hkk) (List.getElem_mem _)
      rw [hp1.1] at s1
      rw [hp2.1] at s2
      have HPR1 : Hid (∀ V, Below wi.heap.size wi V → Calls Tryz.prog 53 #[.slice E1 n ce1, .slice E2 n ce2] V fun e w' => ∃ g, e = .returned (.slice (some ⟨g, 0, none⟩) n n) ∧ Blk w' g 3 (iarr (cmp l[i] (l[k]'hkk))) ∧ Below V.heap.size V w') := Lib.hid (fun V h =>
       (rprod_any E1 E2 ce1 ce2 n l[i] (l[k]'hkk) V (hE1.keep h) (hE2.keep h) hp1 hp2 hn).mono fun e w' ⟨h1, h2, h3⟩ => ⟨_, h1, h2, h3⟩)
      have HPR2 : Hid (∀ V, Below wi.heap.size wi V → Calls Tryz.prog 53 #[.slice E2 n ce2, .slice E1 n ce1] V fun e w' => ∃ g, e = .returned (.slice (some ⟨g, 0, none⟩) n n) ∧ Blk w' g 3 (iarr (cmp (l[k]'hkk) l[i])) ∧ Below V.heap.size V w') := Lib.hid (fun V h =>
       (rprod_any E2 E1 ce2 ce1 n (l[k]'hkk) l[i] V (hE2.keep h) (hE1.keep h) hp2 hp1 hn).mono fun e w' ⟨h1, h2, h3⟩ => ⟨_, h1, h2, h3⟩)
      have hl1 := (cmp_perm hp1 hp2).1
      have hl2 := (cmp_perm hp2 hp1).1
      obtain ⟨q, hq⟩ : ∃ q : Bool, decide (cmp l[i] (l[k]'hkk) = cmp (l[k]'hkk) l[i]) = q := ⟨_, rfl⟩
      have HEQ : Hid (∀ V g1 g2, Blk V g1 3 (iarr (cmp l[i] (l[k]'hkk))) → Blk V g2 3 (iarr (cmp (l[k]'hkk) l[i])) → Calls Tryz.prog 56 #[.slice (some ⟨g1, 0, none⟩) n n, .slice (some ⟨g2, 0, none⟩) n n] V fun e w' => e = .returned (.bool q) ∧ Below V.heap.size V w') := Lib.hid (fun V g1 g2 h1 h2 => by
       have := seq_any (some ⟨g1, 0, none⟩) (some ⟨g2, 0, none⟩) _ _ n n V (ints_blk h1 hl1 hn) (ints_blk h2 hl2 hn) (by omega) q hq
       rw [hl1, hl2] at this
       exact this.mono fun e w' h2 => ⟨h2.1, h2.2.below⟩)
      have HQ := Lib.hid hq
      clear hq hl1 hl2 hp1 hp2 hE1 hE2
      cases q with
      | true =>
        have HK2 : Hid (∀ q (h2 : q < i), q < k + 1 → cmp l[i] (l[q]'(by omega)) = cmp (l[q]'(by omega)) l[i]) := Lib.hid (fun q h2 hq => by
         by_cases he : q = k
         ·subst he; exact of_decide_eq_true HQ.out
         ·exact HK.out q h2 (by omega))
        clear HQ
        generalize cmp l[i] (l[k]'hkk) = x at HPR1 HEQ
        generalize cmp (l[k]'hkk) l[i] = y at HPR2 HEQ
        go_upto_region 7 with (fail)
        have BZ : Below wi.heap.size wi wi.drew := (Below.refl _ _).drew
        refine wp_region_held_drew (S := (fun w' => w'.cell? (ad.add i) = some (.slice E1 n ce1) ∧ w'.cell? (ad.add k) = some (.slice E2 n ce2))) (by kernel_rfl) ⟨s1, s2⟩ (fun hHeld => ?_)
        generalize wi.drew = Z at *
        refine wpAnyH_get 0 (some 20) (.slice (some ad) l.length cL) rfl rfl (by kernel_rfl) (by kernel_rfl) (by kernel_rfl) (fun _ _ _ h => h) (by rfl) hHeld ?_ ?_
        ·(intro w hSw; (try dsimp only at hSw); go_simp; all_goals (try with_reducible rfl))
        (try simp only [Act.put, List.setIfInBounds_toArray, List.set_cons_zero, List.set_cons_succ])
        refine wpAnyH_get 1 (some 21) (.int .i64 i) rfl rfl (by kernel_rfl) (by kernel_rfl) (by kernel_rfl) (fun _ _ _ h => h) (by rfl) hHeld ?_ ?_
        ·(intro w hSw; (try dsimp only at hSw); go_simp; all_goals (try with_reducible rfl))
        (try simp only [Act.put, List.setIfInBounds_toArray, List.set_cons_zero, List.set_cons_succ])
        refine wpAnyH_get 2 (some 22) (.pointer (some (ad.add i))) rfl rfl (by kernel_rfl) (by kernel_rfl) (by kernel_rfl) (fun _ _ _ h => h) (by rfl) hHeld ?_ ?_
        ·(intro w hSw; (try dsimp only at hSw); go_simp; all_goals (try with_reducible rfl))
        (try simp only [Act.put, List.setIfInBounds_toArray, List.set_cons_zero, List.set_cons_succ])
        refine wpAnyH_get 3 (some 23) (.slice E1 n ce1) rfl rfl (by kernel_rfl) (by kernel_rfl) (by kernel_rfl) (fun _ _ _ h => h) (by rfl) hHeld ?_ ?_
        ·(intro w hSw; (try dsimp only at hSw); go_simp; all_goals (try with_reducible rfl))
        (try simp only [Act.put, List.setIfInBounds_toArray, List.set_cons_zero, List.set_cons_succ])
        refine wpAnyH_get 4 (some 24) (.slice (some ad) l.length cL) rfl rfl (by kernel_rfl) (by kernel_rfl) (by kernel_rfl) (fun _ _ _ h => h) (by rfl) hHeld ?_ ?_
        ·(intro w hSw; (try dsimp only at hSw); go_simp; all_goals (try with_reducible rfl))
        (try simp only [Act.put, List.setIfInBounds_toArray, List.set_cons_zero, List.set_cons_succ])
        refine wpAnyH_get 5 (some 25) (.int .i64 k) rfl rfl (by kernel_rfl) (by kernel_rfl) (by kernel_rfl) (fun _ _ _ h => h) (by rfl) hHeld ?_ ?_
        ·(intro w hSw; (try dsimp only at hSw); go_simp; all_goals (try with_reducible rfl))
        (try simp only [Act.put, List.setIfInBounds_toArray, List.set_cons_zero, List.set_cons_succ])
        refine wpAnyH_get 6 (some 26) (.pointer (some (ad.add k))) rfl rfl (by kernel_rfl) (by kernel_rfl) (by kernel_rfl) (fun _ _ _ h => h) (by rfl) hHeld ?_ ?_
        ·(intro w hSw; (try dsimp only at hSw); go_simp; all_goals (try with_reducible rfl))
        (try simp only [Act.put, List.setIfInBounds_toArray, List.set_cons_zero, List.set_cons_succ])
        refine wpAnyH_get 7 (some 27) (.slice E2 n ce2) rfl rfl (by kernel_rfl) (by kernel_rfl) (by kernel_rfl) (fun _ _ _ h => h) (by rfl) hHeld ?_ ?_
        ·(intro w hSw; (try dsimp only at hSw); go_simp; all_goals (try with_reducible rfl))
        (try simp only [Act.put, List.setIfInBounds_toArray, List.set_cons_zero, List.set_cons_succ])
        refine wpAnyH_get 9 (some 29) (.slice (some ad) l.length cL) rfl rfl (by kernel_rfl) (by kernel_rfl) (by kernel_rfl) (fun _ _ _ h => h) (by rfl) hHeld ?_ ?_
        ·(intro w hSw; (try dsimp only at hSw); go_simp; all_goals (try with_reducible rfl))
        (try simp only [Act.put, List.setIfInBounds_toArray, List.set_cons_zero, List.set_cons_succ])
        refine wpAnyH_get 10 (some 30) (.int .i64 k) rfl rfl (by kernel_rfl) (by kernel_rfl) (by kernel_rfl) (fun _ _ _ h => h) (by rfl) hHeld ?_ ?_
        ·(intro w hSw; (try dsimp only at hSw); go_simp; all_goals (try with_reducible rfl))
        (try simp only [Act.put, List.setIfInBounds_toArray, List.set_cons_zero, List.set_cons_succ])
        refine wpAnyH_get 11 (some 31) (.pointer (some (ad.add k))) rfl rfl (by kernel_rfl) (by kernel_rfl) (by kernel_rfl) (fun _ _ _ h => h) (by rfl) hHeld ?_ ?_
        ·(intro w hSw; (try dsimp only at hSw); go_simp; all_goals (try with_reducible rfl))
        (try simp only [Act.put, List.setIfInBounds_toArray, List.set_cons_zero, List.set_cons_succ])
        refine wpAnyH_get 12 (some 32) (.slice E2 n ce2) rfl rfl (by kernel_rfl) (by kernel_rfl) (by kernel_rfl) (fun _ _ _ h => h) (by rfl) hHeld ?_ ?_
        ·(intro w hSw; (try dsimp only at hSw); go_simp; all_goals (try with_reducible rfl))
        (try simp only [Act.put, List.setIfInBounds_toArray, List.set_cons_zero, List.set_cons_succ])
        refine wpAnyH_get 13 (some 33) (.slice (some ad) l.length cL) rfl rfl (by kernel_rfl) (by kernel_rfl) (by kernel_rfl) (fun _ _ _ h => h) (by rfl) hHeld ?_ ?_
        ·(intro w hSw; (try dsimp only at hSw); go_simp; all_goals (try with_reducible rfl))
        (try simp only [Act.put, List.setIfInBounds_toArray, List.set_cons_zero, List.set_cons_succ])
        refine wpAnyH_get 14 (some 34) (.int .i64 i) rfl rfl (by kernel_rfl) (by kernel_rfl) (by kernel_rfl) (fun _ _ _ h => h) (by rfl) hHeld ?_ ?_
        ·(intro w hSw; (try dsimp only at hSw); go_simp; all_goals (try with_reducible rfl))
        (try simp only [Act.put, List.setIfInBounds_toArray, List.set_cons_zero, List.set_cons_succ])
        refine wpAnyH_get 15 (some 35) (.pointer (some (ad.add i))) rfl rfl (by kernel_rfl) (by kernel_rfl) (by kernel_rfl) (fun _ _ _ h => h) (by rfl) hHeld ?_ ?_
        ·(intro w hSw; (try dsimp only at hSw); go_simp; all_goals (try with_reducible rfl))
        (try simp only [Act.put, List.setIfInBounds_toArray, List.set_cons_zero, List.set_cons_succ])
        refine wpAnyH_get 16 (some 36) (.slice E1 n ce1) rfl rfl (by kernel_rfl) (by kernel_rfl) (by kernel_rfl) (fun _ _ _ h => h) (by rfl) hHeld ?_ ?_
        ·(intro w hSw; (try dsimp only at hSw); go_simp; all_goals (try with_reducible rfl))
        (try simp only [Act.put, List.setIfInBounds_toArray, List.set_cons_zero, List.set_cons_succ])
        refine wpAnyH_ready (rs := [8]) (by kernel_rfl) (by simp) ?_
        refine AllReadyH.cons rfl (fun K hK => ?_) AllReadyH.nil
        go_simp
        refine (HPR1.out _ BZ).mono ?_
        rintro e w1 ⟨g1, rfl, hG1, hb1⟩
        (try go_simp)
        have BZ := below_all BZ hb1
        refine hK.out _ _ ⟨keep_cell BZ s1, keep_cell BZ s2⟩ (fun hHeld => ?_)
        clear hK K
        (try simp only [Act.put, List.setIfInBounds_toArray, List.set_cons_zero, List.set_cons_succ])
        refine wpAnyH_ready (rs := [17]) (by kernel_rfl) (by simp) ?_
        refine AllReadyH.cons rfl (fun K hK => ?_) AllReadyH.nil
        go_simp
        refine (HPR2.out _ BZ).mono ?_
        rintro e w3 ⟨g2, rfl, hG2, hb3⟩
        (try go_simp)
        have BZ := below_all BZ hb3
        have hG1 := hG1.keep hb3 hG1.lt
        refine hK.out _ _ ⟨keep_cell BZ s1, keep_cell BZ s2⟩ (fun hHeld => ?_)
        clear hK K
        (try simp only [Act.put, List.setIfInBounds_toArray, List.set_cons_zero, List.set_cons_succ])
        refine wpAnyH_ready (rs := [18]) (by kernel_rfl) (by simp) ?_
        refine AllReadyH.cons rfl (fun K hK => ?_) AllReadyH.nil
        go_simp
        refine (HEQ.out _ _ _ hG1 hG2).mono ?_
        rintro e w4 ⟨rfl, hb4⟩
        (try go_simp)
        have BZ := below_all BZ hb4
        refine hK.out _ _ ⟨keep_cell BZ s1, keep_cell BZ s2⟩ (fun hHeld => ?_)
        clear hK K
        (try simp only [Act.put, List.setIfInBounds_toArray, List.set_cons_zero, List.set_cons_succ])
        refine wpAnyH_get 19 (some 39) (.bool false) rfl rfl (by kernel_rfl) (by kernel_rfl) (by kernel_rfl) (fun _ _ _ h => h) (by rfl) hHeld ?_ ?_
        ·(intro w hSw; (try dsimp only at hSw); go_simp; all_goals (try with_reducible rfl))
        (try simp only [Act.put, List.setIfInBounds_toArray, List.set_cons_zero, List.set_cons_succ])
        refine wpAnyH_done (by kernel_rfl) ?_ _
        go_wp2
        go_roundw
        case rel => exact ⟨k + 1, by go_num, by omega, HK2, below_all hbi BZ⟩
        case measure => simp [intOf]; omega
      | false =>
        obtain rfl : v = false := eq_false_of_ne_true (fun h => of_decide_eq_false HQ.out ((HV.out.1 h).1 i k hil hkl))
        clear HQ
        generalize cmp l[i] (l[k]'hkk) = x at HPR1 HEQ
        generalize cmp (l[k]'hkk) l[i] = y at HPR2 HEQ
        go_upto_region 7 with (fail)
        have BZ : Below wi.heap.size wi wi.drew := (Below.refl _ _).drew
        refine wp_region_held_drew (S := (fun w' => w'.cell? (ad.add i) = some (.slice E1 n ce1) ∧ w'.cell? (ad.add k) = some (.slice E2 n ce2))) (by kernel_rfl) ⟨s1, s2⟩ (fun hHeld => ?_)
        generalize wi.drew = Z at *
        refine wpAnyH_get 0 (some 20) (.slice (some ad) l.length cL) rfl rfl (by kernel_rfl) (by kernel_rfl) (by kernel_rfl) (fun _ _ _ h => h) (by rfl) hHeld ?_ ?_
        ·(intro w hSw; (try dsimp only at hSw); go_simp; all_goals (try with_reducible rfl))
        (try simp only [Act.put, List.setIfInBounds_toArray, List.set_cons_zero, List.set_cons_succ])
        refine wpAnyH_get 1 (some 21) (.int .i64 i) rfl rfl (by kernel_rfl) (by kernel_rfl) (by kernel_rfl) (fun _ _ _ h => h) (by rfl) hHeld ?_ ?_
        ·(intro w hSw; (try dsimp only at hSw); go_simp; all_goals (try with_reducible rfl))
        (try simp only [Act.put, List.setIfInBounds_toArray, List.set_cons_zero, List.set_cons_succ])
        refine wpAnyH_get 2 (some 22) (.pointer (some (ad.add i))) rfl rfl (by kernel_rfl) (by kernel_rfl) (by kernel_rfl) (fun _ _ _ h => h) (by rfl) hHeld ?_ ?_
        ·(intro w hSw; (try dsimp only at hSw); go_simp; all_goals (try with_reducible rfl))
        (try simp only [Act.put, List.setIfInBounds_toArray, List.set_cons_zero, List.set_cons_succ])
        refine wpAnyH_get 3 (some 23) (.slice E1 n ce1) rfl rfl (by kernel_rfl) (by kernel_rfl) (by kernel_rfl) (fun _ _ _ h => h) (by rfl) hHeld ?_ ?_
        ·(intro w hSw; (try dsimp only at hSw); go_simp; all_goals (try with_reducible rfl))
        (try simp only [Act.put, List.setIfInBounds_toArray, List.set_cons_zero, List.set_cons_succ])
        refine wpAnyH_get 4 (some 24) (.slice (some ad) l.length cL) rfl rfl (by kernel_rfl) (by kernel_rfl) (by kernel_rfl) (fun _ _ _ h => h) (by rfl) hHeld ?_ ?_
        ·(intro w hSw; (try dsimp only at hSw); go_simp; all_goals (try with_reducible rfl))
        (try simp only [Act.put, List.setIfInBounds_toArray, List.set_cons_zero, List.set_cons_succ])
        refine wpAnyH_get 5 (some 25) (.int .i64 k) rfl rfl (by kernel_rfl) (by kernel_rfl) (by kernel_rfl) (fun _ _ _ h => h) (by rfl) hHeld ?_ ?_
        ·(intro w hSw; (try dsimp only at hSw); go_simp; all_goals (try with_reducible rfl))
        (try simp only [Act.put, List.setIfInBounds_toArray, List.set_cons_zero, List.set_cons_succ])
        refine wpAnyH_get 6 (some 26) (.pointer (some (ad.add k))) rfl rfl (by kernel_rfl) (by kernel_rfl) (by kernel_rfl) (fun _ _ _ h => h) (by rfl) hHeld ?_ ?_
        ·(intro w hSw; (try dsimp only at hSw); go_simp; all_goals (try with_reducible rfl))
        (try simp only [Act.put, List.setIfInBounds_toArray, List.set_cons_zero, List.set_cons_succ])
        refine wpAnyH_get 7 (some 27) (.slice E2 n ce2) rfl rfl (by kernel_rfl) (by kernel_rfl) (by kernel_rfl) (fun _ _ _ h => h) (by rfl) hHeld ?_ ?_
        ·(intro w hSw; (try dsimp only at hSw); go_simp; all_goals (try with_reducible rfl))
        (try simp only [Act.put, List.setIfInBounds_toArray, List.set_cons_zero, List.set_cons_succ])
        refine wpAnyH_get 9 (some 29) (.slice (some ad) l.length cL) rfl rfl (by kernel_rfl) (by kernel_rfl) (by kernel_rfl) (fun _ _ _ h => h) (by rfl) hHeld ?_ ?_
        ·(intro w hSw; (try dsimp only at hSw); go_simp; all_goals (try with_reducible rfl))
        (try simp only [Act.put, List.setIfInBounds_toArray, List.set_cons_zero, List.set_cons_succ])
        refine wpAnyH_get 10 (some 30) (.int .i64 k) rfl rfl (by kernel_rfl) (by kernel_rfl) (by kernel_rfl) (fun _ _ _ h => h) (by rfl) hHeld ?_ ?_
        ·(intro w hSw; (try dsimp only at hSw); go_simp; all_goals (try with_reducible rfl))
        (try simp only [Act.put, List.setIfInBounds_toArray, List.set_cons_zero, List.set_cons_succ])
        refine wpAnyH_get 11 (some 31) (.pointer (some (ad.add k))) rfl rfl (by kernel_rfl) (by kernel_rfl) (by kernel_rfl) (fun _ _ _ h => h) (by rfl) hHeld ?_ ?_
        ·(intro w hSw; (try dsimp only at hSw); go_simp; all_goals (try with_reducible rfl))
        (try simp only [Act.put, List.setIfInBounds_toArray, List.set_cons_zero, List.set_cons_succ])
        refine wpAnyH_get 12 (some 32) (.slice E2 n ce2) rfl rfl (by kernel_rfl) (by kernel_rfl) (by kernel_rfl) (fun _ _ _ h => h) (by rfl) hHeld ?_ ?_
        ·(intro w hSw; (try dsimp only at hSw); go_simp; all_goals (try with_reducible rfl))
        (try simp only [Act.put, List.setIfInBounds_toArray, List.set_cons_zero, List.set_cons_succ])
        refine wpAnyH_get 13 (some 33) (.slice (some ad) l.length cL) rfl rfl (by kernel_rfl) (by kernel_rfl) (by kernel_rfl) (fun _ _ _ h => h) (by rfl) hHeld ?_ ?_
        ·(intro w hSw; (try dsimp only at hSw); go_simp; all_goals (try with_reducible rfl))
        (try simp only [Act.put, List.setIfInBounds_toArray, List.set_cons_zero, List.set_cons_succ])
        refine wpAnyH_get 14 (some 34) (.int .i64 i) rfl rfl (by kernel_rfl) (by kernel_rfl) (by kernel_rfl) (fun _ _ _ h => h) (by rfl) hHeld ?_ ?_
        ·(intro w hSw; (try dsimp only at hSw); go_simp; all_goals (try with_reducible rfl))
        (try simp only [Act.put, List.setIfInBounds_toArray, List.set_cons_zero, List.set_cons_succ])
        refine wpAnyH_get 15 (some 35) (.pointer (some (ad.add i))) rfl rfl (by kernel_rfl) (by kernel_rfl) (by kernel_rfl) (fun _ _ _ h => h) (by rfl) hHeld ?_ ?_
        ·(intro w hSw; (try dsimp only at hSw); go_simp; all_goals (try with_reducible rfl))
        (try simp only [Act.put, List.setIfInBounds_toArray, List.set_cons_zero, List.set_cons_succ])
        refine wpAnyH_get 16 (some 36) (.slice E1 n ce1) rfl rfl (by kernel_rfl) (by kernel_rfl) (by kernel_rfl) (fun _ _ _ h => h) (by rfl) hHeld ?_ ?_
        ·(intro w hSw; (try dsimp only at hSw); go_simp; all_goals (try with_reducible rfl))
        (try simp only [Act.put, List.setIfInBounds_toArray, List.set_cons_zero, List.set_cons_succ])
        refine wpAnyH_ready (rs := [8]) (by kernel_rfl) (by simp) ?_
        refine AllReadyH.cons rfl (fun K hK => ?_) AllReadyH.nil
        go_simp
        refine (HPR1.out _ BZ).mono ?_
        rintro e w1 ⟨g1, rfl, hG1, hb1⟩
        (try go_simp)
        have BZ := below_all BZ hb1
        refine hK.out _ _ ⟨keep_cell BZ s1, keep_cell BZ s2⟩ (fun hHeld => ?_)
        clear hK K
        (try simp only [Act.put, List.setIfInBounds_toArray, List.set_cons_zero, List.set_cons_succ])
        refine wpAnyH_ready (rs := [17]) (by kernel_rfl) (by simp) ?_
        refine AllReadyH.cons rfl (fun K hK => ?_) AllReadyH.nil
        go_simp
        refine (HPR2.out _ BZ).mono ?_
        rintro e w3 ⟨g2, rfl, hG2, hb3⟩
        (try go_simp)
        have BZ := below_all BZ hb3
        have hG1 := hG1.keep hb3 hG1.lt
        refine hK.out _ _ ⟨keep_cell BZ s1, keep_cell BZ s2⟩ (fun hHeld => ?_)
        clear hK K
        (try simp only [Act.put, List.setIfInBounds_toArray, List.set_cons_zero, List.set_cons_succ])
        refine wpAnyH_ready (rs := [18]) (by kernel_rfl) (by simp) ?_
        refine AllReadyH.cons rfl (fun K hK => ?_) AllReadyH.nil
        go_simp
        refine (HEQ.out _ _ _ hG1 hG2).mono ?_
        rintro e w4 ⟨rfl, hb4⟩
        (try go_simp)
        have BZ := below_all BZ hb4
        refine hK.out _ _ ⟨keep_cell BZ s1, keep_cell BZ s2⟩ (fun hHeld => ?_)
        clear hK K
        (try simp only [Act.put, List.setIfInBounds_toArray, List.set_cons_zero, List.set_cons_succ])
        refine wpAnyH_get 19 (some 39) (.bool true) rfl rfl (by kernel_rfl) (by kernel_rfl) (by kernel_rfl) (fun _ _ _ h => h) (by rfl) hHeld ?_ ?_
        ·(intro w hSw; (try dsimp only at hSw); go_simp; all_goals (try with_reducible rfl))
        (try simp only [Act.put, List.setIfInBounds_toArray, List.set_cons_zero, List.set_cons_succ])
        refine wpAnyH_done (by kernel_rfl) ?_ _
        go_wp2
        go_ret
        exact ⟨rfl, below_all hbi BZ⟩
     ·obtain rfl : k = i := by omega
      have HI2 : Hid (∀ p q (h1 : p < l.length) (h2 : q < p), p < k + 1 → cmp l[p] l[q] = cmp l[q] l[p]) := Lib.hid (fun p q h1 h2 hp => by
       by_cases he : p = k
       ·subst he; exact HK.out q h2 h2
       ·exact HI.out p q h1 h2 (by omega))
      have dk : decide ((k : Int) < (k : Int)) = false := by simp
      go_wp2
      go_roundw
      case rel => exact ⟨k + 1, by go_num, by omega, HI2, hbi⟩
      case measure => simp [intOf]; omega
   ·obtain rfl : i = l.length := by omega
    have dk : decide ((l.length : Int) < (l.length : Int)) = false := by simp
    by_cases hln : l.length ≤ n
    ·have d1 : decide ((n : Int) < (l.length : Int)) = false := decide_eq_false (by omega)
     have d2 : decide (n < l.length) = false := decide_eq_false (by omega)
     have HPD : Hid (∀ V, Below w.heap.size w V → Calls Tryz.prog 58 #[.slice L l.length cL, .int .i64 n] V fun e w' => ∃ A c, e = .returned (.slice A (prods n l).length c) ∧ Lists w' A (prods n l) ∧ Below V.heap.size V w') := Lib.hid (fun V h => products_any L cL n l V (HL.out.keep h) HP.out hn (by omega))
     have HVN : Hid (v = true ↔ (prods n l).Nodup) := Lib.hid (by
      rw [HV.out]
      exact ⟨fun h => h.2.2, fun h => ⟨fun i k h1 h2 => HI.out i k h1 h2 h1, hln, h⟩⟩)
     have HPE := Lib.hid (prods_perm HP.out)
     have HPN : Hid ((prods n l).length ≤ 64) := Lib.hid (by
      rw [prods_len]
      have : 2 ^ l.length ≤ 2 ^ 6 := Nat.pow_le_pow_right (by omega) (by omega)
      exact this)
     clear HV HI
     generalize prods n l = P at *
     have hpn := HPN.out
     go_wp2_with (go_at_call 58; refine (HPD.out _ hbo).mono ?_; rintro e w2 ⟨A, c, rfl, hP, hb2⟩)
     have hbw := below_all hbo hb2
     have HPW := Lib.hid hP
     clear hP dk d1 d2 hbo
     go_loopw [8] (fun s8 wr => ∃ i : Nat, s8 = .int .i64 i ∧ i ≤ P.length ∧ Hid (∀ j (h : j < P.length), j < i → findI P P[j] = (j : Int)) ∧ Below w2.heap.size w2 wr) (fun s8 _ => P.length - (intOf s8).toNat)
     case atStart => exact ⟨0, rfl, Nat.zero_le _, Lib.hid (fun j _ h => absurd h (by omega)), Below.refl _ _⟩
     case round =>
      obtain ⟨wi, rfl⟩ : ∃ wi : World, wi = wr := ⟨_, rfl⟩
      obtain ⟨i, rfl, hi, HF, hbi⟩ := hrel
      by_cases hil : i < P.length
      ·obtain ⟨ad, E, ce, rfl, hc, hE⟩ := (HPW.out.keep hbi).at hil
       have q0 : (0 : Int) ≤ (i : Int) := by omega
       have q1 : (i : Int) < (P.length : Int) := by omega
       have q3 : ((i : Int)).toNat = i := by omega
       have HFN := Lib.hid (find_any (some ad) c P E ce P[i] wi (HPW.out.keep hbi) hE (by omega) (fun x hx => by have := (HPE.out x hx).1; omega))
       by_cases hz : findI P P[i] = (i : Int)
       ·have HF2 : Hid (∀ j (h : j < P.length), j < i + 1 → findI P P[j] = (j : Int)) := Lib.hid (fun j h hj => by
         by_cases he : j = i
         ·subst he; exact hz
         ·exact HF.out j h (by omega))
        have hne : ((i : Int) != (i : Int)) = false := by simp
        rw [hz] at HFN
        clear hz hE
        generalize P[i] = x at hc HFN
        go_wp2_with (go_at_call 38; refine HFN.out.mono ?_; rintro e w4 ⟨rfl, hb4⟩)
        go_roundw
        case rel => exact ⟨i + 1, by go_num, by omega, HF2, below_all hbi hb4⟩
        case measure => simp [intOf]; omega
       ·obtain rfl : v = false := eq_false_of_ne_true (fun h => hz (findI_at (HVN.out.1 h) hil))
        have hne : (findI P P[i] != (i : Int)) = true := bne_iff_ne.2 hz
        clear hz hE
        generalize findI P P[i] = z at HFN hne
        generalize P[i] = x at hc HFN
        go_wp2_with (go_at_call 38; refine HFN.out.mono ?_; rintro e w4 ⟨rfl, hb4⟩)
        go_ret
        exact ⟨rfl, below_all hbw (below_all hbi hb4)⟩
      ·obtain rfl : i = P.length := by omega
       obtain rfl : v = true := HVN.out.2 (nodup_find fun i hi => HF.out i hi hi)
       have dk : decide ((P.length : Int) < (P.length : Int)) = false := by simp
       go_wp2
       go_ret
       exact ⟨rfl, below_all hbw hbi⟩
    ·have d1 : decide ((n : Int) < (l.length : Int)) = true := decide_eq_true (by omega)
     have d2 : decide (n < l.length) = true := decide_eq_true (by omega)
     obtain rfl : v = false := eq_false_of_ne_true (fun h => hln (HV.out.1 h).2.1)
     go_wp2
     go_ret
     exact ⟨rfl, hbo⟩
end Go.Proofs.Tg.Gp
end
