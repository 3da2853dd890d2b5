/- Parts of the proof: AE3, AE4, RC1. -/
import Derived.Test.YtodjofbneeejpaaGreatDoorMBD10
import Derived.Test.YtodjofbneeejpaaGreatDoorMBD13
import Derived.Test.YtodjofbneeejpaaGreatDoorMBD16
import Derived.Test.YtodjofbneeejpaaGreatDoorMBD17
import Derived.Test.YtodjofbneeejpaaGreatDoorMBD18
import Derived.Test.YtodjofbneeejpaaGreatDoorMBD19
import Derived.Test.YtodjofbneeejpaaGreatDoorMBD21
section
/- What the statements on blocks make of their numbers: a group and a basis. -/
namespace Go.Pm
open Go.Gr
theorem gen_isg {n : Nat} {gs S : List (List Int)} (hn : n ≤ 6) (hg : ∀ g ∈ gs, Perm n g) (h : IsGen n gs S) (hA : Asc S) : IsG S ∧ (S.headD []).length = n := by
 have hp : ∀ a ∈ S, Perm n a := fun a ha => Gen.perm hg ((h.2 a).1 ha)
 have hu : unit n ∈ S := (h.2 _).2 Gen.one
 have hne : S ≠ [] := fun e => by rw [e] at hu; cases hu
 have hl : (S.headD []).length = n := by
  cases S with
  | nil => exact absurd rfl hne
  | cons x xs => exact (hp x (by simp)).1
 refine ⟨⟨by rw [hl]; exact hn, hne, by rw [hl]; exact hp, hA, by rw [hl]; exact ⟨hu, fun a ha b hb => (h.2 _).2 (Gen.prod hg ((h.2 a).1 ha) ((h.2 b).1 hb))⟩⟩, hl⟩
/-- A list of n numbers with a single 1. -/
def uvec (n i : Nat) : List Int := (List.replicate n 0).set i 1
theorem uvec_len (n i : Nat) : (uvec n i).length = n := by simp [uvec]
/-- The first j of the monomials of degree 1, behind that of degree 0. -/
def bsTo (n : Nat) (both : Bool) (j : Nat) : List (List Int) := (if both then [List.replicate n 0] else []) ++ (List.range j).map fun k => uvec n (n - 1 - k)
theorem bsTo_succ (n : Nat) (both : Bool) (j : Nat) : bsTo n both (j + 1) = bsTo n both j ++ [uvec n (n - 1 - j)] := by
 unfold bsTo
 rw [List.range_succ, List.map_append, List.append_assoc]
 rfl
end Go.Pm
namespace Go.Proofs.Tg.Bk
open Go.RowKit Go.Gr Go.Sp Go.Ev Go.Pm
open Go.Proofs.Tg.Gp (PRow cellP RowsB prow_info rclosure_any)
set_option maxHeartbeats 4000000
set_option maxRecDepth 100000
/-- What the loop of made holds. -/
structure MdSt (w : World) (n : Nat) (both : Bool) (wr : World) (j : Nat) (A : Option Addr) (cA : Nat) (rs : List PRow) : Prop where
  below : Below w.heap.size w wr
  own : wr.ownsRow w.heap.size 22 1 (.slice A rs.length cA) rs.length (rs.map (cellP n))
  rows : RowsB wr rs
  eq : rs.map Prod.snd = bsTo n both j
theorem MdSt.keep {w wr wz : World} {n j cA : Nat} {both : Bool} {A : Option Addr} {rs : List PRow} (h : MdSt w n both wr j A cA rs) (hb : Below wr.heap.size wr wz) : MdSt w n both wz j A cA rs :=
  ⟨below_all h.below hb, own_below h.own hb (Nat.le_refl _), h.rows.keep hb, h.eq⟩
/-- What made returns. -/
def RetMade (both : Bool) (w : World) (e : Ending) (w' : World) : Prop := ∃ (G B : Option Addr) (cG cB n : Nat) (S bs : List (List Int)), e = .returned (.tuple #[.slice G S.length cG, .slice B bs.length cB]) ∧
  Lists w' G S ∧ Lists w' B bs ∧ 1 ≤ n ∧ n ≤ 4 ∧ IsG S ∧ (S.headD []).length = n ∧ bs = bsTo n both n ∧ Below w.heap.size w w'
theorem md_snoc {w wj w7 : World} {n j cA c7 : Nat} {both : Bool} {A A7 : Option Addr} {rs : List PRow} {g : Nat} {l : List Int} {o : Obj} (h : MdSt w n both wj j A cA rs) (hB : Blk wj g 3 (iarr l))
    (h7 : w7.ownsRow w.heap.size 22 1 (.slice A7 (rs.length + 1) c7) (rs.length + 1) (rs.map (cellP n) ++ [.slice (some ⟨g, 0, none⟩) n n])) (hg : (wj.alloc o).grownBy w7 (Value.slice A rs.length cA).ownBlock) :
    Below w.heap.size w w7 ∧ w7.ownsRow w.heap.size 22 1 (.slice A7 (rs ++ [(g, l)]).length c7) (rs ++ [(g, l)]).length ((rs ++ [(g, l)]).map (cellP n)) ∧ RowsB w7 (rs ++ [(g, l)]) := by
  have hal := Below.alloc (Below.refl wj.heap.size wj) (Nat.le_refl _) o
  have hox := h.own.alloc o
  have hb := below_all h.below hal
  refine ⟨hb.grown hg hb.size (fun q hq => (hox.lt q hq).1), ?_, fun t ht => ?_⟩
  ·rw [List.length_append, List.map_append, List.map_singleton]; exact h7
  ·rcases List.mem_append.1 ht with h2 | h2
   ·have h1 := (h.rows t h2).keep hal (h.rows t h2).lt
    exact h1.grown hg (own_blk_ne hox h1 (by decide))
   ·rw [List.mem_singleton.1 h2]
    have h1 := hB.keep hal hB.lt
    exact h1.grown hg (own_blk_ne hox h1 (by decide))
theorem lists_pair {w w3 : World} {E1 E2 : Option Addr} {p q : List Int} {n : Nat} (h1 : Ints w3 E1 p) (h2 : Ints w E2 q) (hb : Below w3.heap.size w3 w) (hp : p.length = n) (hq : q.length = n) (c1 c2 : Nat) : Lists (w.alloc (.cells #[.slice E1 n c1, .slice E2 n c2] 22)) (some ⟨w.heap.size, 0, none⟩) [p, q] := by
 have hal := Below.alloc (Below.refl w.heap.size w) (Nat.le_refl _) (.cells #[.slice E1 n c1, .slice E2 n c2] 22)
 refine ⟨fun i => if i = 0 then (E1, c1) else (E2, c2), ?_, fun i hi => ?_⟩
 ·have h0 : Blk (w.alloc (.cells #[.slice E1 n c1, .slice E2 n c2] 22)) w.heap.size 22 [.slice E1 n c1, .slice E2 n c2].toArray := Blk.new w 22 _
  have h := blkN_sl (n := 2) h0 (by simp)
  rw [← hp]
  rw [← hp] at h
  have e : (List.range [p, q].length).map (fun i => Value.slice (if i = 0 then (E1, c1) else (E2, c2)).1 ([p, q].getD i []).length (if i = 0 then (E1, c1) else (E2, c2)).2) = [.slice E1 p.length c1, .slice E2 p.length c2] := by
   show [Value.slice E1 p.length c1, Value.slice E2 q.length c2] = _
   rw [hq, hp]
  rw [e]
  exact h
 ·have : i = 0 ∨ i = 1 := by simp at hi; omega
  rcases this with rfl | rfl
  ·exact Sl.keep (Sl.keep h1 hb) hal
  ·exact Sl.keep h2 hal
theorem bsTo_len {n j : Nat} {both : Bool} {r : List Int} (h : r ∈ bsTo n both j) : r.length = n := by
 unfold bsTo at h
 rcases List.mem_append.1 h with h | h
 ·split at h
  ·rw [List.mem_singleton.1 h, List.length_replicate]
  ·cases h
 ·obtain ⟨k, _, rfl⟩ := List.mem_map.1 h
  exact uvec_len _ _
theorem lists_sl {w : World} {A : Option Addr} {L : Nat} {rs : List PRow} (h : Sl w A rs.length 1 (rs.map (cellP L))) (hr : RowsB w rs) (hL : ∀ r ∈ rs, r.2.length = L) : Lists w A (rs.map Prod.snd) := by
 refine ⟨fun i => (some ⟨(rs.getD i (0, [])).1, 0, none⟩, L), ?_, fun i hi => ?_⟩
 ·have e : (List.range (rs.map Prod.snd).length).map (fun i => Value.slice (some ⟨(rs.getD i (0, [])).1, 0, none⟩) ((rs.map Prod.snd).getD i []).length L) = rs.map (cellP L) := by
   refine List.ext_getElem (by simp) fun i h1 h2 => ?_
   have hi : i < rs.length := by simpa using h2
   have := hL rs[i] (List.getElem_mem _)
   simp [hi, cellP, this]
  rw [e, List.length_map]
  exact h
 ·have hi' : i < rs.length := by simpa using hi
  have e1 : rs.getD i (0, []) = rs[i] := by simp [hi']
  have e2 : (rs.map Prod.snd).getD i [] = rs[i].2 := by simp [hi']
  simp only [e1, e2]
  exact ints_new (hr rs[i] (List.getElem_mem _))
theorem made_any (A B : Option Addr) (cA cB : Nat) (z : Int) (a b : List Int) (both : Bool) (w : World) (hA : Ints w A a) (hB : Ints w B b) (ha : a.length ≤ 1000) (hb : b.length ≤ 1000) :
    Calls Tryz.prog 9 #[.int .i64 z, .slice A a.length cA, .slice B b.length cB, .bool both] w (RetMade both w) := by
  have HM := Lib.hid (Gx.mod_any z 4 w (by omega) (by omega))
  obtain ⟨hm0, hm1⟩ := modZ_in z (show (0 : Int) < 4 by omega)
  obtain ⟨n, hn⟩ : ∃ n : Nat, modZ z 4 + 1 = (n : Int) := ⟨(modZ z 4 + 1).toNat, by omega⟩
  have hn1 : 1 ≤ n := by omega
  have hn4 : n ≤ 4 := by omega
  have w1 : IntKind.i64.wrap (modZ z 4 + 1) = (n : Int) := by rw [hn]; exact IntWalk.i64_in _ (by omega)
  have HP1 := Lib.hid (permu_any A cA n a w hA (by omega) (by omega))
  have HP2 := Lib.hid (fun V (h : Below w.heap.size w V) => permu_any B cB n b V (hB.keep h) (by omega) (by omega))
  have HL1 : Hid (Perm n (permOf (keyP a) n)) := Lib.hid (permOf_perm (keyP_le a) n)
  have HL2 : Hid (Perm n (permOf (keyP b) n)) := Lib.hid (permOf_perm (keyP_le b) n)
  have HCL := Lib.hid (fun G cG gs V h1 h2 h3 => rclosure_any G cG n gs V h1 h2 (by omega) h3)
  obtain ⟨j0, hj0, hjz0, hjz1, hjz2⟩ := info_parts prow_info
  generalize permOf (keyP a) n = p at *
  generalize permOf (keyP b) n = q at *
  generalize modZ z 4 = mz at *
  clear hA hB hn hm0 hm1
  have hpl : p.length = n := HL1.out.1
  have hql : q.length = n := HL2.out.1
  have HPL := Lib.hid hpl
  have HQL := Lib.hid hql
  clear hpl hql
  go_enter Tryz.func9, Tryz.ntmps9
  go_upto_region 2 with (go_at_call 24; refine HM.out.mono ?_; rintro e w2 ⟨rfl, rfl⟩)
  have HTW : Hid (∀ g ∈ [p, q], Perm n g) := Lib.hid (fun g hg => by
   simp only [List.mem_cons, List.not_mem_nil, or_false] at hg
   rcases hg with rfl | rfl
   ·exact HL1.out
   ·exact HL2.out)
  go_upto_region 3 with (first
    | (go_at_call 26; with_reducible refine Calls.mono HP1.out ?_; rintro e w3 ⟨E1, c1, rfl, hE1, hb3⟩)
    | (go_at_call 26; with_reducible refine Calls.mono (HP2.out _ hb3) ?_; rintro e w4 ⟨E2, c2, rfl, hE2, hb4⟩
       have hal := Below.alloc (Below.refl w4.heap.size w4) (Nat.le_refl _) (.cells #[.slice E1 n c1, .slice E2 n c2] 22)
       have hLS := lists_pair (w := w4) hE1 hE2 hb4 HPL.out HQL.out c1 c2
       have hb5 := below_all (below_all hb3 hb4) hal
       have HCL2 : Hid (Calls Tryz.prog 25 #[.int .i64 n, .slice (some ⟨w4.heap.size, 0, none⟩) 2 2] (w4.alloc (.cells #[.slice E1 n c1, .slice E2 n c2] 22)) fun e w' => ∃ A c S, e = .returned (.slice A (List.length S) c) ∧ Lists w' A S ∧ IsGen n [p, q] S ∧ Asc S ∧ Below (w4.alloc (.cells #[.slice E1 n c1, .slice E2 n c2] 22)).heap.size (w4.alloc (.cells #[.slice E1 n c1, .slice E2 n c2] 22)) w') := Lib.hid (HCL.out (some ⟨w4.heap.size, 0, none⟩) 2 [p, q] _ hLS HTW.out (by simp))
       clear hLS)
    | (go_at_call 25; refine HCL2.out.mono ?_; rintro e w6 ⟨G, cG, S, rfl, hS, hgen, hasc, hb6⟩))
  have hb06 := below_all hb5 hb6
  have hisg := gen_isg (by omega : n ≤ 6) HTW.out hgen hasc
  have HIG := Lib.hid hisg
  have HSS := Lib.hid hS
  clear hE1 hE2 HCL2 hgen hasc hisg hS hb5 hb6 hal hb3 hb4 HCL HP1 HP2 HPL HQL HL1 HL2 HM
  cases both with
  | false =>
    have HST : Hid (MdSt w6 n false w6 0 none 0 []) := Lib.hid ⟨Below.refl _ _, World.ownsRow_nil _ _ _ _, fun r hr => absurd hr (by simp), by simp [bsTo]⟩
    have wn : IntKind.i64.wrap ((n : Int) - 1) = (n : Int) - 1 := IntWalk.i64_in _ (by omega)
    go_wp2
    go_loopw [11, 12] (fun s11 s12 wr => ∃ (j : Nat) (A2 : Option Addr) (c2 : Nat) (rs : List PRow) (i : Int), j ≤ n ∧ s12 = .int .i64 i ∧ Hid (i = (n : Int) - 1 - j) ∧ -1 ≤ i ∧ i ≤ 3 ∧ s11 = .slice A2 rs.length c2 ∧ Hid (MdSt w6 n false wr j A2 c2 rs)) (fun _ s12 _ => (intOf s12 + 1).toNat)
    case atStart => exact ⟨0, _, _, _, (n : Int) - 1, Nat.zero_le _, rfl, Lib.hid (by omega), by omega, by omega, rfl, HST⟩
    case round =>
     clear HST
     obtain ⟨wo, rfl⟩ : ∃ wo : World, wo = wr := ⟨_, rfl⟩
     obtain ⟨j, A2, c2, rs, i, hj, rfl, HI, hi0, hi3, rfl, HST⟩ := hrel
     by_cases hjn : 0 ≤ i
     ·have hjl : j < n := by have := HI.out; omega
      obtain ⟨k, hk⟩ : ∃ k : Nat, i = (k : Int) := ⟨i.toNat, by omega⟩
      have hkn : k < n := by have := HI.out; omega
      have hkj : k = n - 1 - j := by have := HI.out; omega
      subst hk
      have HBS := Lib.hid (bsTo_succ n false j)
      have HUV : Hid (uvec n (n - 1 - j) = (List.replicate n 0).set k 1) := Lib.hid (by rw [hkj]; rfl)
      have hrl : rs.length ≤ 10 := by
       have h1 := congrArg List.length HST.out.eq
       rw [List.length_map] at h1
       have h2 : (bsTo n false j).length ≤ 1 + j := by simp [bsTo]; try omega
       omega
      have d0 : decide ((0 : Int) ≤ (k : Int)) = true := decide_eq_true (by omega)
      have k0 : (0 : Int) ≤ (k : Int) := by omega
      have k1 : (k : Int) < (n : Int) := by omega
      have k3 : ((k : Int)).toNat = k := by omega
      have wk : IntKind.i64.wrap ((k : Int) - 1) = (k : Int) - 1 := IntWalk.i64_in _ (by omega)
      have hmk := make_ints n n (Nat.le_refl _) (by omega) wo
      have B0 := Blk.new wo 3 (madeCells #[.int .i64 0] n)
      have hal := Below.alloc (Below.refl wo.heap.size wo) (Nat.le_refl _) (.cells (madeCells #[.int .i64 0] n) 3)
      rw [iarr_made n] at hmk
      have e0 : Blk (wo.alloc (.cells (iarr (List.replicate n 0)) 3)) wo.heap.size 3 (iarr (List.replicate n 0)) := Blk.new _ _ _
      have hal2 : Below wo.heap.size wo (wo.alloc (.cells (iarr (List.replicate n 0)) 3)) := Below.alloc (Below.refl _ _) (Nat.le_refl _) _
      clear B0 hal
      generalize hW : wo.alloc (.cells (iarr (List.replicate n 0)) 3) = W at *
      have c0 := e0.cell k
      have f0 := e0.frozen k
      rw [iarr_at _ (by rw [List.length_replicate]; exact hkn)] at c0
      rw [List.getElem_replicate] at c0
      have B1 := e0.set k (.int .i64 1)
      rw [iarr_set] at B1
      have hb1 := below_far hal2 (Nat.le_refl _) k (.int .i64 1)
      have hl1 := e0.lt
      have HE0 := Lib.hid e0
      clear hW e0 hkj
      go_upto_region 11 with (fail)
      clear hmk c0 f0
      have hl2 := B1.lt
      generalize hW2 : W.setCell ⟨wo.heap.size, k, none⟩ (.int .i64 1) = W2 at *
      have H2 := HST.out.keep hb1
      have hown := H2.own
      have hbz := H2.below
      have HB1 := Lib.hid B1
      have HH2 := Lib.hid H2
      clear B1 hW2 H2 HE0 hl1 hal2
      go_wp2_with (at_builtin
                   refine wpList_append_own_at _ rfl _ _ 23 rfl w6.heap.size 22 j0 (.slice none 0 0) 1 24 Tryz.underlying23 hj0 hjz0 hjz1 hjz2 rfl (by decide) (.slice A2 rs.length c2) rs.length (rs.map (cellP n)) rfl (hown.alloc _) ⟨W2.heap.size, 0, none⟩ 1 1 [.slice (some ⟨wo.heap.size, 0, none⟩) n n] rfl rfl (cell_one_new _ _ _) (by simp [Value.oneCell']) (by simp only [maxLen]; omega) (by omega) (by have := hbz.size; simp; omega) ?_
                   intro v7 w7 hown7 hg7 _ hat7
                   obtain ⟨A7, c7, hv7, _, _⟩ := Sl.of_own hown7
                   subst hv7)
      go_roundw
      case rel =>
       obtain ⟨g1, g2, g3⟩ := md_snoc HH2.out HB1.out hown7 hg7
       refine ⟨j + 1, A7, c7, rs ++ [(wo.heap.size, (List.replicate n 0).set k 1)], (k : Int) - 1, by omega, rfl, Lib.hid (by have := HI.out; omega), by omega, by omega, by simp, Lib.hid ⟨g1, g2, g3, ?_⟩⟩
       rw [List.map_append, HST.out.eq, HBS.out, HUV.out]; rfl
      case measure => (simp [intOf]; try omega)
     ·have hj : j = n := by have := HI.out; omega
      subst hj
      have d0 : decide ((0 : Int) ≤ i) = false := decide_eq_false hjn
      have hRL := (Sl.own HST.out.own)
      have HLB : Hid (∃ A3 c3 bs, Value.slice A2 rs.length c2 = .slice A3 (List.length bs) c3 ∧ Lists wo A3 bs ∧ bs = bsTo j false j) := Lib.hid ⟨A2, c2, rs.map Prod.snd, by rw [List.length_map], lists_sl hRL HST.out.rows (fun r hr => by
       have h1 : r.2 ∈ rs.map Prod.snd := List.mem_map_of_mem hr
       rw [HST.out.eq] at h1
       exact bsTo_len h1), HST.out.eq⟩
      clear hRL
      go_wp2
      go_ret2
      obtain ⟨A3, c3, bs, h1, h2, h3⟩ := HLB.out
      exact ⟨G, A3, cG, c3, j, S, bs, by rw [← h1]; rfl, HSS.out.keep HST.out.below, h2, hn1, hn4, HIG.out.1, HIG.out.2, h3, below_all hb06 HST.out.below⟩
  | true =>
    have wn : IntKind.i64.wrap ((n : Int) - 1) = (n : Int) - 1 := IntWalk.i64_in _ (by omega)
    have hmk := make_ints n n (Nat.le_refl _) (by omega) w6
    rw [iarr_made n] at hmk
    have e0 : Blk (w6.alloc (.cells (iarr (List.replicate n 0)) 3)) w6.heap.size 3 (iarr (List.replicate n 0)) := Blk.new _ _ _
    have hal2 : Below w6.heap.size w6 (w6.alloc (.cells (iarr (List.replicate n 0)) 3)) := Below.alloc (Below.refl _ _) (Nat.le_refl _) _
    generalize hW : w6.alloc (.cells (iarr (List.replicate n 0)) 3) = W at *
    have hb1 := hal2
    have HB1 := Lib.hid e0
    have hl1 := e0.lt
    have H2 : MdSt w6 n true W 0 none 0 [] ∨ True := .inr trivial
    clear hW e0 H2
    have hown : W.ownsRow w6.heap.size 22 1 (.slice none 0 0) 0 [] := World.ownsRow_nil _ _ _ _
    go_wp2_with (at_builtin
                 refine wpList_append_own_at _ rfl _ _ 23 rfl w6.heap.size 22 j0 (.slice none 0 0) 1 24 Tryz.underlying23 hj0 hjz0 hjz1 hjz2 rfl (by decide) (.slice none 0 0) 0 [] rfl (hown.alloc _) ⟨W.heap.size, 0, none⟩ 1 1 [.slice (some ⟨w6.heap.size, 0, none⟩) n n] rfl rfl (cell_one_new _ _ _) (by simp [Value.oneCell']) (by simp only [maxLen]; omega) (by omega) (by have := hb1.size; simp; omega) ?_
                 intro v7 w7 hown7 hg7 _ hat7
                 obtain ⟨A7, c7, hv7, _, _⟩ := Sl.of_own hown7
                 subst hv7)
    clear hmk
    have HST : Hid (MdSt w6 n true w7 0 A7 c7 [(w6.heap.size, List.replicate n 0)]) := Lib.hid (by
     have hal := Below.alloc (Below.refl W.heap.size W) (Nat.le_refl _) (.cells #[.slice (some ⟨w6.heap.size, 0, none⟩) n n] 22)
     have hb := below_all hb1 hal
     refine ⟨hb.grown hg7 hb.size (fun q hq => absurd hq (by simp [Value.ownBlock])), hown7, fun t ht => ?_, by simp [bsTo]⟩
     rw [List.mem_singleton.1 ht]
     exact (HB1.out.keep hal HB1.out.lt).grown hg7 (by simp [Value.ownBlock]))
    clear hb1 HB1 hl1 hown hown7 hg7 hat7 hal2
    go_loopw [11, 12] (fun s11 s12 wr => ∃ (j : Nat) (A2 : Option Addr) (c2 : Nat) (rs : List PRow) (i : Int), j ≤ n ∧ s12 = .int .i64 i ∧ Hid (i = (n : Int) - 1 - j) ∧ -1 ≤ i ∧ i ≤ 3 ∧ s11 = .slice A2 rs.length c2 ∧ Hid (MdSt w6 n true wr j A2 c2 rs)) (fun _ s12 _ => (intOf s12 + 1).toNat)
    case atStart => exact ⟨0, _, _, _, (n : Int) - 1, Nat.zero_le _, rfl, Lib.hid (by omega), by omega, by omega, rfl, HST⟩
    case round =>
     clear HST
     obtain ⟨wo, rfl⟩ : ∃ wo : World, wo = wr := ⟨_, rfl⟩
     obtain ⟨j, A2, c2, rs, i, hj, rfl, HI, hi0, hi3, rfl, HST⟩ := hrel
     by_cases hjn : 0 ≤ i
     ·have hjl : j < n := by have := HI.out; omega
      obtain ⟨k, hk⟩ : ∃ k : Nat, i = (k : Int) := ⟨i.toNat, by omega⟩
      have hkn : k < n := by have := HI.out; omega
      have hkj : k = n - 1 - j := by have := HI.out; omega
      subst hk
      have HBS := Lib.hid (bsTo_succ n true j)
      have HUV : Hid (uvec n (n - 1 - j) = (List.replicate n 0).set k 1) := Lib.hid (by rw [hkj]; rfl)
      have hrl : rs.length ≤ 10 := by
       have h1 := congrArg List.length HST.out.eq
       rw [List.length_map] at h1
       have h2 : (bsTo n true j).length ≤ 1 + j := by simp [bsTo]; try omega
       omega
      have d0 : decide ((0 : Int) ≤ (k : Int)) = true := decide_eq_true (by omega)
      have k0 : (0 : Int) ≤ (k : Int) := by omega
      have k1 : (k : Int) < (n : Int) := by omega
      have k3 : ((k : Int)).toNat = k := by omega
      have wk : IntKind.i64.wrap ((k : Int) - 1) = (k : Int) - 1 := IntWalk.i64_in _ (by omega)
      have hmk := make_ints n n (Nat.le_refl _) (by omega) wo
      have B0 := Blk.new wo 3 (madeCells #[.int .i64 0] n)
      have hal := Below.alloc (Below.refl wo.heap.size wo) (Nat.le_refl _) (.cells (madeCells #[.int .i64 0] n) 3)
      rw [iarr_made n] at hmk
      have e0 : Blk (wo.alloc (.cells (iarr (List.replicate n 0)) 3)) wo.heap.size 3 (iarr (List.replicate n 0)) := Blk.new _ _ _
      have hal2 : Below wo.heap.size wo (wo.alloc (.cells (iarr (List.replicate n 0)) 3)) := Below.alloc (Below.refl _ _) (Nat.le_refl _) _
      clear B0 hal
      generalize hW : wo.alloc (.cells (iarr (List.replicate n 0)) 3) = W at *
      have c0 := e0.cell k
      have f0 := e0.frozen k
      rw [iarr_at _ (by rw [List.length_replicate]; exact hkn)] at c0
      rw [List.getElem_replicate] at c0
      have B1 := e0.set k (.int .i64 1)
      rw [iarr_set] at B1
      have hb1 := below_far hal2 (Nat.le_refl _) k (.int .i64 1)
      have hl1 := e0.lt
      have HE0 := Lib.hid e0
      clear hW e0 hkj
      go_upto_region 11 with (fail)
      clear hmk c0 f0
      have hl2 := B1.lt
      generalize hW2 : W.setCell ⟨wo.heap.size, k, none⟩ (.int .i64 1) = W2 at *
      have H2 := HST.out.keep hb1
      have hown := H2.own
      have hbz := H2.below
      have HB1 := Lib.hid B1
      have HH2 := Lib.hid H2
      clear B1 hW2 H2 HE0 hl1 hal2
      go_wp2_with (at_builtin
                   refine wpList_append_own_at _ rfl _ _ 23 rfl w6.heap.size 22 j0 (.slice none 0 0) 1 24 Tryz.underlying23 hj0 hjz0 hjz1 hjz2 rfl (by decide) (.slice A2 rs.length c2) rs.length (rs.map (cellP n)) rfl (hown.alloc _) ⟨W2.heap.size, 0, none⟩ 1 1 [.slice (some ⟨wo.heap.size, 0, none⟩) n n] rfl rfl (cell_one_new _ _ _) (by simp [Value.oneCell']) (by simp only [maxLen]; omega) (by omega) (by have := hbz.size; simp; omega) ?_
                   intro v7 w7 hown7 hg7 _ hat7
                   obtain ⟨A7, c7, hv7, _, _⟩ := Sl.of_own hown7
                   subst hv7)
      go_roundw
      case rel =>
       obtain ⟨g1, g2, g3⟩ := md_snoc HH2.out HB1.out hown7 hg7
       refine ⟨j + 1, A7, c7, rs ++ [(wo.heap.size, (List.replicate n 0).set k 1)], (k : Int) - 1, by omega, rfl, Lib.hid (by have := HI.out; omega), by omega, by omega, by simp, Lib.hid ⟨g1, g2, g3, ?_⟩⟩
       rw [List.map_append, HST.out.eq, HBS.out, HUV.out]; rfl
      case measure => (simp [intOf]; try omega)
     ·have hj : j = n := by have := HI.out; omega
      subst hj
      have d0 : decide ((0 : Int) ≤ i) = false := decide_eq_false hjn
      have hRL := (Sl.own HST.out.own)
      have HLB : Hid (∃ A3 c3 bs, Value.slice A2 rs.length c2 = .slice A3 (List.length bs) c3 ∧ Lists wo A3 bs ∧ bs = bsTo j true j) := Lib.hid ⟨A2, c2, rs.map Prod.snd, by rw [List.length_map], lists_sl hRL HST.out.rows (fun r hr => by
       have h1 : r.2 ∈ rs.map Prod.snd := List.mem_map_of_mem hr
       rw [HST.out.eq] at h1
       exact bsTo_len h1), HST.out.eq⟩
      clear hRL
      go_wp2
      go_ret2
      obtain ⟨A3, c3, bs, h1, h2, h3⟩ := HLB.out
      exact ⟨G, A3, cG, c3, j, S, bs, by rw [← h1]; rfl, HSS.out.keep HST.out.below, h2, hn1, hn4, HIG.out.1, HIG.out.2, h3, below_all hb06 HST.out.below⟩
end Go.Proofs.Tg.Bk
end
section
/- The law BlocksInvolutions. -/
namespace Go.Proofs.Tg.Bk
open Go.RowKit Go.Gr Go.Sp Go.Ev Go.Pm
open Go.Proofs.Tg.Gp (PRow cellP RowsB prow_info rinvs_any RetInv)
set_option maxHeartbeats 4000000
set_option maxRecDepth 100000
theorem lists_ab {w : World} {A B : Option Addr} {a b : List Int} {ca cb : Nat} (h1 : Ints w A a) (h2 : Ints w B b) : Lists (w.alloc (.cells #[.slice A a.length ca, .slice B b.length cb] 22)) (some ⟨w.heap.size, 0, none⟩) [a, b] := by
 have hal := Below.alloc (Below.refl w.heap.size w) (Nat.le_refl _) (.cells #[.slice A a.length ca, .slice B b.length cb] 22)
 refine ⟨fun i => if i = 0 then (A, ca) else (B, cb), ?_, fun i hi => ?_⟩
 ·have h0 : Blk (w.alloc (.cells #[.slice A a.length ca, .slice B b.length cb] 22)) w.heap.size 22 [.slice A a.length ca, .slice B b.length cb].toArray := Blk.new w 22 _
  exact blkN_sl (n := 2) h0 (by simp)
 ·have : i = 0 ∨ i = 1 := by simp at hi; omega
  rcases this with rfl | rfl
  ·exact Sl.keep h1 hal
  ·exact Sl.keep h2 hal
/-- The error of Involutions. -/
theorem inv_split {g : List (List Int)} {w w' : World} {e : Ending} (h : RetInv g w e w') : ∃ (A : Option Addr) (c : Nat) (xs : List (List Int)) (z : Int), e = .returned (.tuple #[.slice A xs.length c, .int .i64 z]) ∧ Lists w' A xs ∧ Below w.heap.size w w' ∧ ((¬ IsG g ∧ xs = [] ∧ z = 1) ∨ (IsG g ∧ xs = invs (g.headD []).length g ∧ z = 0)) := by
 rcases h with ⟨hb, ⟨h1, h2⟩ | ⟨h1, A, c, h2, h3⟩⟩
 ·exact ⟨none, 0, [], 1, h2, ⟨fun _ => (none, 0), Sl.nil _ _ _, fun i hi => by simp at hi⟩, hb, .inl ⟨h1, rfl, rfl⟩⟩
 ·exact ⟨A, c, _, 0, h2, h3, hb, .inr ⟨h1, rfl, rfl⟩⟩
/-- The group that the statements look at. -/
structure GrpArg (w : World) (H : Option Addr) (h : List (List Int)) : Prop where
  at' : Lists w H h
  len : h.length ≤ 720
  wid : ∀ x ∈ h, x.length ≤ 1000
  few : IsG h → ∀ k, 2 ^ k ≤ h.length → k ≤ (h.headD []).length
theorem isg_nodup {S : List (List Int)} (h : IsG S) : S.Nodup := by
 have := h.2.2.2.1
 exact Asc.nodup this
theorem made_arg {w : World} {H : Option Addr} {S : List (List Int)} {n : Nat} (hS : Lists w H S) (hn : n ≤ 4) (hI : IsG S) (hl : (S.headD []).length = n) : GrpArg w H S := by
 have hp := hI.2.2.1
 rw [hl] at hp
 have hnd := isg_nodup hI
 have hc := perm_count hnd hp
 have hle : (allP n).length ≤ 24 := by
  have : n = 0 ∨ n = 1 ∨ n = 2 ∨ n = 3 ∨ n = 4 := by omega
  rcases this with rfl | rfl | rfl | rfl | rfl <;> decide
 refine ⟨hS, by omega, fun x hx => by have := (hp x hx).1; omega, fun _ k hk => ?_⟩
 rw [hl]
 exact room_few hnd hp (.inr hn) k hk
theorem invs_mem (n : Nat) (g : List (List Int)) : ∀ x ∈ invs n g, x ∈ g := by
 induction g using snoc_ind with
 | h0 => simp [invs]
 | h1 l a ih =>
   intro x hx
   rw [invs_snoc] at hx
   split at hx
   ·rcases List.mem_append.1 hx with h | h
    ·exact List.mem_append_left _ (ih x h)
    ·exact List.mem_append_right _ h
   ·exact List.mem_append_left _ (ih x hx)
end Go.Proofs.Tg.Bk
end
section
/- The statements' comparison of changes: of equal ones it is true. -/
namespace Go.Proofs.Tg.Bk
open Go.RowKit Go.Gr Go.Sp Go.Ev Go.Pm Go.Mo
set_option maxHeartbeats 4000000
set_option maxRecDepth 100000
theorem matrices_same (r L : Nat) (A B : Option Addr) (ca cb : Nat) (xs : List ByteArray) (w : World) (hA : Strs w A xs) (hB : Strs w B xs) (hn : xs.length ≤ 100000) :
    Calls Tryz.prog 41 #[.agg #[.int .i64 (r : Nat), .int .i64 (L : Nat), .slice A xs.length ca], .agg #[.int .i64 (r : Nat), .int .i64 (L : Nat), .slice B xs.length cb]] w fun e w' => e = .returned (.bool true) ∧ Below w.heap.size w w' := by
  have HSA : Hid (∀ V, Below w.heap.size w V → Calls Tryz.prog 23 #[.slice A xs.length ca, .slice B xs.length cb] V fun e w' => e = .returned (.bool true) ∧ Below V.heap.size V w') := Lib.hid (fun V h => strings_same A B ca cb xs V (Sl.keep hA h) (Sl.keep hB h) hn)
  obtain ⟨W, hW⟩ : ∃ W, (w.alloc (.cells #[.int .i64 (r : Nat), .int .i64 (L : Nat), .slice A xs.length ca] 48)).alloc (.cells #[.int .i64 (r : Nat), .int .i64 (L : Nat), .slice B xs.length cb] 48) = W := ⟨_, rfl⟩
  have hbW : Below w.heap.size w W := by rw [← hW]; exact ((Below.refl _ _).alloc (Nat.le_refl _) _).alloc (by simp) _
  have HBW := Lib.hid hbW
  have B2 : Blk W w.heap.size 48 #[.int .i64 (r : Nat), .int .i64 (L : Nat), .slice A xs.length ca] := by rw [← hW]; exact (Blk.new _ _ _).alloc _
  have B3 : Blk W (w.heap.size + 1) 48 #[.int .i64 (r : Nat), .int .i64 (L : Nat), .slice B xs.length cb] := by
   rw [← hW]
   have := Blk.new (w.alloc (.cells #[.int .i64 (r : Nat), .int .i64 (L : Nat), .slice A xs.length ca] 48)) 48 #[.int .i64 (r : Nat), .int .i64 (L : Nat), .slice B xs.length cb]
   simpa using this
  obtain ⟨x0, x1, x2, _, _, _⟩ := B2.three
  obtain ⟨y0, y1, y2, _, _, _⟩ := B3.three
  have HWW := Lib.hid hW
  have HC := Lib.hid (HSA.out W hbW)
  clear hW hbW B2 B3 hA hB
  generalize xs.length = n at *
  go_enter Tryz.func41, Tryz.ntmps41
  go_upto_region 1 with (fail)
  rw [HWW.out]
  go_wp2_with (go_at_call 23; refine HC.out.mono ?_; rintro e w3 ⟨rfl, hb3⟩; have HB3 := Lib.hid (below_all HBW.out hb3); clear hb3)
  exact bodyPost_ret (v := .bool true) (by simp [results, Tryz.results41, go_sem]) rfl ⟨rfl, HB3.out⟩
theorem three_cells {w : World} {base n c L : Nat} {A : Option Addr} {cs : List CV} (h : w.ownsRow base 50 3 (.slice A n c) n (cs.flatMap (CV.cells L))) {j : Nat} (hj : j < n) (hl : cs.length = n) :
    ∃ g, A = some ⟨g, 0, none⟩ ∧ w.cell? ⟨g, j * 3, none⟩ = some (.int .i64 ((cs[j]'(by omega)).rows.length : Nat)) ∧ w.cell? ⟨g, j * 3 + 1, none⟩ = some (.int .i64 (L : Nat)) ∧ w.cell? ⟨g, j * 3 + 2, none⟩ = some (.slice (cs[j]'(by omega)).adr ((cs[j]'(by omega)).rows.length * L) (cs[j]'(by omega)).cap) := by
  rcases h.2 with ⟨_, h0⟩ | ⟨g, cap, cur, hv, _⟩
  ·omega
  ·injection hv with hv1 hv2 hv3
   subst hv1
   have hc : ∀ i u, (cs.flatMap (CV.cells L))[i]? = some u → w.cell? ⟨g, i, none⟩ = some u := fun i u hu => by
    have := h.cells (g := g) rfl i u hu
    rwa [add_lit, Nat.zero_add] at this
   have hat : ∀ (l : List CV) (j : Nat) (h : j < l.length) (i : Nat), i < 3 → (l.flatMap (CV.cells L))[j * 3 + i]? = (CV.cells L l[j])[i]? := by
    intro l
    induction l with
    | nil => intro j h; simp at h
    | cons p l ih =>
      intro j h i hi
      rw [List.flatMap_cons]
      cases j with
      | zero => rw [List.getElem?_append_left (by simp [CV.cells]; omega)]; simp
      | succ j =>
        rw [List.getElem?_append_right (by simp [CV.cells]; omega)]
        have e : (j + 1) * 3 + i - (CV.cells L p).length = j * 3 + i := by simp [CV.cells]; omega
        rw [e, ih j (by simpa using h) i hi]
        simp
   have h0 := hat cs j (by omega) 0 (by omega)
   have h1 := hat cs j (by omega) 1 (by omega)
   have h2 := hat cs j (by omega) 2 (by omega)
   exact ⟨g, rfl, hc _ _ (by simpa [CV.cells] using h0), hc _ _ (by rw [h1]; rfl), hc _ _ (by rw [h2]; rfl)⟩
theorem changes_same (A B : Option Addr) (ca cb L b1 b2 : Nat) (cs ds : List CV) (w : World) (hA : w.ownsRow b1 50 3 (.slice A cs.length ca) cs.length (cs.flatMap (CV.cells L))) (rA : CRows w b1 L cs)
    (hB : w.ownsRow b2 50 3 (.slice B ds.length cb) ds.length (ds.flatMap (CV.cells L))) (rB : CRows w b2 L ds) (he : cs.map CV.rows = ds.map CV.rows) (hl : ∀ c ∈ cs, c.rows.flatten.length = c.rows.length * L ∧ c.rows.length * L ≤ 100000) (hn : cs.length ≤ 1000000) :
    Calls Tryz.prog 13 #[.slice A cs.length ca, .slice B ds.length cb] w fun e w' => e = .returned (.bool true) ∧ Below w.heap.size w w' := by
  have hle : ds.length = cs.length := by
   have := congrArg List.length he
   simpa using this.symm
  have HA := Lib.hid hA
  have HB := Lib.hid hB
  have HRA := Lib.hid rA
  have HRB := Lib.hid rB
  have HE := Lib.hid he
  have HLN := Lib.hid hl
  rw [hle] at HB ⊢
  have HL := Lib.hid hle
  generalize hM : cs.length = M at *
  have HM := Lib.hid hM
  have bP : ((M : Int) != (M : Int)) = false := by simp
  clear hA hB rA rB he hl hle hM
  go_enter Tryz.func13, Tryz.ntmps13
  go_wp2
  go_loopw [5] (fun s5 wr => ∃ k : Nat, s5 = .int .i64 k ∧ k ≤ M ∧ Below w.heap.size w wr) (fun s5 _ => M - (intOf s5).toNat)
  case atStart => exact ⟨0, rfl, Nat.zero_le _, Below.refl _ _⟩
  case round =>
   obtain ⟨wo, rfl⟩ : ∃ wo : World, wo = wr := ⟨_, rfl⟩
   obtain ⟨k, rfl, hk, hbo⟩ := hrel
   by_cases hkM : k < M
   ·have hkx : k < cs.length := by rw [HM.out]; exact hkM
    have hky : k < ds.length := by rw [HL.out]; exact hkM
    obtain ⟨g, rfl, x0, x1, x2⟩ := three_cells (own_below HA.out hbo (Nat.le_refl _)) hkM HM.out
    obtain ⟨g', rfl, y0, y1, y2⟩ := three_cells (own_below HB.out hbo (Nat.le_refl _)) hkM HL.out
    have hpe : cs[k].rows = ds[k].rows := by
     have h1 : (cs.map CV.rows)[k]? = (ds.map CV.rows)[k]? := by rw [HE.out]
     simpa [hkx, hky] using h1
    have hox := own_below (HRA.out cs[k] (List.getElem_mem _)) hbo (Nat.le_refl _)
    have hoy := own_below (HRB.out ds[k] (List.getElem_mem _)) hbo (Nat.le_refl _)
    obtain ⟨hf, hf2⟩ := HLN.out cs[k] (List.getElem_mem _)
    have q0 : (0 : Int) ≤ (k : Int) := by omega
    have q1 : (k : Int) < (M : Int) := by omega
    have q3 : ((k : Int)).toNat = k := by omega
    generalize cs[k] = x at *
    generalize ds[k] = y at *
    obtain ⟨xr, xa, xc⟩ := x
    obtain ⟨yr, ya, yc⟩ := y
    simp only at hpe x0 x1 x2 y0 y1 y2 hox hoy hf hf2
    subst hpe
    obtain ⟨P, hP⟩ : ∃ P, xr.length * L = P := ⟨_, rfl⟩
    obtain ⟨R, hR⟩ : ∃ R, xr.length = R := ⟨_, rfl⟩
    rw [hP] at x2 y2 hox hoy hf hf2
    rw [hR] at x0 y0
    have hfl : (xr.flatten.map tx).length = P := by rw [List.length_map, hf]
    have HMS : Hid (∀ V, Below wo.heap.size wo V → Calls Tryz.prog 41 #[.agg #[.int .i64 (R : Nat), .int .i64 (L : Nat), .slice xa P xc], .agg #[.int .i64 (R : Nat), .int .i64 (L : Nat), .slice ya P yc]] V fun e w' => e = .returned (.bool true) ∧ Below V.heap.size V w') := Lib.hid (fun V h => by
     have h1 : Strs V xa (xr.flatten.map tx) := by
      have := Sl.keep (Sl.own hox) h
      unfold Strs
      rw [hfl, List.map_map]
      exact this
     have h2 : Strs V ya (xr.flatten.map tx) := by
      have := Sl.keep (Sl.own hoy) h
      unfold Strs
      rw [hfl, List.map_map]
      exact this
     have := matrices_same R L xa ya xc yc (xr.flatten.map tx) V h1 h2 (by omega)
     rwa [hfl] at this)
    have hbe : Below wo.heap.size wo wo.drew := (Below.refl _ _).drew
    clear hox hoy hf hf2 hP hR hfl
    go_wp2
    go_region_held3 (fun w' => w'.cell? ⟨g, k * 3, none⟩ = some (.int .i64 (R : Nat)) ∧ w'.cell? ⟨g, k * 3 + 1, none⟩ = some (.int .i64 (L : Nat)) ∧ w'.cell? ⟨g, k * 3 + 2, none⟩ = some (.slice xa P xc) ∧ w'.cell? ⟨g', k * 3, none⟩ = some (.int .i64 (R : Nat)) ∧ w'.cell? ⟨g', k * 3 + 1, none⟩ = some (.int .i64 (L : Nat)) ∧ w'.cell? ⟨g', k * 3 + 2, none⟩ = some (.slice ya P yc))
      (first | exact ⟨keep_cell hbe x0, keep_cell hbe x1, keep_cell hbe x2, keep_cell hbe y0, keep_cell hbe y1, keep_cell hbe y2⟩ | go_keep)
      (first | (go_at_call 41; with_reducible refine Calls.mono (HMS.out _ (by assumption)) ?_; rintro e w3 ⟨rfl, hb3⟩; have hbe := below_all hbe hb3))
    all_goals
      go_wp2
      go_roundw
      case rel => exact ⟨k + 1, by go_num, by omega, below_all hbo (by assumption)⟩
      case measure => (simp [intOf]; omega)
   ·obtain rfl : k = M := by omega
    have dk : decide ((k : Int) < (k : Int)) = false := by simp
    go_wp2
    go_ret
    exact ⟨rfl, hbo⟩
end Go.Proofs.Tg.Bk
end
