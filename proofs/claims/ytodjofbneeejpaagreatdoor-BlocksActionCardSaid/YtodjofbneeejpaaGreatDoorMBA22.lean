/- Parts of the proof: AE3, AE4, OR0. -/
import Derived.Test.YtodjofbneeejpaaGreatDoorMBA8
import Derived.Test.YtodjofbneeejpaaGreatDoorMBA17
import Derived.Test.YtodjofbneeejpaaGreatDoorMBA18
import Derived.Test.YtodjofbneeejpaaGreatDoorMBA19
import Derived.Test.YtodjofbneeejpaaGreatDoorMBA21
section
/- What the statements on blocks make of their numbers: a group and a basis. -/
namespace Go.Pm
open Go.Gr
theorem gen_isg {n : Nat} {gs S : List (List Int)} (hn : n ≤ 6) (hg : ∀ g ∈ gs, Perm n g) (h : IsGen n gs S) (hA : Asc S) : IsG S ∧ (S.headD []).length = n := by
  have hp : ∀ a ∈ S, Perm n a := fun a ha => Gen.perm hg ((h.2 a).1 ha)
  have hu : unit n ∈ S := (h.2 _).2 Gen.one
  have hne : S ≠ [] := fun e => by rw [e] at hu; cases hu
  have hl : (S.headD []).length = n := by
    cases S with
    | nil => exact absurd rfl hne
    | cons x xs => exact (hp x (by simp)).1
  refine ⟨⟨by rw [hl]; exact hn, hne, by rw [hl]; exact hp, hA, by rw [hl]; exact ⟨hu, fun a ha b hb => (h.2 _).2 (Gen.prod hg ((h.2 a).1 ha) ((h.2 b).1 hb))⟩⟩, hl⟩
/-- A list of n numbers with a single 1. -/
def uvec (n i : Nat) : List Int := (List.replicate n 0).set i 1
theorem uvec_len (n i : Nat) : (uvec n i).length = n := by simp [uvec]
/-- The first j of the monomials of degree 1, behind that of degree 0. -/
def bsTo (n : Nat) (both : Bool) (j : Nat) : List (List Int) := (if both then [List.replicate n 0] else []) ++ (List.range j).map fun k => uvec n (n - 1 - k)
theorem bsTo_succ (n : Nat) (both : Bool) (j : Nat) : bsTo n both (j + 1) = bsTo n both j ++ [uvec n (n - 1 - j)] := by
  unfold bsTo
  rw [List.range_succ, List.map_append, List.append_assoc]
  rfl
end Go.Pm
namespace Go.Proofs.Tg.Bk
open Go.RowKit Go.Gr Go.Sp Go.Ev Go.Pm
open Go.Proofs.Tg.Gp (PRow cellP RowsB prow_info rclosure_any)
set_option maxHeartbeats 4000000
set_option maxRecDepth 100000
/-- What the loop of made holds. -/
structure MdSt (w : World) (n : Nat) (both : Bool) (wr : World) (j : Nat) (A : Option Addr) (cA : Nat) (rs : List PRow) : Prop where
  below : Below w.heap.size w wr
  own : wr.ownsRow w.heap.size 22 1 (.slice A rs.length cA) rs.length (rs.map (cellP n))
  rows : RowsB wr rs
  eq : rs.map Prod.snd = bsTo n both j
theorem MdSt.keep {w wr wz : World} {n j cA : Nat} {both : Bool} {A : Option Addr} {rs : List PRow} (h : MdSt w n both wr j A cA rs) (hb : Below wr.heap.size wr wz) : MdSt w n both wz j A cA rs :=
  ⟨below_all h.below hb, own_below h.own hb (Nat.le_refl _), h.rows.keep hb, h.eq⟩
/-- What made returns. -/
def RetMade (both : Bool) (w : World) (e : Ending) (w' : World) : Prop := ∃ (G B : Option Addr) (cG cB n : Nat) (S bs : List (List Int)), e = .returned (.tuple #[.slice G S.length cG, .slice B bs.length cB]) ∧
  Lists w' G S ∧ Lists w' B bs ∧ 1 ≤ n ∧ n ≤ 4 ∧ IsG S ∧ (S.headD []).length = n ∧ bs = bsTo n both n ∧ Below w.heap.size w w'
theorem md_snoc {w wj w7 : World} {n j cA c7 : Nat} {both : Bool} {A A7 : Option Addr} {rs : List PRow} {g : Nat} {l : List Int} {o : Obj} (h : MdSt w n both wj j A cA rs) (hB : Blk wj g 3 (iarr l))
    (h7 : w7.ownsRow w.heap.size 22 1 (.slice A7 (rs.length + 1) c7) (rs.length + 1) (rs.map (cellP n) ++ [.slice (some ⟨g, 0, none⟩) n n])) (hg : (wj.alloc o).grownBy w7 (Value.slice A rs.length cA).ownBlock) :
    Below w.heap.size w w7 ∧ w7.ownsRow w.heap.size 22 1 (.slice A7 (rs ++ [(g, l)]).length c7) (rs ++ [(g, l)]).length ((rs ++ [(g, l)]).map (cellP n)) ∧ RowsB w7 (rs ++ [(g, l)]) := by
  have hal := Below.alloc (Below.refl wj.heap.size wj) (Nat.le_refl _) o
  have hox := h.own.alloc o
  have hb := below_all h.below hal
  refine ⟨hb.grown hg hb.size (fun q hq => (hox.lt q hq).1), ?_, fun t ht => ?_⟩
  · rw [List.length_append, List.map_append, List.map_singleton]; exact h7
  · rcases List.mem_append.1 ht with h2 | h2
    · have h1 := (h.rows t h2).keep hal (h.rows t h2).lt
      exact h1.grown hg (own_blk_ne hox h1 (by decide))
    · rw [List.mem_singleton.1 h2]
      have h1 := hB.keep hal hB.lt
      exact h1.grown hg (own_blk_ne hox h1 (by decide))
theorem lists_pair {w w3 : World} {E1 E2 : Option Addr} {p q : List Int} {n : Nat} (h1 : Ints w3 E1 p) (h2 : Ints w E2 q) (hb : Below w3.heap.size w3 w) (hp : p.length = n) (hq : q.length = n) (c1 c2 : Nat) : Lists (w.alloc (.cells #[.slice E1 n c1, .slice E2 n c2] 22)) (some ⟨w.heap.size, 0, none⟩) [p, q] := by
  have hal := Below.alloc (Below.refl w.heap.size w) (Nat.le_refl _) (.cells #[.slice E1 n c1, .slice E2 n c2] 22)
  refine ⟨fun i => if i = 0 then (E1, c1) else (E2, c2), ?_, fun i hi => ?_⟩
  · have h0 : Blk (w.alloc (.cells #[.slice E1 n c1, .slice E2 n c2] 22)) w.heap.size 22 [.slice E1 n c1, .slice E2 n c2].toArray := Blk.new w 22 _
    have h := blkN_sl (n := 2) h0 (by simp)
    rw [← hp]
    rw [← hp] at h
    have e : (List.range [p, q].length).map (fun i => Value.slice (if i = 0 then (E1, c1) else (E2, c2)).1 ([p, q].getD i []).length (if i = 0 then (E1, c1) else (E2, c2)).2) = [.slice E1 p.length c1, .slice E2 p.length c2] := by
      show [Value.slice E1 p.length c1, Value.slice E2 q.length c2] = _
      rw [hq, hp]
    rw [e]
    exact h
  · have : i = 0 ∨ i = 1 := by simp at hi; omega
    rcases this with rfl | rfl
    · exact Sl.keep (Sl.keep h1 hb) hal
    · exact Sl.keep h2 hal
theorem bsTo_len {n j : Nat} {both : Bool} {r : List Int} (h : r ∈ bsTo n both j) : r.length = n := by
  unfold bsTo at h
  rcases List.mem_append.1 h with h | h
  · split at h
    · rw [List.mem_singleton.1 h, List.length_replicate]
    · cases h
  · obtain ⟨k, _, rfl⟩ := List.mem_map.1 h
    exact uvec_len _ _
theorem lists_sl {w : World} {A : Option Addr} {L : Nat} {rs : List PRow} (h : Sl w A rs.length 1 (rs.map (cellP L))) (hr : RowsB w rs) (hL : ∀ r ∈ rs, r.2.length = L) : Lists w A (rs.map Prod.snd) := by
  refine ⟨fun i => (some ⟨(rs.getD i (0, [])).1, 0, none⟩, L), ?_, fun i hi => ?_⟩
  · have e : (List.range (rs.map Prod.snd).length).map (fun i => Value.slice (some ⟨(rs.getD i (0, [])).1, 0, none⟩) ((rs.map Prod.snd).getD i []).length L) = rs.map (cellP L) := by
      refine List.ext_getElem (by simp) fun i h1 h2 => ?_
      have hi : i < rs.length := by simpa using h2
      have := hL rs[i] (List.getElem_mem _)
      simp [hi, cellP, this]
    rw [e, List.length_map]
    exact h
  · have hi' : i < rs.length := by simpa using hi
    have e1 : rs.getD i (0, []) = rs[i] := by simp [hi']
    have e2 : (rs.map Prod.snd).getD i [] = rs[i].2 := by simp [hi']
    simp only [e1, e2]
    exact ints_new (hr rs[i] (List.getElem_mem _))
theorem made_any (A B : Option Addr) (cA cB : Nat) (z : Int) (a b : List Int) (both : Bool) (w : World) (hA : Ints w A a) (hB : Ints w B b) (ha : a.length ≤ 1000) (hb : b.length ≤ 1000) :
    Calls Tryz.prog 9 #[.int .i64 z, .slice A a.length cA, .slice B b.length cB, .bool both] w (RetMade both w) := by
  have HM := Lib.hid (Gx.mod_any z 4 w (by omega) (by omega))
  obtain ⟨hm0, hm1⟩ := modZ_in z (show (0 : Int) < 4 by omega)
  obtain ⟨n, hn⟩ : ∃ n : Nat, modZ z 4 + 1 = (n : Int) := ⟨(modZ z 4 + 1).toNat, by omega⟩
  have hn1 : 1 ≤ n := by omega
  have hn4 : n ≤ 4 := by omega
  have w1 : IntKind.i64.wrap (modZ z 4 + 1) = (n : Int) := by rw [hn]; exact IntWalk.i64_in _ (by omega)
  have HP1 := Lib.hid (permu_any A cA n a w hA (by omega) (by omega))
  have HP2 := Lib.hid (fun V (h : Below w.heap.size w V) => permu_any B cB n b V (hB.keep h) (by omega) (by omega))
  have HL1 : Hid (Perm n (permOf (keyP a) n)) := Lib.hid (permOf_perm (keyP_le a) n)
  have HL2 : Hid (Perm n (permOf (keyP b) n)) := Lib.hid (permOf_perm (keyP_le b) n)
  have HCL := Lib.hid (fun G cG gs V h1 h2 h3 => rclosure_any G cG n gs V h1 h2 (by omega) h3)
  obtain ⟨j0, hj0, hjz0, hjz1, hjz2⟩ := info_parts prow_info
  generalize permOf (keyP a) n = p at *
  generalize permOf (keyP b) n = q at *
  generalize modZ z 4 = mz at *
  clear hA hB hn hm0 hm1
  have hpl : p.length = n := HL1.out.1
  have hql : q.length = n := HL2.out.1
  have HPL := Lib.hid hpl
  have HQL := Lib.hid hql
  clear hpl hql
  go_enter Tryz.func9, Tryz.ntmps9
  go_upto_region 2 with (go_at_call 24; refine HM.out.mono ?_; rintro e w2 ⟨rfl, rfl⟩)
  have HTW : Hid (∀ g ∈ [p, q], Perm n g) := Lib.hid (fun g hg => by
    simp only [List.mem_cons, List.not_mem_nil, or_false] at hg
    rcases hg with rfl | rfl
    · exact HL1.out
    · exact HL2.out)
  go_upto_region 3 with (first
    | (go_at_call 26; with_reducible refine Calls.mono HP1.out ?_; rintro e w3 ⟨E1, c1, rfl, hE1, hb3⟩)
    | (go_at_call 26; with_reducible refine Calls.mono (HP2.out _ hb3) ?_; rintro e w4 ⟨E2, c2, rfl, hE2, hb4⟩
       have hal := Below.alloc (Below.refl w4.heap.size w4) (Nat.le_refl _) (.cells #[.slice E1 n c1, .slice E2 n c2] 22)
       have hLS := lists_pair (w := w4) hE1 hE2 hb4 HPL.out HQL.out c1 c2
       have hb5 := below_all (below_all hb3 hb4) hal
       have HCL2 : Hid (Calls Tryz.prog 25 #[.int .i64 n, .slice (some ⟨w4.heap.size, 0, none⟩) 2 2] (w4.alloc (.cells #[.slice E1 n c1, .slice E2 n c2] 22)) fun e w' => ∃ A c S, e = .returned (.slice A (List.length S) c) ∧ Lists w' A S ∧ IsGen n [p, q] S ∧ Asc S ∧ Below (w4.alloc (.cells #[.slice E1 n c1, .slice E2 n c2] 22)).heap.size (w4.alloc (.cells #[.slice E1 n c1, .slice E2 n c2] 22)) w') := Lib.hid (HCL.out (some ⟨w4.heap.size, 0, none⟩) 2 [p, q] _ hLS HTW.out (by simp))
       clear hLS)
    | (go_at_call 25; refine HCL2.out.mono ?_; rintro e w6 ⟨G, cG, S, rfl, hS, hgen, hasc, hb6⟩))
  have hb06 := below_all hb5 hb6
  have hisg := gen_isg (by omega : n ≤ 6) HTW.out hgen hasc
  have HIG := Lib.hid hisg
  have HSS := Lib.hid hS
  clear hE1 hE2 HCL2 hgen hasc hisg hS hb5 hb6 hal hb3 hb4 HCL HP1 HP2 HPL HQL HL1 HL2 HM
  cases both with
  | false =>
    have HST : Hid (MdSt w6 n false w6 0 none 0 []) := Lib.hid ⟨Below.refl _ _, World.ownsRow_nil _ _ _ _, fun r hr => absurd hr (by simp), by simp [bsTo]⟩
    have wn : IntKind.i64.wrap ((n : Int) - 1) = (n : Int) - 1 := IntWalk.i64_in _ (by omega)
    go_wp2
    go_loopw [11, 12] (fun s11 s12 wr => ∃ (j : Nat) (A2 : Option Addr) (c2 : Nat) (rs : List PRow) (i : Int), j ≤ n ∧ s12 = .int .i64 i ∧ Hid (i = (n : Int) - 1 - j) ∧ -1 ≤ i ∧ i ≤ 3 ∧ s11 = .slice A2 rs.length c2 ∧ Hid (MdSt w6 n false wr j A2 c2 rs)) (fun _ s12 _ => (intOf s12 + 1).toNat)
    case atStart => exact ⟨0, _, _, _, (n : Int) - 1, Nat.zero_le _, rfl, Lib.hid (by omega), by omega, by omega, rfl, HST⟩
    case round =>
      clear HST
      obtain ⟨wo, rfl⟩ : ∃ wo : World, wo = wr := ⟨_, rfl⟩
      obtain ⟨j, A2, c2, rs, i, hj, rfl, HI, hi0, hi3, rfl, HST⟩ := hrel
      by_cases hjn : 0 ≤ i
      · have hjl : j < n := by have := HI.out; omega
        obtain ⟨k, hk⟩ : ∃ k : Nat, i = (k : Int) := ⟨i.toNat, by omega⟩
        have hkn : k < n := by have := HI.out; omega
        have hkj : k = n - 1 - j := by have := HI.out; omega
        subst hk
        have HBS := Lib.hid (bsTo_succ n false j)
        have HUV : Hid (uvec n (n - 1 - j) = (List.replicate n 0).set k 1) := Lib.hid (by rw [hkj]; rfl)
        have hrl : rs.length ≤ 10 := by
          have h1 := congrArg List.length HST.out.eq
          rw [List.length_map] at h1
          have h2 : (bsTo n false j).length ≤ 1 + j := by simp [bsTo]; try omega
          omega
        have d0 : decide ((0 : Int) ≤ (k : Int)) = true := decide_eq_true (by omega)
        have k0 : (0 : Int) ≤ (k : Int) := by omega
        have k1 : (k : Int) < (n : Int) := by omega
        have k3 : ((k : Int)).toNat = k := by omega
        have wk : IntKind.i64.wrap ((k : Int) - 1) = (k : Int) - 1 := IntWalk.i64_in _ (by omega)
        have hmk := make_ints n n (Nat.le_refl _) (by omega) wo
        have B0 := Blk.new wo 3 (madeCells #[.int .i64 0] n)
        have hal := Below.alloc (Below.refl wo.heap.size wo) (Nat.le_refl _) (.cells (madeCells #[.int .i64 0] n) 3)
        rw [iarr_made n] at hmk
        have e0 : Blk (wo.alloc (.cells (iarr (List.replicate n 0)) 3)) wo.heap.size 3 (iarr (List.replicate n 0)) := Blk.new _ _ _
        have hal2 : Below wo.heap.size wo (wo.alloc (.cells (iarr (List.replicate n 0)) 3)) := Below.alloc (Below.refl _ _) (Nat.le_refl _) _
        clear B0 hal
        generalize hW : wo.alloc (.cells (iarr (List.replicate n 0)) 3) = W at *
        have c0 := e0.cell k
        have f0 := e0.frozen k
        rw [iarr_at _ (by rw [List.length_replicate]; exact hkn)] at c0
        rw [List.getElem_replicate] at c0
        have B1 := e0.set k (.int .i64 1)
        rw [iarr_set] at B1
        have hb1 := below_far hal2 (Nat.le_refl _) k (.int .i64 1)
        have hl1 := e0.lt
        have HE0 := Lib.hid e0
        clear hW e0 hkj
        go_upto_region 11 with (fail)
        clear hmk c0 f0
        have hl2 := B1.lt
        generalize hW2 : W.setCell ⟨wo.heap.size, k, none⟩ (.int .i64 1) = W2 at *
        have H2 := HST.out.keep hb1
        have hown := H2.own
        have hbz := H2.below
        have HB1 := Lib.hid B1
        have HH2 := Lib.hid H2
        clear B1 hW2 H2 HE0 hl1 hal2
        go_wp2_with (at_builtin
                     refine wpList_append_own_at _ rfl _ _ 23 rfl w6.heap.size 22 j0 (.slice none 0 0) 1 24 Tryz.underlying23 hj0 hjz0 hjz1 hjz2 rfl (by decide) (.slice A2 rs.length c2) rs.length (rs.map (cellP n)) rfl (hown.alloc _) ⟨W2.heap.size, 0, none⟩ 1 1 [.slice (some ⟨wo.heap.size, 0, none⟩) n n] rfl rfl (cell_one_new _ _ _) (by simp [Value.oneCell']) (by simp only [maxLen]; omega) (by omega) (by have := hbz.size; simp; omega) ?_
                     intro v7 w7 hown7 hg7 _ hat7
                     obtain ⟨A7, c7, hv7, _, _⟩ := Sl.of_own hown7
                     subst hv7)
        go_roundw
        case rel =>
          obtain ⟨g1, g2, g3⟩ := md_snoc HH2.out HB1.out hown7 hg7
          refine ⟨j + 1, A7, c7, rs ++ [(wo.heap.size, (List.replicate n 0).set k 1)], (k : Int) - 1, by omega, rfl, Lib.hid (by have := HI.out; omega), by omega, by omega, by simp, Lib.hid ⟨g1, g2, g3, ?_⟩⟩
          rw [List.map_append, HST.out.eq, HBS.out, HUV.out]; rfl
        case measure => (simp [intOf]; try omega)
      · have hj : j = n := by have := HI.out; omega
        subst hj
        have d0 : decide ((0 : Int) ≤ i) = false := decide_eq_false hjn
        have hRL := (Sl.own HST.out.own)
        have HLB : Hid (∃ A3 c3 bs, Value.slice A2 rs.length c2 = .slice A3 (List.length bs) c3 ∧ Lists wo A3 bs ∧ bs = bsTo j false j) := Lib.hid ⟨A2, c2, rs.map Prod.snd, by rw [List.length_map], lists_sl hRL HST.out.rows (fun r hr => by
          have h1 : r.2 ∈ rs.map Prod.snd := List.mem_map_of_mem hr
          rw [HST.out.eq] at h1
          exact bsTo_len h1), HST.out.eq⟩
        clear hRL
        go_wp2
        go_ret2
        obtain ⟨A3, c3, bs, h1, h2, h3⟩ := HLB.out
        exact ⟨G, A3, cG, c3, j, S, bs, by rw [← h1]; rfl, HSS.out.keep HST.out.below, h2, hn1, hn4, HIG.out.1, HIG.out.2, h3, below_all hb06 HST.out.below⟩
  | true =>
    have wn : IntKind.i64.wrap ((n : Int) - 1) = (n : Int) - 1 := IntWalk.i64_in _ (by omega)
    have hmk := make_ints n n (Nat.le_refl _) (by omega) w6
    rw [iarr_made n] at hmk
    have e0 : Blk (w6.alloc (.cells (iarr (List.replicate n 0)) 3)) w6.heap.size 3 (iarr (List.replicate n 0)) := Blk.new _ _ _
    have hal2 : Below w6.heap.size w6 (w6.alloc (.cells (iarr (List.replicate n 0)) 3)) := Below.alloc (Below.refl _ _) (Nat.le_refl _) _
    generalize hW : w6.alloc (.cells (iarr (List.replicate n 0)) 3) = W at *
    have hb1 := hal2
    have HB1 := Lib.hid e0
    have hl1 := e0.lt
    have H2 : MdSt w6 n true W 0 none 0 [] ∨ True := .inr trivial
    clear hW e0 H2
    have hown : W.ownsRow w6.heap.size 22 1 (.slice none 0 0) 0 [] := World.ownsRow_nil _ _ _ _
    go_wp2_with (at_builtin
                 refine wpList_append_own_at _ rfl _ _ 23 rfl w6.heap.size 22 j0 (.slice none 0 0) 1 24 Tryz.underlying23 hj0 hjz0 hjz1 hjz2 rfl (by decide) (.slice none 0 0) 0 [] rfl (hown.alloc _) ⟨W.heap.size, 0, none⟩ 1 1 [.slice (some ⟨w6.heap.size, 0, none⟩) n n] rfl rfl (cell_one_new _ _ _) (by simp [Value.oneCell']) (by simp only [maxLen]; omega) (by omega) (by have := hb1.size; simp; omega) ?_
                 intro v7 w7 hown7 hg7 _ hat7
                 obtain ⟨A7, c7, hv7, _, _⟩ := Sl.of_own hown7
                 subst hv7)
    clear hmk
    have HST : Hid (MdSt w6 n true w7 0 A7 c7 [(w6.heap.size, List.replicate n 0)]) := Lib.hid (by
      have hal := Below.alloc (Below.refl W.heap.size W) (Nat.le_refl _) (.cells #[.slice (some ⟨w6.heap.size, 0, none⟩) n n] 22)
      have hb := below_all hb1 hal
      refine ⟨hb.grown hg7 hb.size (fun q hq => absurd hq (by simp [Value.ownBlock])), hown7, fun t ht => ?_, by simp [bsTo]⟩
      rw [List.mem_singleton.1 ht]
      exact (HB1.out.keep hal HB1.out.lt).grown hg7 (by simp [Value.ownBlock]))
    clear hb1 HB1 hl1 hown hown7 hg7 hat7 hal2
    go_loopw [11, 12] (fun s11 s12 wr => ∃ (j : Nat) (A2 : Option Addr) (c2 : Nat) (rs : List PRow) (i : Int), j ≤ n ∧ s12 = .int .i64 i ∧ Hid (i = (n : Int) - 1 - j) ∧ -1 ≤ i ∧ i ≤ 3 ∧ s11 = .slice A2 rs.length c2 ∧ Hid (MdSt w6 n true wr j A2 c2 rs)) (fun _ s12 _ => (intOf s12 + 1).toNat)
    case atStart => exact ⟨0, _, _, _, (n : Int) - 1, Nat.zero_le _, rfl, Lib.hid (by omega), by omega, by omega, rfl, HST⟩
    case round =>
      clear HST
      obtain ⟨wo, rfl⟩ : ∃ wo : World, wo = wr := ⟨_, rfl⟩
      obtain ⟨j, A2, c2, rs, i, hj, rfl, HI, hi0, hi3, rfl, HST⟩ := hrel
      by_cases hjn : 0 ≤ i
      · have hjl : j < n := by have := HI.out; omega
        obtain ⟨k, hk⟩ : ∃ k : Nat, i = (k : Int) := ⟨i.toNat, by omega⟩
        have hkn : k < n := by have := HI.out; omega
        have hkj : k = n - 1 - j := by have := HI.out; omega
        subst hk
        have HBS := Lib.hid (bsTo_succ n true j)
        have HUV : Hid (uvec n (n - 1 - j) = (List.replicate n 0).set k 1) := Lib.hid (by rw [hkj]; rfl)
        have hrl : rs.length ≤ 10 := by
          have h1 := congrArg List.length HST.out.eq
          rw [List.length_map] at h1
          have h2 : (bsTo n true j).length ≤ 1 + j := by simp [bsTo]; try omega
          omega
        have d0 : decide ((0 : Int) ≤ (k : Int)) = true := decide_eq_true (by omega)
        have k0 : (0 : Int) ≤ (k : Int) := by omega
        have k1 : (k : Int) < (n : Int) := by omega
        have k3 : ((k : Int)).toNat = k := by omega
        have wk : IntKind.i64.wrap ((k : Int) - 1) = (k : Int) - 1 := IntWalk.i64_in _ (by omega)
        have hmk := make_ints n n (Nat.le_refl _) (by omega) wo
        have B0 := Blk.new wo 3 (madeCells #[.int .i64 0] n)
        have hal := Below.alloc (Below.refl wo.heap.size wo) (Nat.le_refl _) (.cells (madeCells #[.int .i64 0] n) 3)
        rw [iarr_made n] at hmk
        have e0 : Blk (wo.alloc (.cells (iarr (List.replicate n 0)) 3)) wo.heap.size 3 (iarr (List.replicate n 0)) := Blk.new _ _ _
        have hal2 : Below wo.heap.size wo (wo.alloc (.cells (iarr (List.replicate n 0)) 3)) := Below.alloc (Below.refl _ _) (Nat.le_refl _) _
        clear B0 hal
        generalize hW : wo.alloc (.cells (iarr (List.replicate n 0)) 3) = W at *
        have c0 := e0.cell k
        have f0 := e0.frozen k
        rw [iarr_at _ (by rw [List.length_replicate]; exact hkn)] at c0
        rw [List.getElem_replicate] at c0
        have B1 := e0.set k (.int .i64 1)
        rw [iarr_set] at B1
        have hb1 := below_far hal2 (Nat.le_refl _) k (.int .i64 1)
        have hl1 := e0.lt
        have HE0 := Lib.hid e0
        clear hW e0 hkj
        go_upto_region 11 with (fail)
        clear hmk c0 f0
        have hl2 := B1.lt
        generalize hW2 : W.setCell ⟨wo.heap.size, k, none⟩ (.int .i64 1) = W2 at *
        have H2 := HST.out.keep hb1
        have hown := H2.own
        have hbz := H2.below
        have HB1 := Lib.hid B1
        have HH2 := Lib.hid H2
        clear B1 hW2 H2 HE0 hl1 hal2
        go_wp2_with (at_builtin
                     refine wpList_append_own_at _ rfl _ _ 23 rfl w6.heap.size 22 j0 (.slice none 0 0) 1 24 Tryz.underlying23 hj0 hjz0 hjz1 hjz2 rfl (by decide) (.slice A2 rs.length c2) rs.length (rs.map (cellP n)) rfl (hown.alloc _) ⟨W2.heap.size, 0, none⟩ 1 1 [.slice (some ⟨wo.heap.size, 0, none⟩) n n] rfl rfl (cell_one_new _ _ _) (by simp [Value.oneCell']) (by simp only [maxLen]; omega) (by omega) (by have := hbz.size; simp; omega) ?_
                     intro v7 w7 hown7 hg7 _ hat7
                     obtain ⟨A7, c7, hv7, _, _⟩ := Sl.of_own hown7
                     subst hv7)
        go_roundw
        case rel =>
          obtain ⟨g1, g2, g3⟩ := md_snoc HH2.out HB1.out hown7 hg7
          refine ⟨j + 1, A7, c7, rs ++ [(wo.heap.size, (List.replicate n 0).set k 1)], (k : Int) - 1, by omega, rfl, Lib.hid (by have := HI.out; omega), by omega, by omega, by simp, Lib.hid ⟨g1, g2, g3, ?_⟩⟩
          rw [List.map_append, HST.out.eq, HBS.out, HUV.out]; rfl
        case measure => (simp [intOf]; try omega)
      · have hj : j = n := by have := HI.out; omega
        subst hj
        have d0 : decide ((0 : Int) ≤ i) = false := decide_eq_false hjn
        have hRL := (Sl.own HST.out.own)
        have HLB : Hid (∃ A3 c3 bs, Value.slice A2 rs.length c2 = .slice A3 (List.length bs) c3 ∧ Lists wo A3 bs ∧ bs = bsTo j true j) := Lib.hid ⟨A2, c2, rs.map Prod.snd, by rw [List.length_map], lists_sl hRL HST.out.rows (fun r hr => by
          have h1 : r.2 ∈ rs.map Prod.snd := List.mem_map_of_mem hr
          rw [HST.out.eq] at h1
          exact bsTo_len h1), HST.out.eq⟩
        clear hRL
        go_wp2
        go_ret2
        obtain ⟨A3, c3, bs, h1, h2, h3⟩ := HLB.out
        exact ⟨G, A3, cG, c3, j, S, bs, by rw [← h1]; rfl, HSS.out.keep HST.out.below, h2, hn1, hn4, HIG.out.1, HIG.out.2, h3, below_all hb06 HST.out.below⟩
end Go.Proofs.Tg.Bk
end
section
/- The law BlocksInvolutions. -/
namespace Go.Proofs.Tg.Bk
open Go.RowKit Go.Gr Go.Sp Go.Ev Go.Pm
open Go.Proofs.Tg.Gp (PRow cellP RowsB prow_info)
set_option maxHeartbeats 4000000
set_option maxRecDepth 100000
theorem lists_ab {w : World} {A B : Option Addr} {a b : List Int} {ca cb : Nat} (h1 : Ints w A a) (h2 : Ints w B b) : Lists (w.alloc (.cells #[.slice A a.length ca, .slice B b.length cb] 22)) (some ⟨w.heap.size, 0, none⟩) [a, b] := by
  have hal := Below.alloc (Below.refl w.heap.size w) (Nat.le_refl _) (.cells #[.slice A a.length ca, .slice B b.length cb] 22)
  refine ⟨fun i => if i = 0 then (A, ca) else (B, cb), ?_, fun i hi => ?_⟩
  · have h0 : Blk (w.alloc (.cells #[.slice A a.length ca, .slice B b.length cb] 22)) w.heap.size 22 [.slice A a.length ca, .slice B b.length cb].toArray := Blk.new w 22 _
    exact blkN_sl (n := 2) h0 (by simp)
  · have : i = 0 ∨ i = 1 := by simp at hi; omega
    rcases this with rfl | rfl
    · exact Sl.keep h1 hal
    · exact Sl.keep h2 hal
/-- The group that the statements look at. -/
structure GrpArg (w : World) (H : Option Addr) (h : List (List Int)) : Prop where
  at' : Lists w H h
  len : h.length ≤ 720
  wid : ∀ x ∈ h, x.length ≤ 1000
  few : IsG h → ∀ k, 2 ^ k ≤ h.length → k ≤ (h.headD []).length
theorem isg_nodup {S : List (List Int)} (h : IsG S) : S.Nodup := by
  have := h.2.2.2.1
  exact Asc.nodup this
theorem made_arg {w : World} {H : Option Addr} {S : List (List Int)} {n : Nat} (hS : Lists w H S) (hn : n ≤ 4) (hI : IsG S) (hl : (S.headD []).length = n) : GrpArg w H S := by
  have hp := hI.2.2.1
  rw [hl] at hp
  have hnd := isg_nodup hI
  have hc := perm_count hnd hp
  have hle : (allP n).length ≤ 24 := by
    have : n = 0 ∨ n = 1 ∨ n = 2 ∨ n = 3 ∨ n = 4 := by omega
    rcases this with rfl | rfl | rfl | rfl | rfl <;> decide
  refine ⟨hS, by omega, fun x hx => by have := (hp x hx).1; omega, fun _ k hk => ?_⟩
  rw [hl]
  exact room_few hnd hp (.inr hn) k hk
theorem raw_arg {w : World} {H : Option Addr} {g : List (List Int)} (hg : Lists w H g) (h8 : g.length ≤ 8) (hw : ∀ x ∈ g, x.length ≤ 8) : GrpArg w H g :=
  ⟨hg, by omega, fun x hx => by have := hw x hx; omega, fun hI k hk => room_few (isg_nodup hI) hI.2.2.1 (.inl h8) k hk⟩
end Go.Proofs.Tg.Bk
end
section
/- The orbits of pairs, as both sides list them. Plain. -/
namespace Go.Pm
/-- The pairs to which the images move a pair of places. -/
def prA (a : List Int) (i k : Nat) : Nat × Nat := (min (a.getD i 0).toNat (a.getD k 0).toNat, max (a.getD i 0).toNat (a.getD k 0).toNat)
def prsOf (im : List (List Int)) (p : Nat × Nat) : List (Nat × Nat) := im.map fun a => prA a p.1 p.2
/-- They, in order. -/
def orbOf (im : List (List Int)) (L : Nat) (p : Nat × Nat) : List (Nat × Nat) := ((List.range (L * L)).map fun x => (x / L, x % L)).filter fun q => decide (q ∈ prsOf im p)
def orbStep (im : List (List Int)) (L : Nat) (st : List (Nat × Nat) × List (List (Nat × Nat))) (p : Nat × Nat) : List (Nat × Nat) × List (List (Nat × Nat)) := if p ∈ st.1 then st else (st.1 ++ prsOf im p, st.2 ++ [orbOf im L p])
def orbRow (im : List (List Int)) (L : Nat) : Nat → List (Nat × Nat) × List (List (Nat × Nat))
  | 0 => ([], [])
  | i + 1 => (List.range (L - i)).foldl (fun st j => orbStep im L st (i, i + j)) (orbRow im L i)
def orbAt (im : List (List Int)) (L i k : Nat) : List (Nat × Nat) × List (List (Nat × Nat)) := (List.range (k - i)).foldl (fun st j => orbStep im L st (i, i + j)) (orbRow im L i)
theorem orbAt_start (im : List (List Int)) (L i : Nat) : orbAt im L i i = orbRow im L i := by simp [orbAt]
theorem orbAt_end (im : List (List Int)) (L i : Nat) : orbAt im L i L = orbRow im L (i + 1) := rfl
theorem orbAt_succ (im : List (List Int)) (L : Nat) {i k : Nat} (h : i ≤ k) : orbAt im L i (k + 1) = orbStep im L (orbAt im L i k) (i, k) := by
  unfold orbAt
  rw [show k + 1 - i = k - i + 1 by omega, List.range_succ, List.foldl_append]
  simp only [List.foldl_cons, List.foldl_nil]
  rw [show i + (k - i) = k by omega]
/-- Two pairs that can be moved to the same pair can be moved to each other. -/
def GoodIm (im : List (List Int)) (L : Nat) : Prop := ∀ i k i' k', i ≤ k → k < L → i' < L → k' < L → ∀ r, r ∈ prsOf im (i, k) → r ∈ prsOf im (i', k') → (i, k) ∈ prsOf im (i', k')
/-- What has been seen comes from pairs of places. -/
def SeenOk (im : List (List Int)) (L : Nat) (S : List (Nat × Nat)) : Prop := ∀ r ∈ S, ∃ i k, i < L ∧ k < L ∧ r ∈ prsOf im (i, k) ∧ ∀ q ∈ prsOf im (i, k), q ∈ S
theorem SeenOk.step {im : List (List Int)} {L : Nat} {st : List (Nat × Nat) × List (List (Nat × Nat))} (h : SeenOk im L st.1) {i k : Nat} (hi : i < L) (hk : k < L) : SeenOk im L (orbStep im L st (i, k)).1 := by
  unfold orbStep
  split
  · exact h
  · intro r hr
    rcases List.mem_append.1 hr with h1 | h1
    · obtain ⟨i', k', h2, h3, h4, h5⟩ := h r h1
      exact ⟨i', k', h2, h3, h4, fun q hq => List.mem_append_left _ (h5 q hq)⟩
    · exact ⟨i, k, hi, hk, h1, fun q hq => List.mem_append_right _ hq⟩
theorem orbRow_seen (im : List (List Int)) (L : Nat) : ∀ i, i ≤ L → SeenOk im L (orbRow im L i).1
  | 0, _ => fun r hr => by cases hr
  | i + 1, hi => by
    have h := orbRow_seen im L i (by omega)
    have h2 : ∀ n, n ≤ L - i → SeenOk im L ((List.range n).foldl (fun st j => orbStep im L st (i, i + j)) (orbRow im L i)).1 := by
      intro n
      induction n with
      | zero => exact fun _ => h
      | succ n ih =>
        intro hn
        rw [List.range_succ, List.foldl_append]
        exact (ih (by omega)).step (by omega) (by omega)
    exact h2 _ (Nat.le_refl _)
theorem orbAt_seen (im : List (List Int)) (L : Nat) {i k : Nat} (hi : i ≤ L) (hk : k ≤ L) : SeenOk im L (orbAt im L i k).1 := by
  have h := orbRow_seen im L i hi
  have h2 : ∀ n, i + n ≤ L → SeenOk im L ((List.range n).foldl (fun st j => orbStep im L st (i, i + j)) (orbRow im L i)).1 := by
    intro n
    induction n with
    | zero => exact fun _ => h
    | succ n ih =>
      intro hn
      rw [List.range_succ, List.foldl_append]
      exact (ih (by omega)).step (by omega) (by omega)
  unfold orbAt
  by_cases hik : i ≤ k
  · exact h2 _ (by omega)
  · rw [show k - i = 0 by omega]; exact h
/-- None of the pairs to which an unseen pair can be moved has been seen. -/
theorem fresh {im : List (List Int)} {L : Nat} (hG : GoodIm im L) {S : List (Nat × Nat)} (hS : SeenOk im L S) {i k : Nat} (hik : i ≤ k) (hk : k < L) (hn : (i, k) ∉ S) : ∀ r ∈ prsOf im (i, k), r ∉ S := fun r hr hrS => by
  obtain ⟨i', k', h1, h2, h3, h4⟩ := hS r hrS
  exact hn (h4 _ (hG i k i' k' hik hk h1 h2 r hr h3))
/-- The elements of a list that are new, in order. -/
def news (l : List (Nat × Nat)) : List (Nat × Nat) := l.foldl (fun o p => if p ∈ o then o else o ++ [p]) []
theorem news_snoc (l : List (Nat × Nat)) (p : Nat × Nat) : news (l ++ [p]) = if p ∈ news l then news l else news l ++ [p] := by
  unfold news
  rw [List.foldl_append]
  rfl
theorem news_mem (l : List (Nat × Nat)) : ∀ p, p ∈ news l ↔ p ∈ l := by
  induction l using snoc_ind with
  | h0 => simp [news]
  | h1 l a ih =>
    intro p
    rw [news_snoc]
    split
    · next h =>
      rw [ih, List.mem_append, List.mem_singleton]
      constructor
      · exact .inl
      · rintro (h2 | rfl)
        · exact h2
        · exact (ih _).1 h
    · rw [List.mem_append, List.mem_singleton, ih, List.mem_append, List.mem_singleton]
theorem news_nodup (l : List (Nat × Nat)) : (news l).Nodup := by
  induction l using snoc_ind with
  | h0 => simp [news]
  | h1 l a ih =>
    rw [news_snoc]
    split
    · exact ih
    · next h =>
      refine List.nodup_append.2 ⟨ih, by simp, fun x hx y hy e => ?_⟩
      rw [List.mem_singleton.1 hy] at e
      exact h (e ▸ hx)
/-- The order of pairs. -/
def ltP (p q : Nat × Nat) : Prop := p.1 < q.1 ∨ (p.1 = q.1 ∧ p.2 < q.2)
instance (p q : Nat × Nat) : Decidable (ltP p q) := inferInstanceAs (Decidable (_ ∨ _))
theorem ltP_irr (p : Nat × Nat) : ¬ ltP p p := fun h => by rcases h with h | h <;> omega
theorem ltP_trans {p q r : Nat × Nat} (h : ltP p q) (h2 : ltP q r) : ltP p r := by
  unfold ltP at *
  omega
theorem ltP_tri (p q : Nat × Nat) : ltP p q ∨ p = q ∨ ltP q p := by
  obtain ⟨a, b⟩ := p
  obtain ⟨c, d⟩ := q
  simp only [ltP, Prod.mk.injEq]
  omega
/-- Two ascending lists with the same elements are one. -/
theorem asc_ext : ∀ {l l' : List (Nat × Nat)}, l.Pairwise ltP → l'.Pairwise ltP → (∀ p, p ∈ l ↔ p ∈ l') → l = l'
  | [], [], _, _, _ => rfl
  | [], b :: l', _, _, h => by have := (h b).2 (by simp); cases this
  | a :: l, [], _, _, h => by have := (h a).1 (by simp); cases this
  | a :: l, b :: l', h1, h2, h => by
    have p1 := List.pairwise_cons.1 h1
    have p2 := List.pairwise_cons.1 h2
    have hab : a = b := by
      rcases List.mem_cons.1 ((h a).1 (by simp)) with e | e
      · exact e
      · rcases List.mem_cons.1 ((h b).2 (by simp)) with e2 | e2
        · exact e2.symm
        · exact absurd (ltP_trans (p2.1 a e) (p1.1 b e2)) (ltP_irr _)
    subst hab
    congr 1
    refine asc_ext p1.2 p2.2 fun p => ?_
    have hp := h p
    simp only [List.mem_cons] at hp
    constructor
    · intro hm
      rcases hp.1 (.inr hm) with e | e
      · rw [e] at hm; exact absurd (p1.1 _ hm) (ltP_irr _)
      · exact e
    · intro hm
      rcases hp.2 (.inr hm) with e | e
      · rw [e] at hm; exact absurd (p2.1 _ hm) (ltP_irr _)
      · exact e
theorem orbOf_asc (im : List (List Int)) (L : Nat) (p : Nat × Nat) : (orbOf im L p).Pairwise ltP := by
  unfold orbOf
  refine List.Pairwise.sublist List.filter_sublist ?_
  refine List.pairwise_map.2 (List.pairwise_lt_range.imp_of_mem fun {x y} hx hy hxy => ?_)
  have h1 := List.mem_range.1 hx
  have h2 := List.mem_range.1 hy
  unfold ltP
  simp only
  by_cases hd : x / L < y / L
  · exact .inl hd
  · have hle : x / L ≤ y / L := Nat.div_le_div_right (Nat.le_of_lt hxy)
    have he : x / L = y / L := by omega
    refine .inr ⟨he, ?_⟩
    have e1 := Nat.div_add_mod x L
    have e2 := Nat.div_add_mod y L
    rw [he] at e1
    omega
theorem orbOf_mem {im : List (List Int)} {L : Nat} (hp : ∀ a ∈ im, Perm L a) {i k : Nat} (hi : i < L) (hk : k < L) (q : Nat × Nat) : q ∈ orbOf im L (i, k) ↔ q ∈ prsOf im (i, k) := by
  unfold orbOf
  rw [List.mem_filter, decide_eq_true_iff]
  refine ⟨fun h => h.2, fun h => ⟨?_, h⟩⟩
  obtain ⟨a, ha, rfl⟩ := List.mem_map.1 h
  have h1 := perm_get (hp a ha) hi
  have h2 := perm_get (hp a ha) hk
  refine List.mem_map.2 ⟨min (a.getD i 0).toNat (a.getD k 0).toNat * L + max (a.getD i 0).toNat (a.getD k 0).toNat, List.mem_range.2 ?_, ?_⟩
  · have hm1 : min (a.getD i 0).toNat (a.getD k 0).toNat + 1 ≤ L := by omega
    have hm2 : max (a.getD i 0).toNat (a.getD k 0).toNat < L := by omega
    have := Nat.mul_le_mul_right L hm1
    rw [Nat.add_mul] at this
    omega
  · have hm2 : max (a.getD i 0).toNat (a.getD k 0).toNat < L := by omega
    unfold prA
    rw [Nat.add_comm, Nat.add_mul_div_right _ _ (by omega), Nat.add_mul_mod_self_right, Nat.div_eq_of_lt hm2, Nat.mod_eq_of_lt hm2, Nat.zero_add]
end Go.Pm
end
