/- Parts of the proof: GXM, GPI. -/
import Derived.Test.YtodapfjmgnekkaaGreatDoorMV9
import Derived.Test.YtodapfjmgnekkaaGreatDoorMV10
section
/- The reference's Maximal. -/
namespace Go.Gr
/-- Vertex i and its neighbours that are not gone. -/
def rowSet (t : Nat → Nat → Bool) (n : Nat) (gone : Nat → Bool) (i : Nat) : List Nat := (List.range n).filter fun k => decide (k = i) || (t i k && !gone k)
def natsI (l : List Nat) : List Int := l.map fun x : Nat => (x : Int)
/-- What is gone, and the sets, after r steps. -/
def maxTo (t : Nat → Nat → Bool) (n : Nat) : Nat → (Nat → Bool) × List (List Int)
  | 0 => (fun _ => false, [])
  | r + 1 => match (List.range n).find? (okV t n (maxTo t n r).1) with
    | none => maxTo t n r
    | some i => (updF (maxTo t n r).1 i true, (maxTo t n r).2 ++ [natsI (rowSet t n (maxTo t n r).1 i)])
theorem maxTo_none {t : Nat → Nat → Bool} {n r : Nat} (h : (List.range n).find? (okV t n (maxTo t n r).1) = none) : maxTo t n (r + 1) = maxTo t n r := by
  show (match (List.range n).find? (okV t n (maxTo t n r).1) with | none => maxTo t n r | some i => _) = _
  rw [h]
theorem maxTo_some {t : Nat → Nat → Bool} {n r i : Nat} (h : (List.range n).find? (okV t n (maxTo t n r).1) = some i) : maxTo t n (r + 1) = (updF (maxTo t n r).1 i true, (maxTo t n r).2 ++ [natsI (rowSet t n (maxTo t n r).1 i)]) := by
  show (match (List.range n).find? (okV t n (maxTo t n r).1) with | none => maxTo t n r | some i => _) = _
  rw [h]
/-- List i is in no other one. -/
def keepP (als : List (List Int)) (i k : Nat) : Bool := decide (k = i) || !decide (common (als.getD i []) (als.getD k []) = (als.getD i []).length)
def keepI (als : List (List Int)) (i : Nat) : Bool := (List.range als.length).all (keepP als i)
def keptI (als : List (List Int)) (k : Nat) : List Nat := (List.range k).filter (keepI als)
end Go.Gr
namespace Go.Proofs.Tg.Gx
open Go.RowKit Go.Gr
set_option maxHeartbeats 4000000
set_option maxRecDepth 100000
theorem nats_vi (l : List Nat) : l.map vn = (natsI l).map vi := by simp [natsI, vn, vi]
/-- Phase one: the sets. -/
def Phase1 (t : Nat → Nat → Bool) (n base : Nat) (w : World) (r m cr : Nat) (R : Option Addr) (F : Nat → Option Addr × Nat) (ls : Nat → List Int) (gone : Nat → Bool) (wr : World) : Prop :=
  m ≤ cr ∧ m ≤ r ∧ wr.ownsRow base 36 1 (.slice R m cr) m ((List.range m).map (enc F ls)) ∧ RowsIn wr base m F ls ∧ Blk wr w.heap.size 4 (farr n fun v => .bool (gone v)) ∧ Below w.heap.size w wr ∧ maxTo t n r = (gone, (List.range m).map ls)
def RetMax (t : Nat → Nat → Bool) (n : Nat) (w : World) (e : Ending) (w' : World) : Prop :=
  ∃ lo V d, e = .returned (.slice V (List.length lo) d) ∧ Lists w' V lo ∧ lo.Perm ((keptI (maxTo t n n).2 (maxTo t n n).2.length).map fun i => (maxTo t n n).2.getD i []) ∧ sortedL lo ∧ Below w.heap.size w w'
theorem rmax_any (g n : Nat) (t : Nat → Nat → Bool) (w : World) (hT : TableAt w g n t) (hn : n ≤ 64) :
    Calls Tryz.prog 63 #[.slice (some ⟨g, 0, none⟩) n n] w (RetMax t n w) := by
  obtain ⟨j0, hj, hjz0, hjz1, hjz2⟩ := info_parts rows_info
  obtain ⟨i0, hi, hz0, hz1, hz2⟩ := info_parts int_info
  have m1 := fun W => make_bools n (by omega) W
  go_enter Tryz.func63, Tryz.ntmps63
  go_wp2
  clear m1
  have hB0 := Blk.new w 4 (farr n fun _ => .bool false)
  have hb0 : Below w.heap.size w (w.alloc (.cells (farr n fun _ => .bool false) 4)) := (Below.refl _ _).alloc (Nat.le_refl _) _
  generalize w.alloc (.cells (farr n fun _ => .bool false) 4) = W at hB0 hb0 ⊢
  go_loopw [5, 3] (fun x v wr => ∃ (l m cr : Nat) (R : Option Addr) (F : Nat → Option Addr × Nat) (ls : Nat → List Int) (gone : Nat → Bool), x = .int .i64 l ∧ l ≤ n ∧ v = .slice R m cr ∧ Hid (Phase1 t n (w.heap.size + 1) w (n - l) m cr R F ls gone wr)) (fun x _ _ => (intOf x).toNat)
  case atStart => exact ⟨n, 0, 0, none, fun _ => (none, 0), fun _ => [], fun _ => false, rfl, Nat.le_refl _, rfl, Lib.hid ⟨Nat.le_refl _, Nat.zero_le _, World.ownsRow_nil _ _ _ _, fun i hi => by omega, hB0, hb0, by rw [Nat.sub_self]; rfl⟩⟩
  case round =>
    clear hB0 hb0
    obtain ⟨wo, rfl⟩ : ∃ wo : World, wo = wr := ⟨_, rfl⟩
    obtain ⟨l, m, cr, R, F, ls, gone, rfl, hl, rfl, HP⟩ := hrel
    obtain ⟨hmc, hmr, hR, hRows, hG, hb, hmt⟩ := HP.out
    have HM := Lib.hid hmt
    clear hmt HP
    have hTo := hT.keep hb (Nat.le_refl _)
    have hGlt : w.heap.size < wo.heap.size := hG.lt
    by_cases hl0 : 0 < l
    · have hlb : decide ((0 : Int) < (l : Int)) = true := by simp; omega
      have hlb' : decide (0 < l) = true := by simp; omega
      have HR := Lib.hid (And.intro hR hRows)
      clear hR hRows
      go_wp2
      go_loopw [6, 3] (fun x v wr => ∃ k : Nat, x = .int .i64 k ∧ v = .slice R m cr ∧ k ≤ n ∧ Hid (∀ j, j < k → okV t n gone j = false) ∧ Hid (wo = wr)) (fun x _ _ => n - (intOf x).toNat)
      case atStart => exact ⟨0, rfl, rfl, Nat.zero_le _, Lib.hid (fun j h => by omega), Lib.hid rfl⟩
      case round =>
        obtain ⟨k, rfl, rfl, hk, HALL, HW⟩ := hrel
        have hw := HW.out
        subst hw
        clear HW
        by_cases hkn : k < n
        · have hkb : decide ((k : Int) < (n : Int)) = true := by simp; omega
          have hs := rsimp_any g w.heap.size n k t gone wo hTo hG hkn hn
          have cgk := (hG.cell k).trans (farr_at n _ hkn)
          have k0 : (0 : Int) ≤ (k : Int) := by omega
          have k1 : (k : Int) < (n : Int) := by omega
          have HD : Hid (okV t n gone k = (!gone k && simpB t n gone k)) := Lib.hid rfl
          have HS := Lib.hid hs
          clear hs
          generalize simpB t n gone k = sk at HD HS
          have HNO : Hid (okV t n gone k = false → ∀ j, j < k + 1 → okV t n gone j = false) := Lib.hid (fun h j hj => by
            by_cases e : j = k
            · rw [e]; exact h
            · exact HALL.out j (by omega))
          obtain ⟨gk, hgk⟩ : ∃ gk, gone k = gk := ⟨_, rfl⟩
          rw [hgk] at cgk HD
          have HGK := Lib.hid hgk
          clear hgk
          cases gk
          · cases sk
            · have HK2 := Lib.hid (HNO.out (by rw [HD.out]; rfl))
              clear HNO HD HALL
              go_wp2_with (go_at_call 99; refine HS.out.mono ?_; rintro e w' ⟨rfl, rfl⟩)
              go_roundw
              case rel => exact ⟨k + 1, by go_num, rfl, by omega, HK2, by first | exact Lib.hid rfl | exact Lib.hid trivial⟩
              case measure => simp [intOf]; omega
            · have HOK : Hid (okV t n gone k = true) := Lib.hid (by rw [HD.out]; rfl)
              have HFD : Hid ((List.range n).find? (okV t n gone) = some k) := Lib.hid (find_first hkn HOK.out HALL.out)
              have HN : Hid (maxTo t n (n - (l - 1)) = (updF gone k true, (List.range m).map ls ++ [natsI (rowSet t n gone k)])) := Lib.hid (by
                rw [show n - (l - 1) = n - l + 1 from by omega, maxTo_some (i := k) (by rw [HM.out]; exact HFD.out), HM.out])
              clear HNO HD HALL HOK HFD
              go_wp2_with (go_at_call 99; refine HS.out.mono ?_; rintro e w' ⟨rfl, rfl⟩)
              go_loopw [8, 7] (fun x v wr => ∃ (q : Nat) (V : Option Addr) (d : Nat) (l2 : List Nat), x = .int .i64 q ∧ q ≤ n ∧ v = .slice V l2.length d ∧ l2.length ≤ d ∧ l2.length ≤ q ∧ Hid (l2 = (List.range q).filter fun x => decide (x = k) || (t k x && !gone x)) ∧ wr.ownsRow wo.heap.size 3 1 (.slice V l2.length d) l2.length (l2.map vn) ∧ Below wo.heap.size wo wr) (fun x _ _ => n - (intOf x).toNat)
              case atStart => exact ⟨0, none, 0, [], rfl, Nat.zero_le _, rfl, Nat.le_refl _, Nat.le_refl _, Lib.hid (by simp), World.ownsRow_nil _ _ _ _, Below.refl _ _⟩
              case round =>
                obtain ⟨q, V, d, l2, rfl, hq, rfl, hld, hlq, HL, hown, hb2⟩ := hrel
                have hT2 := hTo.keep hb2 (Nat.le_refl _)
                have hG2 := hG.keep hb2 hGlt
                by_cases hqn : q < n
                · have hqb : decide ((q : Int) < (n : Int)) = true := by simp; omega
                  have ck := (hT2.head.cell k).trans (farr_at n _ hkn)
                  unfold rowV at ck
                  have ckq := ((hT2.row k hkn).cell q).trans (farr_at n _ hqn)
                  have cgq := (hG2.cell q).trans (farr_at n _ hqn)
                  have q0 : (0 : Int) ≤ (q : Int) := by omega
                  have q1 : (q : Int) < (n : Int) := by omega
                  have HSN : Hid ((List.range (q + 1)).filter (fun x => decide (x = k) || (t k x && !gone x)) = ((List.range q).filter fun x => decide (x = k) || (t k x && !gone x)) ++ if (decide (q = k) || (t k q && !gone q)) = true then [q] else []) := Lib.hid (by
                    rw [List.range_succ, List.filter_append]
                    cases hh : (decide (q = k) || (t k q && !gone q)) <;> simp [hh])
                  generalize t k q = tkq at ckq HSN
                  generalize gone q = gq at cgq HSN
                  have hsz2 := hb2.size
                  have hyes : (decide (q = k) || (tkq && !gq)) = true → Hid (l2 ++ [q] = (List.range (q + 1)).filter fun x => decide (x = k) || (t k x && !gone x)) := fun h => Lib.hid (by rw [HSN.out, if_pos h, HL.out])
                  have hno : (decide (q = k) || (tkq && !gq)) = false → Hid (l2 = (List.range (q + 1)).filter fun x => decide (x = k) || (t k x && !gone x)) := fun h => Lib.hid (by rw [HSN.out, if_neg (by rw [h]; simp), List.append_nil, HL.out])
                  have HY := Lib.hid hyes
                  have HNN := Lib.hid hno
                  have hlen : (l2 ++ [q]).length = l2.length + 1 := by simp
                  have HLEN := Lib.hid hlen
                  clear hyes hno HSN hT2 hG2 hlen
                  have hcases : (q = k) ∨ (q ≠ k ∧ tkq = true ∧ gq = false) ∨ (q ≠ k ∧ tkq = true ∧ gq = true) ∨ (q ≠ k ∧ tkq = false) := by
                    by_cases h1 : q = k
                    · exact .inl h1
                    · cases tkq <;> cases gq <;> simp [h1]
                  rcases hcases with h1 | ⟨h1, rfl, rfl⟩ | ⟨h1, rfl, rfl⟩ | ⟨h1, rfl⟩
                  · have e1 : ((q : Int) == (k : Int)) = true := beq_iff_eq.2 (by omega)
                    have HL2 := HY.out (by simp [h1])
                    clear h1 HY HNN
                    go_wp2_with (at_builtin; refine wpList_append_own _ rfl _ _ 36 rfl wo.heap.size 3 i0 (.int .i64 0) 1 8 Tryz.underlying36 hi hz0 hz1 hz2 rfl (by decide) (.slice V l2.length d) l2.length (l2.map vn) rfl (hown.alloc _) ⟨wr.heap.size, 0, none⟩ 1 1 [.int .i64 q] rfl rfl ?c1 ?c2 ?c3 ?c4 ?c5 ?_
                                 case c1 => exact cell_one_new _ _ _
                                 case c2 => simp [Value.oneCell']
                                 case c3 => simp only [maxLen]; omega
                                 case c4 => omega
                                 case c5 => simp; omega
                                 intro v' w2 hown' hgrow _
                                 obtain ⟨V2, c2, hv2, hle2, _⟩ := Sl.of_own hown'
                                 subst hv2)
                    go_roundw
                    case rel =>
                      refine ⟨q + 1, V2, c2, l2 ++ [q], by go_num, by omega, by rw [HLEN.out], by rw [HLEN.out]; exact hle2, by rw [HLEN.out]; omega, HL2, ?_, ?_⟩
                      · rw [HLEN.out]; simpa [vn] using hown'
                      · exact (hb2.alloc hb2.size _).grown hgrow (by simp; omega) (fun p hp => (hown.lt p hp).1)
                    case measure => simp [intOf]; omega
                  · have e1 : ((q : Int) == (k : Int)) = false := beq_eq_false_iff_ne.2 (by omega)
                    have HL2 := HY.out (by simp)
                    clear h1 HY HNN
                    go_wp2_with (at_builtin; refine wpList_append_own _ rfl _ _ 36 rfl wo.heap.size 3 i0 (.int .i64 0) 1 8 Tryz.underlying36 hi hz0 hz1 hz2 rfl (by decide) (.slice V l2.length d) l2.length (l2.map vn) rfl (hown.alloc _) ⟨wr.heap.size, 0, none⟩ 1 1 [.int .i64 q] rfl rfl ?c1 ?c2 ?c3 ?c4 ?c5 ?_
                                 case c1 => exact cell_one_new _ _ _
                                 case c2 => simp [Value.oneCell']
                                 case c3 => simp only [maxLen]; omega
                                 case c4 => omega
                                 case c5 => simp; omega
                                 intro v' w2 hown' hgrow _
                                 obtain ⟨V2, c2, hv2, hle2, _⟩ := Sl.of_own hown'
                                 subst hv2)
                    go_roundw
                    case rel =>
                      refine ⟨q + 1, V2, c2, l2 ++ [q], by go_num, by omega, by rw [HLEN.out], by rw [HLEN.out]; exact hle2, by rw [HLEN.out]; omega, HL2, ?_, ?_⟩
                      · rw [HLEN.out]; simpa [vn] using hown'
                      · exact (hb2.alloc hb2.size _).grown hgrow (by simp; omega) (fun p hp => (hown.lt p hp).1)
                    case measure => simp [intOf]; omega
                  · have e1 : ((q : Int) == (k : Int)) = false := beq_eq_false_iff_ne.2 (by omega)
                    have HL2 := HNN.out (by simp [h1])
                    clear h1 HY HNN
                    go_wp2
                    go_roundw
                    case rel => exact ⟨q + 1, V, d, l2, by go_num, by omega, rfl, hld, by omega, HL2, hown, hb2⟩
                    case measure => simp [intOf]; omega
                  · have e1 : ((q : Int) == (k : Int)) = false := beq_eq_false_iff_ne.2 (by omega)
                    have HL2 := HNN.out (by simp [h1])
                    clear h1 HY HNN
                    generalize gq = gq' at cgq
                    go_wp2
                    go_roundw
                    case rel => exact ⟨q + 1, V, d, l2, by go_num, by omega, rfl, hld, by omega, HL2, hown, hb2⟩
                    case measure => simp [intOf]; omega
                · obtain rfl : q = n := by omega
                  have hqb : decide ((q : Int) < (q : Int)) = false := by simp
                  have HLR : Hid (l2 = rowSet t q gone k) := Lib.hid HL.out
                  have hR6 := own_below HR.out.1 hb2 (Nat.le_refl _)
                  have hRw0 : RowsIn wr (w.heap.size + 1) m F ls := HR.out.2.below hb2 (Nat.le_refl _)
                  have HGA := Lib.hid (hG2.alloc (.cells #[.slice V l2.length d] 36))
                  have hsz2 := hb2.size
                  have f0 := (HGA.out.cell k).trans (farr_at q _ hkn)
                  have f1 := HGA.out.frozen k
                  clear HL hT2 f0 f1
                  go_wp2_with (at_builtin; refine wpList_append_own _ rfl _ _ 25 rfl (w.heap.size + 1) 36 j0 (.slice none 0 0) 1 24 Tryz.underlying25 hj hjz0 hjz1 hjz2 rfl (by decide) (.slice R m cr) m _ rfl (hR6.alloc _) ⟨wr.heap.size, 0, none⟩ 1 1 [.slice V l2.length d] rfl rfl ?c1 ?c2 ?c3 ?c4 ?c5 ?_
                               case c1 => exact cell_one_new _ _ _
                               case c2 => simp [Value.oneCell']
                               case c3 => simp only [maxLen]; omega
                               case c4 => omega
                               case c5 => simp; omega
                               intro v' w7 hR7 hg7 _
                               obtain ⟨R2, cr2, hv2, hle2, _⟩ := Sl.of_own hR7
                               subst hv2
                               have hG7 := HGA.out.grown hg7 (own_blk_ne (hR6.alloc _) HGA.out (by decide))
                               have f0 := (hG7.cell k).trans (farr_at q _ hkn)
                               have f1 := hG7.frozen k)
                  go_roundw
                  case rel =>
                    have hvl : l2.length = (natsI l2).length := by simp [natsI]
                    have hV7 : w7.ownsRow (w.heap.size + 1) 3 1 (.slice V (natsI l2).length d) (natsI l2).length ((natsI l2).map vi) := by
                      rw [← hvl, ← nats_vi]
                      exact own_base ((hown.alloc (.cells #[.slice V l2.length d] 36)).kept hg7 (own_ne hown hR6 (by decide))) (by omega)
                    have hRw : RowsIn w7 (w.heap.size + 1) m F ls := (hRw0.alloc (.cells #[.slice V l2.length d] 36)).kept hg7 (fun i hi => own_ne (hRw0 i hi) hR6 (by decide))
                    have hRs : RowsIn w7 (w.heap.size + 1) (m + 1) (snocF F m (V, d)) (snocF ls m (natsI l2)) := RowsIn.snoc (x := (V, d)) hRw hV7
                    have hGs := hG7.set k (.bool true)
                    rw [farr_upd (fun v : Bool => Value.bool v)] at hGs
                    refine ⟨l - 1, m + 1, cr2, R2, snocF F m (V, d), snocF ls m (natsI l2), updF gone k true, by go_num, by omega, rfl, Lib.hid ⟨hle2, by omega, ?_, ?_, hGs, ?_, ?_⟩⟩
                    · rw [map_snoc, ← hvl]
                      exact ownsRow_setCell_below hR7 (by simp) _
                    · exact fun i hi => ownsRow_setCell_below (hRs i hi) (by simp) _
                    · refine Below.setCell ?_ (by simp) _
                      exact ((below_all hb hb2).alloc (by omega) _).grown hg7 (by simp; omega) (fun p hp => by have := (hR6.lt p hp).1; omega)
                    · rw [HN.out, ← HLR.out, List.range_succ, List.map_append]
                      congr 2
                      · apply List.map_congr_left
                        intro i hi
                        have : i < m := by simpa using hi
                        simp [snocF]; omega
                      · simp [snocF]
                  case measure => simp [intOf]; omega
          · have HK2 := Lib.hid (HNO.out (by rw [HD.out]; rfl))
            clear HNO HD HS HALL
            go_wp2
            go_roundw
            case rel => exact ⟨k + 1, by go_num, rfl, by omega, HK2, by first | exact Lib.hid rfl | exact Lib.hid trivial⟩
            case measure => simp [intOf]; omega
        · obtain rfl : k = n := by omega
          have hkb : decide ((k : Int) < (k : Int)) = false := by simp
          have HN : Hid (maxTo t k (k - (l - 1)) = (gone, (List.range m).map ls)) := Lib.hid (by
            rw [show k - (l - 1) = k - l + 1 from by omega, maxTo_none (by rw [HM.out]; exact find_no HALL.out)]
            exact HM.out)
          go_wp2
          go_roundw
          case rel => exact ⟨l - 1, m, cr, R, F, ls, gone, by go_num, by omega, rfl, Lib.hid ⟨hmc, by omega, HR.out.1, HR.out.2, hG, hb, HN.out⟩⟩
          case measure => simp [intOf]; omega
    · obtain rfl : l = 0 := by omega
      have hlb : decide ((0 : Int) < ((0 : Nat) : Int)) = false := by simp
      obtain ⟨als, hals⟩ : ∃ als, (List.range m).map ls = als := ⟨_, rfl⟩
      have halen : als.length = m := by rw [← hals]; simp
      have HAL := Lib.hid halen
      have HAG : Hid (∀ i, i < m → als.getD i [] = ls i) := Lib.hid (fun i hi => by rw [← hals]; simp [hi])
      have HMX : Hid (maxTo t n n = (gone, als)) := Lib.hid (by have := HM.out; rwa [Nat.sub_zero, hals] at this)
      have HLEN : Hid (∀ i, i < m → (ls i).length ≤ 1000) := Lib.hid (by
        have key : ∀ r, ∀ x ∈ (maxTo t n r).2, x.length ≤ n := by
          intro r
          induction r with
          | zero => intro x hx; simp [maxTo] at hx
          | succ r ih =>
            cases hf : (List.range n).find? (okV t n (maxTo t n r).1) with
            | none => rw [maxTo_none hf]; exact ih
            | some i =>
              rw [maxTo_some hf]
              intro x hx
              rcases List.mem_append.1 hx with hx | hx
              · exact ih x hx
              · simp at hx
                subst hx
                unfold natsI rowSet
                rw [List.length_map]
                exact Nat.le_trans (List.length_filter_le _ _) (by simp)
        intro i hi2
        have h1 : ls i ∈ (maxTo t n n).2 := by rw [HMX.out, ← hals]; exact List.mem_map.2 ⟨i, by simpa using hi2, rfl⟩
        have := key n _ h1
        omega)
      have hmn : m ≤ n := by omega
      clear HM halen hals
      have HRW : Hid (∀ i, i < m → Ints wo (F i).1 (ls i)) := Lib.hid (fun i hi => Sl.own (hRows i hi))
      have hRS := Sl.own hR
      have HCELL : Hid (∀ i, i < m → ∃ ad, R = some ad ∧ wo.cell? (ad.add i) = some (.slice (F i).1 (ls i).length (F i).2)) := Lib.hid (fun i hi => by
        obtain ⟨ad, e, hc⟩ := Sl.at1 hRS hi
        refine ⟨ad, e, ?_⟩
        rw [hc]
        simp [enc])
      clear hRS hR hRows hG hTo hlb hl0
      go_wp2
      go_loopw [10, 9] (fun x v wr => ∃ (k m2 cr2 : Nat) (R2 : Option Addr) (idx : List Nat), x = .int .i64 k ∧ k ≤ m ∧ v = .slice R2 m2 cr2 ∧ Hid (idx.length = m2) ∧ m2 ≤ cr2 ∧ m2 ≤ k ∧ wr.ownsRow wo.heap.size 36 1 (.slice R2 m2 cr2) m2 (idx.map (enc F ls)) ∧ Hid (idx = keptI als k) ∧ Below wo.heap.size wo wr) (fun x _ _ => m - (intOf x).toNat)
      case atStart => exact ⟨0, 0, 0, none, [], rfl, Nat.zero_le _, rfl, Lib.hid rfl, Nat.le_refl _, Nat.le_refl _, World.ownsRow_nil _ _ _ _, Lib.hid (by simp [keptI]), Below.refl _ _⟩
      case round =>
        obtain ⟨w3, rfl⟩ : ∃ w3 : World, w3 = wr := ⟨_, rfl⟩
        obtain ⟨k, m2, cr2, R2, idx, rfl, hk, rfl, HIL, hm2c, hm2k, hO, HI, hb3⟩ := hrel
        by_cases hkm : k < m
        · have hkb : decide ((k : Int) < (m : Int)) = true := by simp; omega
          obtain ⟨ad, rfl, hck0⟩ := HCELL.out k hkm
          have hAk := HRW.out k hkm
          have k0 : (0 : Int) ≤ (k : Int) := by omega
          have k1 : (k : Int) < (m : Int) := by omega
          go_wp2
          go_loopw [12, 11] (fun x v wr => ∃ (q : Nat) (b : Bool), x = .int .i64 q ∧ v = .bool b ∧ q ≤ m ∧ Hid (b = (List.range q).all (keepP als k)) ∧ Below w3.heap.size w3 wr) (fun x _ _ => m - (intOf x).toNat)
          case atStart => exact ⟨0, true, rfl, rfl, Nat.zero_le _, Lib.hid (by simp), Below.refl _ _⟩
          case round =>
            obtain ⟨q, b, rfl, rfl, hq, HB, hb4⟩ := hrel
            have hbw : Below wo.heap.size wo wr := below_all hb3 hb4
            have hck := keep_cell hbw hck0
            by_cases hqm : q < m
            · have hqb : decide ((q : Int) < (m : Int)) = true := by simp; omega
              have HSN : Hid ((List.range (q + 1)).all (keepP als k) = ((List.range q).all (keepP als k) && keepP als k q)) := Lib.hid (by rw [List.range_succ, List.all_append]; simp)
              have q0 : (0 : Int) ≤ (q : Int) := by omega
              have q1 : (q : Int) < (m : Int) := by omega
              cases b
              · have HB2 : Hid (false = (List.range (q + 1)).all (keepP als k)) := Lib.hid (by rw [HSN.out, ← HB.out]; rfl)
                clear HSN HB
                go_wp2
                go_quiet (fail)
                go_wp2
                go_roundw
                case rel => exact ⟨q + 1, false, by go_num, rfl, by omega, HB2, below_drewN hb4 _⟩
                case measure => simp [intOf]; omega
              · by_cases hqk : q = k
                · have e1 : ((q : Int) == (k : Int)) = true := beq_iff_eq.2 (by omega)
                  have HB2 : Hid (true = (List.range (q + 1)).all (keepP als k)) := Lib.hid (by rw [HSN.out, ← HB.out]; simp [keepP, hqk])
                  clear HSN HB hqk
                  go_wp2
                  go_quiet (fail)
                  go_wp2
                  go_roundw
                  case rel => exact ⟨q + 1, true, by go_num, rfl, by omega, HB2, below_drewN hb4 _⟩
                  case measure => simp [intOf]; omega
                · have e1 : ((q : Int) == (k : Int)) = false := beq_eq_false_iff_ne.2 (by omega)
                  obtain ⟨ad', ead, hcq0⟩ := HCELL.out q hqm
                  injection ead with ead
                  subst ead
                  have hcq := keep_cell hbw hcq0
                  obtain ⟨sv, hsv⟩ : ∃ sv : Bool, sv = true ↔ common (ls k) (ls q) = (ls k).length := ⟨decide (common (ls k) (ls q) = (ls k).length), by simp⟩
                  have HB2 : Hid ((!sv) = (List.range (q + 1)).all (keepP als k)) := Lib.hid (by
                    rw [HSN.out, ← HB.out]
                    unfold keepP
                    rw [HAG.out k hkm, HAG.out q hqm]
                    have : sv = decide (common (ls k) (ls q) = (ls k).length) := by rw [Bool.eq_iff_iff, hsv]; simp
                    rw [this]; simp [hqk])
                  have HC1 : Hid (∀ n, Calls Tryz.prog 100 #[.slice (F k).1 (ls k).length (F k).2, .slice (F q).1 (ls q).length (F q).2] (wr.drewN n) fun e w' => e = .returned (.bool sv) ∧ ∃ m, w' = wr.drewN m) :=
                    Lib.hid fun n => (rsub_any _ _ (ls k) (ls q) (F k).2 (F q).2 sv (wr.drewN n) ((hAk.keep hbw).drewN n) (((HRW.out q hqm).keep hbw).drewN n) (HLEN.out k hkm) (HLEN.out q hqm) hsv).mono fun _ _ ⟨h, m, hm⟩ => ⟨h, n + m, by rw [hm, World.drewN_drewN]⟩
                  clear HSN HB hqk hsv hcq0
                  cases sv
                  · go_wp2
                    go_quiet ((go_at_call 100; with_reducible exact HC1.out _))
                    go_wp2
                    go_roundw
                    case rel => exact ⟨q + 1, true, by go_num, rfl, by omega, HB2, below_drewN hb4 _⟩
                    case measure => simp [intOf]; omega
                  · go_wp2
                    go_quiet ((go_at_call 100; with_reducible exact HC1.out _))
                    go_wp2
                    go_roundw
                    case rel => exact ⟨q + 1, false, by go_num, rfl, by omega, HB2, below_drewN hb4 _⟩
                    case measure => simp [intOf]; omega
            · obtain rfl : q = m := by omega
              have hqb : decide ((q : Int) < (q : Int)) = false := by simp
              have HBK : Hid (b = keepI als k) := Lib.hid (by unfold keepI; rw [HAL.out]; exact HB.out)
              have HSN : Hid (keptI als (k + 1) = keptI als k ++ if keepI als k = true then [k] else []) := Lib.hid (by
                unfold keptI
                rw [List.range_succ, List.filter_append]
                cases hh : keepI als k <;> simp [hh])
              have hO4 := own_below hO hb4 (Nat.le_refl _)
              have hsz3 := hb3.size
              have hsz4 := hb4.size
              clear HB
              cases b
              · have HI2 : Hid (idx = keptI als (k + 1)) := Lib.hid (by rw [HSN.out, ← HBK.out, HI.out]; simp)
                clear HSN HBK
                go_wp2
                go_roundw
                case rel => exact ⟨k + 1, m2, cr2, R2, idx, by go_num, by omega, rfl, HIL, hm2c, by omega, hO4, HI2, hbw⟩
                case measure => simp [intOf]; omega
              · have HI2 : Hid (idx ++ [k] = keptI als (k + 1)) := Lib.hid (by rw [HSN.out, ← HBK.out, HI.out]; simp)
                clear HSN HBK
                go_wp2_with (at_builtin; refine wpList_append_own _ rfl _ _ 25 rfl wo.heap.size 36 j0 (.slice none 0 0) 1 24 Tryz.underlying25 hj hjz0 hjz1 hjz2 rfl (by decide) (.slice R2 m2 cr2) m2 _ rfl (hO4.alloc _) ⟨wr.heap.size, 0, none⟩ 1 1 [.slice (F k).1 (ls k).length (F k).2] rfl rfl ?c1 ?c2 ?c3 ?c4 ?c5 ?_
                             case c1 => exact cell_one_new _ _ _
                             case c2 => simp [Value.oneCell']
                             case c3 => simp only [maxLen]; omega
                             case c4 => omega
                             case c5 => simp; omega
                             intro v' w7 hR7 hg7 _
                             obtain ⟨R3, cr3, hv2, hle2, _⟩ := Sl.of_own hR7
                             subst hv2)
                go_roundw
                case rel =>
                  have hrel2 : w7.ownsRow wo.heap.size 36 1 (.slice R3 (m2 + 1) cr3) (m2 + 1) ((idx ++ [k]).map (enc F ls)) := by rw [List.map_append]; exact hR7
                  have hbel2 : Below wo.heap.size wo w7 := (hbw.alloc hbw.size _).grown hg7 (by simp; omega) (fun p hp => (hO4.lt p hp).1)
                  (repeat apply Exists.intro)
                  exact ⟨⟨k + 1, m2 + 1, cr3, R3, idx ++ [k], by go_num, by omega, rfl, Lib.hid (by rw [List.length_append, HIL.out]; rfl), hle2, by omega, hrel2, HI2, hbel2⟩, rfl⟩
                case measure => simp [intOf]; omega
        · obtain rfl : k = m := by omega
          have hkb : decide ((k : Int) < (k : Int)) = false := by simp
          have HIM : Hid (∀ i ∈ idx, i < k) := Lib.hid (fun i hi2 => by
            rw [HI.out] at hi2
            unfold keptI at hi2
            have := (List.mem_filter.1 hi2).1
            simpa using this)
          have HFIN : Hid (∀ l' : List Nat, l'.Perm idx → (l'.map ls).Perm ((keptI (maxTo t n n).2 (maxTo t n n).2.length).map fun i => (maxTo t n n).2.getD i [])) := Lib.hid (fun l' hp => by
            rw [HMX.out]
            simp only
            rw [HAL.out, ← HI.out]
            rw [List.map_congr_left (g := ls) (fun i hi2 => HAG.out i (HIM.out i hi2))]
            exact hp.map _)
          have hbw3 : Below w.heap.size w w3 := below_all hb hb3
          rcases hO.2 with ⟨hv, hm0⟩ | ⟨g3, cap, cur, hv, hgb, hg, hmc3, _, hcs, htake⟩
          · injection hv with h1 h2 h3
            subst h1 h2 h3
            have hnil : idx = [] := List.eq_nil_of_length_eq_zero HIL.out
            have HFN := Lib.hid (HFIN.out [] (by rw [hnil]))
            clear hnil
            go_wp2
            go_loopw [13] (fun x wr => x = .int .i64 1 ∧ Hid (w3 = wr)) (fun _ _ => 0)
            case atStart => exact ⟨rfl, Lib.hid rfl⟩
            case round =>
              obtain ⟨rfl, HW⟩ := hrel
              have hw := HW.out
              subst hw
              clear HW
              go_wp2
              go_ret
              exact ⟨[], none, 0, rfl, ⟨fun _ => (none, 0), Sl.nil _ _ _, fun i hi2 => by simp at hi2⟩, HFN.out, fun a b _ hb => by simp at hb, hbw3⟩
          · injection hv with h1 h2 h3
            subst h1 h3
            have hB : Blk w3 g3 36 (rarr F ls idx (cur.toList.drop m2)) := by
              unfold Blk
              rw [hg, rarr, ← htake, Nat.mul_one, List.take_append_drop]
            generalize cur.toList.drop m2 = rest at hB
            have HIL2 := HIL.out
            subst HIL2
            have hidl : idx.length ≤ 64 := by omega
            have HW := Lib.hid (weakL ls)
            clear hg htake hcs hO HIL hkb
            go_wp2
            go_loopw [13] (fun x wr => ∃ (i : Nat) (q : List Nat), x = .int .i64 i ∧ 1 ≤ i ∧ i ≤ idx.length + 1 ∧ Hid (q.length = idx.length) ∧ Hid (q.Perm idx) ∧ Hid (sortedTo (fun i j => cmpL (ls i) (ls j)) q i) ∧ Blk wr g3 36 (rarr F ls q rest) ∧ Below wo.heap.size wo wr) (fun x _ => idx.length + 1 - (intOf x).toNat)
            case atStart => exact ⟨1, idx, rfl, by omega, by omega, Lib.hid rfl, Lib.hid (List.Perm.refl _), Lib.hid (fun a b h1 h2 => by omega), hB, hb3⟩
            case round =>
              clear hB hb3 hbw3
              obtain ⟨i, p0, rfl, hi1, hi2, HPL, HPP, HSS, hB, hb3⟩ := hrel
              by_cases hil : i < idx.length
              · have hib : decide ((i : Int) < (idx.length : Int)) = true := by simp; omega
                have HB0 : Hid (sortedBut (fun i j => cmpL (ls i) (ls j)) p0 i i) := Lib.hid (sortedBut_start HSS.out)
                clear HSS
                go_wp2
                go_loopw [14] (fun x wr => ∃ (j : Nat) (q : List Nat), x = .int .i64 j ∧ j ≤ i ∧ Hid (q.length = idx.length) ∧ Hid (q.Perm idx) ∧ Hid (sortedBut (fun i j => cmpL (ls i) (ls j)) q i j) ∧ Blk wr g3 36 (rarr F ls q rest) ∧ Below wo.heap.size wo wr) (fun x _ => (intOf x).toNat)
                case atStart => exact ⟨i, p0, rfl, Nat.le_refl _, HPL, HPP, HB0, hB, hb3⟩
                case round =>
                  clear hB hb3 HPP HB0 HPL
                  obtain ⟨j, q, rfl, hj2, HQL, HP, HS, hB, hb3⟩ := hrel
                  by_cases hj0 : j = 0
                  · have dj : decide ((0 : Int) < (j : Int)) = false := by simp; omega
                    have dj2 : decide (0 < j) = false := by simp; omega
                    have HS2 : Hid (sortedTo (fun i j => cmpL (ls i) (ls j)) q (i + 1)) := Lib.hid (sortedBut_stop HW.out HS.out (.inl hj0))
                    clear HS hj0
                    go_wp2
                    go_quiet (fail)
                    go_wp2
                    go_roundw
                    case rel => exact ⟨i + 1, q, by go_num, by omega, by omega, HQL, HP, HS2, hB.drewN _, below_drewN hb3 _⟩
                    case measure => simp [intOf]; omega
                  · have dj : decide ((0 : Int) < (j : Int)) = true := by simp; omega
                    have dj2 : decide (0 < j) = true := by simp; omega
                    have cj := (hB.cell j).trans (rarr_at F ls q rest (by rw [HQL.out]; omega))
                    have cp := (hB.cell (j - 1)).trans (rarr_at F ls q rest (k := j - 1) (by rw [HQL.out]; omega))
                    unfold enc at cj cp
                    have hmj : q.getD j 0 < k := HIM.out _ (HP.out.mem_iff.1 (getD_mem (by rw [HQL.out]; omega)))
                    have hmp : q.getD (j - 1) 0 < k := HIM.out _ (HP.out.mem_iff.1 (getD_mem (by rw [HQL.out]; omega)))
                    obtain ⟨lv, hlv⟩ : ∃ lv : Bool, lv = true ↔ cmpL (ls (q.getD j 0)) (ls (q.getD (j - 1) 0)) < 0 := ⟨decide (cmpL (ls (q.getD j 0)) (ls (q.getD (j - 1) 0)) < 0), by simp⟩
                    have HC1 : Hid (∀ n, Calls Tryz.prog 101 #[.slice (F (q.getD j 0)).1 (ls (q.getD j 0)).length (F (q.getD j 0)).2, .slice (F (q.getD (j - 1) 0)).1 (ls (q.getD (j - 1) 0)).length (F (q.getD (j - 1) 0)).2] (wr.drewN n) fun e w' => e = .returned (.bool lv) ∧ ∃ m, w' = wr.drewN m) :=
                      Lib.hid fun n => (rless_any _ _ (ls (q.getD j 0)) (ls (q.getD (j - 1) 0)) _ _ lv (wr.drewN n) (((HRW.out _ hmj).keep hb3).drewN n) (((HRW.out _ hmp).keep hb3).drewN n) (HLEN.out _ hmj) (HLEN.out _ hmp) hlv).mono fun _ _ ⟨h, m, hm⟩ => ⟨h, n + m, by rw [hm, World.drewN_drewN]⟩
                    have HJ := Lib.hid (show 0 < j by omega)
                    have HLV := Lib.hid hlv
                    clear hlv hj0 hmj hmp
                    have hjp : 0 < j := HJ.out
                    have k2 : (1 : Int) ≤ (j : Int) := by omega
                    have k1 : (j : Int) - 1 < (idx.length : Int) := by omega
                    have k0 : (j : Int) < (idx.length : Int) := by omega
                    have k00 : (0 : Int) ≤ (j : Int) := by omega
                    have k4 : IntKind.i64.wrap ((j : Int) - 1) = (j : Int) - 1 := IntWalk.i64_in _ (by have := HJ.out; omega)
                    have k3 : ((j : Int) - 1).toNat = j - 1 := by omega
                    cases lv
                    · have hz : ¬ cmpL (ls (q.getD j 0)) (ls (q.getD (j - 1) 0)) < 0 := fun h => by have := HLV.out.2 h; cases this
                      have HS2 : Hid (sortedTo (fun i j => cmpL (ls i) (ls j)) q (i + 1)) := Lib.hid (sortedBut_stop HW.out HS.out (.inr hz))
                      clear HS HLV hz
                      generalize q.getD j 0 = a1 at cj HC1
                      generalize q.getD (j - 1) 0 = a2 at cp HC1
                      go_wp2
                      go_quiet ((go_at_call 101; with_reducible exact HC1.out _))
                      go_wp2
                      go_roundw
                      case rel => exact ⟨i + 1, q, by go_num, by omega, by omega, HQL, HP, HS2, hB.drewN _, below_drewN hb3 _⟩
                      case measure => simp [intOf]; omega
                    · have hz : cmpL (ls (q.getD j 0)) (ls (q.getD (j - 1) 0)) < 0 := HLV.out.1 rfl
                      have HS2 : Hid (sortedBut (fun i j => cmpL (ls i) (ls j)) (swp q j) i (j - 1)) := Lib.hid (sortedBut_swap HW.out HS.out HJ.out hj2 (by rw [HQL.out]; exact hil) hz)
                      have HP2 : Hid ((swp q j).Perm idx) := Lib.hid ((swp_perm HJ.out (by rw [HQL.out]; omega)).trans HP.out)
                      have B1 : Blk ((wr.setCell ⟨g3, j - 1, none⟩ (enc F ls (q.getD j 0))).setCell ⟨g3, j, none⟩ (enc F ls (q.getD (j - 1) 0))) g3 36 (rarr F ls ((q.set (j - 1) (q.getD j 0)).set j (q.getD (j - 1) 0)) rest) := by
                        have := (hB.set (j - 1) (enc F ls (q.getD j 0))).set j (enc F ls (q.getD (j - 1) 0))
                        rw [rarr_set F ls q rest (by rw [HQL.out]; omega), rarr_set F ls _ rest (by rw [List.length_set, HQL.out]; omega)] at this
                        exact this
                      have hsw : (q.set (j - 1) (q.getD j 0)).set j (q.getD (j - 1) 0) = swp q j := by
                        unfold swp
                        have := HJ.out
                        rw [List.set_comm _ _ (by omega)]
                      rw [hsw] at B1
                      have HB1 := Lib.hid B1
                      have fj := hB.frozen j
                      have fp := hB.frozen (j - 1)
                      have HBL := Lib.hid ((hb3.setCell (p := ⟨g3, j - 1, none⟩) (by simpa using hgb) (enc F ls (q.getD j 0))).setCell (p := ⟨g3, j, none⟩) (by simpa using hgb) (enc F ls (q.getD (j - 1) 0)))
                      unfold enc at HB1 HBL
                      clear HS HP B1 hsw HLV hz
                      generalize q.getD j 0 = a1 at cj HC1 HB1 HBL
                      generalize q.getD (j - 1) 0 = a2 at cp HC1 HB1 HBL
                      go_wp2
                      go_quiet ((go_at_call 101; with_reducible exact HC1.out _))
                      go_wp2
                      go_region
                      go_wp2
                      go_roundw
                      case rel =>
                        have hq : ((j - 1 : Nat) : Int) = (j : Int) - 1 := by omega
                        refine ⟨j - 1, swp q j, by rw [hq], by omega, Lib.hid (by rw [swp_len]; exact HQL.out), HP2, HS2, HB1.out, below_drewN HBL.out _⟩
                      case measure => simp [intOf]; omega
              · have hib : decide ((i : Int) < (idx.length : Int)) = false := by simp; omega
                have HFN := Lib.hid (HFIN.out p0 HPP.out)
                have hbw4 : Below w.heap.size w wr := below_all hb hb3
                go_wp2
                go_ret
                have hl' : p0.length = idx.length := HPL.out
                refine ⟨p0.map ls, some ⟨g3, 0, none⟩, cr2, by rw [List.length_map, hl']; rfl, ?_, HFN.out, ?_, hbw4⟩
                · refine ⟨fun i => F (p0.getD i 0), ⟨by simp, fun hn2 => ?_⟩, fun x hx => ?_⟩
                  · refine ⟨⟨g3, 0, none⟩, rfl, Blk.lt hB, fun j u hu => ?_⟩
                    have hj3 : j < p0.length := by
                      rcases Nat.lt_or_ge j p0.length with h | h
                      · exact h
                      · rw [List.getElem?_eq_none (by simp; omega)] at hu; cases hu
                    rw [add_lit, Nat.zero_add, hB.cell j, rarr_at _ _ _ _ hj3, ← hu]
                    simp [enc, hj3]
                  · have hx2 : x < p0.length := by simpa using hx
                    have e2 : (p0.map ls).getD x [] = ls (p0.getD x 0) := by simp [hx2]
                    rw [e2]
                    exact (HRW.out _ (HIM.out _ (HPP.out.mem_iff.1 (getD_mem hx2)))).keep hb3
                · intro a b hab hb5
                  have hbl : b < p0.length := by simpa using hb5
                  have := HSS.out a b hab (by omega)
                  simp only [List.getD_eq_getElem?_getD, List.getElem?_map, List.getElem?_eq_getElem hbl, List.getElem?_eq_getElem (show a < p0.length by omega)] at this ⊢
                  exact this
end Go.Proofs.Tg.Gx
end
section
/- Plain: the maximal cliques of a chordal graph have a clique tree. -/
namespace Go.Gr
open Go.Chordal Go.Jt
def at0 (L : List Nat) (r : Nat) : Nat := L.getD r 0
theorem at0_mem {L : List Nat} {r : Nat} (h : r < L.length) : at0 L r ∈ L := by unfold at0; rw [List.getD_eq_getElem?_getD, List.getElem?_eq_getElem h]; exact List.getElem_mem _
theorem at0_of {L : List Nat} {s : Nat} (h : s ∈ L) : ∃ r, r < L.length ∧ at0 L r = s := by
  obtain ⟨r, hr, e⟩ := List.getElem_of_mem h
  exact ⟨r, hr, by unfold at0; rw [List.getD_eq_getElem?_getD, List.getElem?_eq_getElem hr]; exact e⟩
theorem at0_inj {L : List Nat} (hn : L.Nodup) {a b : Nat} (ha : a < L.length) (hb : b < L.length) (e : at0 L a = at0 L b) : a = b := by
  unfold at0 at e
  rw [List.getD_eq_getElem?_getD, List.getD_eq_getElem?_getD, List.getElem?_eq_getElem ha, List.getElem?_eq_getElem hb] at e
  simp only [Option.getD_some] at e
  rcases Nat.lt_trichotomy a b with h | h | h
  · exact absurd e (List.pairwise_iff_getElem.1 hn a b ha hb h)
  · exact h
  · exact absurd e.symm (List.pairwise_iff_getElem.1 hn b a hb ha h)
structure JInv (es : List (Int × Int)) (n k : Nat) (L : List Nat) (pf : Nat → Nat) : Prop where
  nd : L.Nodup
  small : ∀ s ∈ L, s < 18446744073709551616
  one : ∀ s ∈ L, ∃ v, s.testBit v = true
  vis : ∀ s ∈ L, ∀ v, s.testBit v = true → ∃ j, j < k ∧ ord (readAll es) n j = v
  clq : ∀ s ∈ L, ∀ u v, s.testBit u = true → s.testBit v = true → u ≠ v → readT es u v = true
  max : ∀ s ∈ L, ∀ j, j < k → (∀ u, s.testBit u = true → u ≠ ord (readAll es) n j → readT es u (ord (readAll es) n j) = true) → s.testBit (ord (readAll es) n j) = true
  cover : ∀ j, j < k → ∃ s ∈ L, ∀ v, (v = ord (readAll es) n j ∨ (readT es (ord (readAll es) n j) v = true ∧ ∃ i, i < j ∧ ord (readAll es) n i = v)) → s.testBit v = true
  par : ∀ r, 0 < r → r < L.length → pf r < r
  run : ∀ v, (∃ s ∈ L, s.testBit v = true) → links (at0 L) (fun r => at0 L (pf r)) L.length v + 1 = occ (at0 L) L.length v
theorem jinv {n : Nat} {es : List (Int × Int)} (h : valid n es) (hc : isChordal (readAll es) n = true) : ∀ k, k ≤ n → ∃ L pf, JInv es n k L pf := by
  have hn : n ≤ 64 := by have := h.2.1; omega
  have hN := valid_nice h
  have hS := (readAll_small es n h).1
  have hch := (chordal_iff hS hn).1 hc
  intro k
  induction k with
  | zero =>
    intro _
    refine ⟨[], fun _ => 0, ⟨by simp, by simp, by simp, by simp, by simp, by simp, by intro j hj; omega, by intro r h1 h2; simp at h2, by simp⟩⟩
  | succ k ih =>
    intro hk
    obtain ⟨L, pf, I⟩ := ih (by omega)
    have hkn : k < n := by omega
    obtain ⟨x, hx⟩ : ∃ x, ord (readAll es) n k = x := ⟨_, rfl⟩
    obtain ⟨S, hSd⟩ : ∃ S, readAll es (ord (readAll es) n k) &&& (searchTo (readAll es) n k).1 = S := ⟨_, rfl⟩
    have hSs : S < 18446744073709551616 := by rw [← hSd]; exact and_lt _ (hS _)
    have hSb : ∀ v, S.testBit v = true ↔ readT es x v = true ∧ ∃ j, j < k ∧ ord (readAll es) n j = v := by
      intro v
      rw [← hSd, Nat.testBit_and, Bool.and_eq_true, vis_bit hn (by omega), ← hx, ← bt_read]
      rfl
    have hx64 : x < 64 := by rw [← hx]; have := ord_lt (A := readAll es) hn hkn; omega
    have hS'b : ∀ v, (bset S x).testBit v = true ↔ v = x ∨ S.testBit v = true := by
      intro v
      rw [bset_bit, Bool.or_eq_true, decide_eq_true_eq]
      constructor
      · rintro (h | h)
        · exact .inr h
        · exact .inl h.symm
      · rintro (h | h)
        · exact .inr h.symm
        · exact .inl h
    have hxL : ∀ s ∈ L, s.testBit x = false := by
      intro s hs
      cases hb : s.testBit x
      · rfl
      · obtain ⟨j, hj, e⟩ := I.vis s hs x hb
        rw [← hx] at e
        exact absurd e (ord_inj hn hj hkn)
    have hxS : S.testBit x = false := by
      cases hb : S.testBit x
      · rfl
      · have := ((hSb x).1 hb).1
        rw [hN.irr] at this
        cases this
    have hSclq : ∀ u v, S.testBit u = true → S.testBit v = true → u ≠ v → readT es u v = true := by
      intro u v hu hv hne
      obtain ⟨h1, i, hi, rfl⟩ := (hSb u).1 hu
      obtain ⟨h2, j, hj, rfl⟩ := (hSb v).1 hv
      rw [← hx] at h1 h2
      rw [← bt_read] at h1 h2 ⊢
      exact hch k i j hkn hi hj (fun e => hne (by rw [e])) h1 h2
    have hS'small : bset S x < 18446744073709551616 := bset_lt hSs hx64
    have hS'clq : ∀ u v, (bset S x).testBit u = true → (bset S x).testBit v = true → u ≠ v → readT es u v = true := by
      intro u v hu hv hne
      rw [hS'b] at hu hv
      rcases hu with rfl | hu
      · rcases hv with rfl | hv
        · exact absurd rfl hne
        · exact ((hSb v).1 hv).1
      · rcases hv with rfl | hv
        · exact hN.sym _ _ ((hSb u).1 hu).1
        · exact hSclq u v hu hv hne
    have hS'vis : ∀ v, (bset S x).testBit v = true → ∃ j, j < k + 1 ∧ ord (readAll es) n j = v := by
      intro v hv
      rcases (hS'b v).1 hv with rfl | hv
      · exact ⟨k, by omega, hx⟩
      · obtain ⟨_, j, hj, e⟩ := (hSb v).1 hv
        exact ⟨j, by omega, e⟩
    -- a set of L whose members are all adjacent to x lies in S
    have hinS : ∀ s ∈ L, (∀ u, s.testBit u = true → u ≠ x → readT es u x = true) → ∀ u, s.testBit u = true → S.testBit u = true := by
      intro s hs hall u hu
      have hne : u ≠ x := by rintro rfl; rw [hxL s hs] at hu; cases hu
      rw [hSb]
      exact ⟨hN.sym _ _ (hall u hu hne), I.vis s hs u hu⟩
    -- and if S lies in a set of L, the two are one
    have hsame : ∀ s ∈ L, ∀ s0 ∈ L, (∀ u, s.testBit u = true → s0.testBit u = true) → s = s0 := by
      intro s hs s0 hs0 hsub
      apply Nat.eq_of_testBit_eq
      intro u
      rw [Bool.eq_iff_iff]
      refine ⟨hsub u, fun hu => ?_⟩
      obtain ⟨j, hj, rfl⟩ := I.vis s0 hs0 u hu
      exact I.max s hs j hj (fun w hw hne => I.clq s0 hs0 w _ (hsub w hw) hu hne)
    by_cases hSL : S ∈ L
    · -- S grows
      let g : Nat → Nat := fun s => if s = S then bset S x else s
      have hgS : g S = bset S x := by simp [g]
      have hgo : ∀ s, s ≠ S → g s = s := fun s hs => by simp [g, hs]
      have hgb : ∀ s, ∀ v, v ≠ x → (g s).testBit v = s.testBit v := by
        intro s v hv
        by_cases e : s = S
        · subst e
          rw [hgS, bset_bit]
          have hv2 : ¬ x = v := fun e => hv e.symm
          simp [hv2]
        · rw [hgo s e]
      have hgx : ∀ s ∈ L, ((g s).testBit x = true ↔ s = S) := by
        intro s hs
        by_cases e : s = S
        · rw [e, hgS, hS'b]; simp
        · rw [hgo s e, hxL s hs]; simp [e]
      have hget : ∀ r, r < L.length → at0 (L.map g) r = g (at0 L r) := by
        intro r hr
        unfold at0
        simp [List.getD_eq_getElem?_getD, hr]
      refine ⟨L.map g, pf, ⟨?_, ?_, ?_, ?_, ?_, ?_, ?_, ?_, ?_⟩⟩
      · rw [List.nodup_iff_pairwise_ne, List.pairwise_map]
        refine List.Pairwise.imp_of_mem (fun {a b} ha hb hne e => ?_) I.nd
        by_cases e1 : a = S
        · have := (hgx a ha).2 e1
          rw [e] at this
          exact hne (e1.trans ((hgx b hb).1 this).symm)
        · by_cases e2 : b = S
          · have := (hgx b hb).2 e2
            rw [← e] at this
            exact hne (((hgx a ha).1 this).trans e2.symm)
          · rw [hgo a e1, hgo b e2] at e
            exact hne e
      · intro s hs
        obtain ⟨s', hs', rfl⟩ := List.mem_map.1 hs
        by_cases e : s' = S
        · rw [e, hgS]; exact hS'small
        · rw [hgo s' e]; exact I.small s' hs'
      · intro s hs
        obtain ⟨s', hs', rfl⟩ := List.mem_map.1 hs
        by_cases e : s' = S
        · rw [e, hgS]; exact ⟨x, (hS'b x).2 (.inl rfl)⟩
        · rw [hgo s' e]; exact I.one s' hs'
      · intro s hs v hv
        obtain ⟨s', hs', rfl⟩ := List.mem_map.1 hs
        by_cases e : s' = S
        · rw [e, hgS] at hv; exact hS'vis v hv
        · rw [hgo s' e] at hv
          obtain ⟨j, hj, e2⟩ := I.vis s' hs' v hv
          exact ⟨j, by omega, e2⟩
      · intro s hs
        obtain ⟨s', hs', rfl⟩ := List.mem_map.1 hs
        by_cases e : s' = S
        · rw [e, hgS]; exact hS'clq
        · rw [hgo s' e]; exact I.clq s' hs'
      · intro s hs j hj hall
        obtain ⟨s', hs', rfl⟩ := List.mem_map.1 hs
        by_cases e : s' = S
        · subst e
          rw [hgS] at hall ⊢
          rw [hS'b]
          by_cases ejk : j = k
          · subst ejk; exact .inl hx
          · exact .inr (I.max s' hs' j (by omega) (fun u hu hne => hall u ((hS'b u).2 (.inr hu)) hne))
        · rw [hgo s' e] at hall ⊢
          by_cases ejk : j = k
          · subst ejk
            rw [hx] at hall ⊢
            exact absurd (hsame s' hs' S hSL (hinS s' hs' hall)) e
          · exact I.max s' hs' j (by omega) hall
      · intro j hj
        by_cases ejk : j = k
        · subst ejk
          refine ⟨g S, List.mem_map.2 ⟨S, hSL, rfl⟩, fun v hv => ?_⟩
          rw [hgS, hS'b]
          rcases hv with hv | ⟨h1, h2⟩
          · exact .inl (hv.trans hx)
          · exact .inr ((hSb v).2 ⟨by rw [← hx]; exact h1, h2⟩)
        · obtain ⟨s, hs, hcov⟩ := I.cover j (by omega)
          refine ⟨g s, List.mem_map.2 ⟨s, hs, rfl⟩, fun v hv => ?_⟩
          have hvx : v ≠ x := by
            rintro rfl
            have := hcov _ hv
            rw [hxL s hs] at this
            cases this
          rw [hgb s v hvx]
          exact hcov v hv
      · intro r h0 hr
        exact I.par r h0 (by simpa using hr)
      · intro v hex
        rw [List.length_map]
        by_cases evx : v = x
        · subst evx
          obtain ⟨r0, hr0, e0⟩ := at0_of hSL
          have hbit : ∀ r, r < L.length → ((at0 (L.map g) r).testBit v = true ↔ r = r0) := by
            intro r hr
            rw [hget r hr, hgx _ (at0_mem hr)]
            constructor
            · intro e; exact at0_inj I.nd hr hr0 (e.trans e0.symm)
            · intro e; rw [e, e0]
          have hocc : occ (at0 (L.map g)) L.length v = 1 := by
            unfold occ
            rw [List.filter_congr (q := fun r => decide (r = r0)) (fun r hr => by
              rw [Bool.eq_iff_iff, decide_eq_true_eq]; exact hbit r (by simpa using hr))]
            have : ∀ m, r0 < m → ((List.range m).filter fun r => decide (r = r0)).length = 1 := by
              intro m
              induction m with
              | zero => omega
              | succ m ihm =>
                intro hm
                rw [List.range_succ, List.filter_append, List.length_append]
                by_cases e : r0 = m
                · subst e
                  have : (List.range r0).filter (fun r => decide (r = r0)) = [] := List.filter_eq_nil_iff.2 (fun a ha => by
                    have : a < r0 := by simpa using ha
                    simp; omega)
                  rw [this]; simp
                · rw [ihm (by omega)]
                  have e3 : ¬ m = r0 := fun e2 => e e2.symm
                  simp [e3]
            exact this _ hr0
          have hlnk : links (at0 (L.map g)) (fun r => at0 (L.map g) (pf r)) L.length v = 0 := by
            unfold links
            rw [List.length_eq_zero_iff, List.filter_eq_nil_iff]
            intro r hr
            have hr : r < L.length := by simpa using hr
            intro hb
            rw [Nat.testBit_and] at hb
            simp only [Bool.and_eq_true, decide_eq_true_eq] at hb
            have e1 := (hbit r hr).1 hb.2.1
            have hp := I.par r hb.1 hr
            have e2 := (hbit (pf r) (by omega)).1 hb.2.2
            omega
          omega
        · have e1 : occ (at0 (L.map g)) L.length v = occ (at0 L) L.length v := by
            unfold occ
            congr 1
            apply List.filter_congr
            intro r hr
            rw [hget r (by simpa using hr), hgb _ v evx]
          have e2 : links (at0 (L.map g)) (fun r => at0 (L.map g) (pf r)) L.length v = links (at0 L) (fun r => at0 L (pf r)) L.length v := by
            unfold links
            congr 1
            apply List.filter_congr
            intro r hr
            have hr : r < L.length := by simpa using hr
            by_cases h0 : 0 < r
            · have hp := I.par r h0 hr
              simp only [Nat.testBit_and]
              rw [hget r hr, hget (pf r) (by omega), hgb _ v evx, hgb _ v evx]
            · simp [h0]
          rw [e1, e2]
          refine I.run v ?_
          obtain ⟨s, hs, hb⟩ := hex
          obtain ⟨s', hs', rfl⟩ := List.mem_map.1 hs
          exact ⟨s', hs', by rw [← hgb s' v evx]; exact hb⟩
    · -- a new set
      have hpar : L = [] ∨ ∃ p0, p0 < L.length ∧ ∀ u, S.testBit u = true → (at0 L p0).testBit u = true := by
        by_cases hL : L = []
        · exact .inl hL
        · right
          by_cases hSe : ∃ u, S.testBit u = true
          · have hlast : ∃ j, j < k ∧ S.testBit (ord (readAll es) n j) = true ∧ ∀ i, j < i → i < k → S.testBit (ord (readAll es) n i) = false := by
              obtain ⟨u, hu⟩ := hSe
              obtain ⟨_, j0, hj0, e0⟩ := (hSb u).1 hu
              have : ∀ d, ∀ j, j < k → k - j = d → S.testBit (ord (readAll es) n j) = true → ∃ j, j < k ∧ S.testBit (ord (readAll es) n j) = true ∧ ∀ i, j < i → i < k → S.testBit (ord (readAll es) n i) = false := by
                intro d
                induction d using Nat.strongRecOn with
                | _ d ihd =>
                  intro j hj hd hb
                  by_cases hex : ∃ i, j < i ∧ i < k ∧ S.testBit (ord (readAll es) n i) = true
                  · obtain ⟨i, h1, h2, h3⟩ := hex
                    exact ihd (k - i) (by omega) i h2 rfl h3
                  · refine ⟨j, hj, hb, fun i h1 h2 => ?_⟩
                    cases hbi : S.testBit (ord (readAll es) n i)
                    · rfl
                    · exact absurd ⟨i, h1, h2, hbi⟩ hex
              exact this _ j0 hj0 rfl (by rw [e0]; exact hu)
            obtain ⟨j, hj, hjb, hafter⟩ := hlast
            obtain ⟨s, hs, hcov⟩ := I.cover j hj
            obtain ⟨p0, hp0, e0⟩ := at0_of hs
            refine ⟨p0, hp0, fun u hu => ?_⟩
            rw [e0]
            refine hcov u ?_
            obtain ⟨_, i, hi, rfl⟩ := (hSb u).1 hu
            by_cases e : i = j
            · left; rw [e]
            · right
              have hij : i < j := by
                by_cases hij : i < j
                · exact hij
                · rw [hafter i (by omega) hi] at hu; cases hu
              exact ⟨hSclq _ _ hjb hu (fun e2 => ord_inj hn hij (by omega) e2.symm), i, hij, rfl⟩
          · refine ⟨0, List.length_pos_iff.2 hL, fun u hu => absurd ⟨u, hu⟩ hSe⟩
      obtain ⟨p0, hp0⟩ : ∃ p0, L = [] ∨ (p0 < L.length ∧ ∀ u, S.testBit u = true → (at0 L p0).testBit u = true) := by
        rcases hpar with h | ⟨p0, h⟩
        · exact ⟨0, .inl h⟩
        · exact ⟨p0, .inr h⟩
      have hg1 : ∀ r, r < L.length → at0 (L ++ [bset S x]) r = at0 L r := by
        intro r hr
        unfold at0
        rw [List.getD_eq_getElem?_getD, List.getElem?_append_left hr, List.getD_eq_getElem?_getD]
      have hg2 : at0 (L ++ [bset S x]) L.length = bset S x := by
        unfold at0
        rw [List.getD_eq_getElem?_getD, List.getElem?_append_right (Nat.le_refl _)]
        simp
      have hnew : bset S x ∉ L := by
        intro hm
        have := hxL _ hm
        rw [(hS'b x).2 (.inl rfl)] at this
        cases this
      refine ⟨L ++ [bset S x], fun r => if r = L.length then p0 else pf r, ⟨?_, ?_, ?_, ?_, ?_, ?_, ?_, ?_, ?_⟩⟩
      · rw [List.nodup_append]
        refine ⟨I.nd, by simp, fun a ha b hb e => ?_⟩
        simp at hb
        subst hb e
        exact hnew ha
      · intro s hs
        rcases List.mem_append.1 hs with hs | hs
        · exact I.small s hs
        · simp at hs; subst hs; exact hS'small
      · intro s hs
        rcases List.mem_append.1 hs with hs | hs
        · exact I.one s hs
        · simp at hs; subst hs; exact ⟨x, (hS'b x).2 (.inl rfl)⟩
      · intro s hs v hv
        rcases List.mem_append.1 hs with hs | hs
        · obtain ⟨j, hj, e⟩ := I.vis s hs v hv
          exact ⟨j, by omega, e⟩
        · simp at hs; subst hs; exact hS'vis v hv
      · intro s hs
        rcases List.mem_append.1 hs with hs | hs
        · exact I.clq s hs
        · simp at hs; subst hs; exact hS'clq
      · intro s hs j hj hall
        rcases List.mem_append.1 hs with hs | hs
        · by_cases ejk : j = k
          · subst ejk
            rw [hx] at hall ⊢
            exfalso
            have hin := hinS s hs hall
            rcases hp0 with hL | ⟨hp1, hp2⟩
            · rw [hL] at hs; simp at hs
            · have es0 := hsame s hs (at0 L p0) (at0_mem hp1) (fun u hu => hp2 u (hin u hu))
              apply hSL
              have : S = s := by
                apply Nat.eq_of_testBit_eq
                intro u
                rw [Bool.eq_iff_iff]
                exact ⟨fun hu => by rw [es0]; exact hp2 u hu, hin u⟩
              rw [this]; exact hs
          · exact I.max s hs j (by omega) hall
        · simp at hs
          subst hs
          rw [hS'b]
          by_cases ejk : j = k
          · subst ejk; exact .inl hx
          · right
            rw [hSb]
            refine ⟨hall x ((hS'b x).2 (.inl rfl)) ?_, j, by omega, rfl⟩
            rw [← hx]
            exact fun e => ord_inj hn (show j < k by omega) hkn e.symm
      · intro j hj
        by_cases ejk : j = k
        · subst ejk
          refine ⟨bset S x, by simp, fun v hv => ?_⟩
          rw [hS'b]
          rcases hv with hv | ⟨h1, h2⟩
          · exact .inl (hv.trans hx)
          · exact .inr ((hSb v).2 ⟨by rw [← hx]; exact h1, h2⟩)
        · obtain ⟨s, hs, hcov⟩ := I.cover j (by omega)
          exact ⟨s, by simp [hs], hcov⟩
      · intro r h0 hr
        rw [List.length_append, List.length_singleton] at hr
        by_cases e : r = L.length
        · rcases hp0 with hL | ⟨hp1, _⟩
          · rw [hL] at e; simp at e; omega
          · simp [e]; exact hp1
        · simp [e]; exact I.par r h0 (by omega)
      · intro v hex
        rw [List.length_append, List.length_singleton]
        have e1 : occ (at0 (L ++ [bset S x])) (L.length + 1) v = occ (at0 L) L.length v + if (bset S x).testBit v = true then 1 else 0 := by
          unfold occ
          rw [List.range_succ, List.filter_append, List.length_append]
          rw [List.filter_congr (q := fun r => (at0 L r).testBit v) (fun r hr => by rw [hg1 r (by simpa using hr)])]
          congr 1
          cases hb : (bset S x).testBit v <;> simp [hg2, hb]
        have e2 : links (at0 (L ++ [bset S x])) (fun r => at0 (L ++ [bset S x]) (if r = L.length then p0 else pf r)) (L.length + 1) v = links (at0 L) (fun r => at0 L (pf r)) L.length v + if 0 < L.length ∧ (bset S x).testBit v = true ∧ (at0 L p0).testBit v = true then 1 else 0 := by
          unfold links
          rw [List.range_succ, List.filter_append, List.length_append]
          rw [List.filter_congr (q := fun r => decide (0 < r) && (at0 L r &&& at0 L (pf r)).testBit v) (fun r hr => by
            have hr : r < L.length := by simpa using hr
            by_cases h0 : 0 < r
            · have hp := I.par r h0 hr
              simp only []
              rw [if_neg (by omega), hg1 r hr, hg1 (pf r) (by omega)]
            · simp [h0])]
          congr 1
          by_cases hlen : 0 < L.length
          · rcases hp0 with hL | ⟨hp1, _⟩
            · rw [hL] at hlen; simp at hlen
            · have : at0 (L ++ [bset S x]) p0 = at0 L p0 := hg1 p0 hp1
              cases hb : (bset S x).testBit v <;> cases hb2 : (at0 L p0).testBit v <;> simp [hg2, hb, hb2, this, hlen]
          · have h0 : L.length = 0 := by omega
            simp [hlen]
        rw [e1, e2]
        by_cases evx : v = x
        · subst evx
          have z1 : occ (at0 L) L.length v = 0 := by
            unfold occ
            rw [List.length_eq_zero_iff, List.filter_eq_nil_iff]
            intro r hr
            rw [hxL _ (at0_mem (by simpa using hr))]; simp
          have z2 : links (at0 L) (fun r => at0 L (pf r)) L.length v = 0 := by
            unfold links
            rw [List.length_eq_zero_iff, List.filter_eq_nil_iff]
            intro r hr
            rw [Nat.testBit_and, hxL _ (at0_mem (by simpa using hr))]; simp
          rw [z1, z2, if_pos ((hS'b v).2 (.inl rfl)), if_neg]
          rintro ⟨h1, _, h3⟩
          rcases hp0 with hL | ⟨hp1, _⟩
          · rw [hL] at h1; simp at h1
          · rw [hxL _ (at0_mem hp1)] at h3; cases h3
        · by_cases hvS : S.testBit v = true
          · have hpos : 0 < L.length := by
              obtain ⟨_, j, hj, _⟩ := (hSb v).1 hvS
              obtain ⟨s, hs, _⟩ := I.cover j hj
              exact List.length_pos_of_mem hs
            rcases hp0 with hL | ⟨hp1, hp2⟩
            · rw [hL] at hpos; simp at hpos
            · rw [if_pos ((hS'b v).2 (.inr hvS)), if_pos ⟨hpos, (hS'b v).2 (.inr hvS), hp2 v hvS⟩]
              have := I.run v ⟨_, at0_mem hp1, hp2 v hvS⟩
              omega
          · have hno : ¬ (bset S x).testBit v = true := by
              rw [hS'b]
              rintro (h | h)
              · exact evx h
              · exact hvS h
            rw [if_neg hno, if_neg (fun h => hno h.2.1)]
            refine I.run v ?_
            obtain ⟨s, hs, hb⟩ := hex
            rcases List.mem_append.1 hs with hs | hs
            · exact ⟨s, hs, hb⟩
            · simp at hs; subst hs; exact absurd hb hno
/-- The maximal cliques of a chordal graph, in some order, with parents that make a clique tree. -/
theorem jtree_exists {n : Nat} {es : List (Int × Int)} (h : valid n es) (hc : isChordal (readAll es) n = true) :
    ∃ (L : List Nat) (pf : Nat → Nat), L.Nodup ∧ (∀ s, s ∈ L ↔ s < 18446744073709551616 ∧ MaxClq (readT es) n s) ∧ Jtree (at0 L) (fun r => at0 L (pf r)) L.length := by
  have hn : n ≤ 64 := by have := h.2.1; omega
  obtain ⟨L, pf, I⟩ := jinv h hc n (Nat.le_refl _)
  have hin : ∀ s ∈ L, s < 18446744073709551616 ∧ MaxClq (readT es) n s := by
    intro s hs
    refine ⟨I.small s hs, ⟨fun v hv => ?_, I.clq s hs, fun v hv hall => ?_, I.one s hs⟩⟩
    · obtain ⟨j, hj, rfl⟩ := I.vis s hs v hv
      exact ord_lt hn hj
    · obtain ⟨j, hj, rfl⟩ := ord_onto (A := readAll es) hn hv
      exact I.max s hs j hj hall
  refine ⟨L, pf, I.nd, fun s => ⟨hin s, fun ⟨hs, hM⟩ => ?_⟩, ⟨fun a b hab hb e => ?_, fun r h0 hr => ⟨pf r, I.par r h0 hr, rfl⟩, fun v hv => ?_⟩⟩
  · -- the last vertex of s
    have hk := (keep_iff h hc s).2 ⟨hs, hM⟩
    obtain ⟨k, hkl, e, _⟩ := mem_keepLast.1 hk
    have hkn : k < n := by rwa [cands_len hn] at hkl
    obtain ⟨s', hs', hcov⟩ := I.cover k hkn
    have hsub : ∀ v, s.testBit v = true → s'.testBit v = true := by
      intro v hv
      rw [← e, cand_bit hn hkn] at hv
      refine hcov v ?_
      rcases hv with hv | ⟨h1, h2⟩
      · exact .inl hv
      · exact .inr ⟨by rw [← bt_read]; exact h1, h2⟩
    have : s = s' := by
      apply Nat.eq_of_testBit_eq
      intro u
      rw [Bool.eq_iff_iff]
      refine ⟨hsub u, fun hu => ?_⟩
      exact hM.max u ((hin s' hs').2.lt u hu) (fun w hw hne => I.clq s' hs' w u (hsub w hw) hu hne)
    rw [this]; exact hs'
  · have := at0_inj I.nd (show a < L.length by omega) hb e
    omega
  · obtain ⟨r, hr, hb⟩ := hv
    exact I.run v ⟨_, at0_mem hr, hb⟩
end Go.Gr
end
