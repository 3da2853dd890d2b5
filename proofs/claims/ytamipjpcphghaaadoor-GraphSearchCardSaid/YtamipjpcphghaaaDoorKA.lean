/- The texts XL, XM, PM, PN, in one. -/
import Derived.Test.YtamipjpcphghaaaDoorXK
import Derived.Test.YtamipjpcphghaaaDoorWX
import Derived.Test.YtamipjpcphghaaaDoorPJ
section
/- The reference's subset and Less. -/
namespace Go.Gr
theorem cmpL_drop {a b : List Int} {k : Nat} (ha : k < a.length) (hb : k < b.length) : cmpL (a.drop k) (b.drop k) = if a[k] < b[k] then -1 else if b[k] < a[k] then 1 else cmpL (a.drop (k + 1)) (b.drop (k + 1)) := by
  rw [List.drop_eq_getElem_cons ha, List.drop_eq_getElem_cons hb]
  rfl
theorem cmpL_short {a b : List Int} (h : a = [] ∨ b = []) : cmpL a b < 0 ↔ a.length < b.length := by
  cases a <;> cases b <;> simp_all [cmpL]
end Go.Gr
namespace Go.Proofs.Tg
open Go.RowKit Go.Gr
set_option maxHeartbeats 4000000
set_option maxRecDepth 100000
theorem rsub_any (A B : Option Addr) (a b : List Int) (c d : Nat) (bv : Bool) (w : World) (hA : Ints w A a) (hB : Ints w B b) (hal : a.length ≤ 1000) (hbl : b.length ≤ 1000) (hv : bv = true ↔ common a b = a.length) :
    Calls Tryd.prog 75 #[.slice A a.length c, .slice B b.length d] w fun e w' => e = .returned (.bool bv) ∧ ∃ n, w' = w.drewN n := by
  have HC := Lib.hid (common_any A B a b c d w hA hB hal hbl)
  clear hA hB
  by_cases h : common a b = a.length
  · obtain rfl : bv = true := hv.2 h
    have e1 : (((common a b : Nat) : Int) == (a.length : Int)) = true := beq_iff_eq.2 (by omega)
    clear hv h
    generalize common a b = z at HC e1
    go_enter Tryd.func75, Tryd.ntmps75
    go_wp2_with (go_at_call 62; refine HC.out.mono ?_; rintro e w1 ⟨rfl, hw1⟩; have HW := Lib.hid hw1; clear hw1)
    go_ret
    exact ⟨rfl, HW.out⟩
  · obtain rfl : bv = false := by
      cases bv
      · rfl
      · exact absurd (hv.1 rfl) h
    have e1 : (((common a b : Nat) : Int) == (a.length : Int)) = false := beq_eq_false_iff_ne.2 (by omega)
    clear hv h
    generalize common a b = z at HC e1
    go_enter Tryd.func75, Tryd.ntmps75
    go_wp2_with (go_at_call 62; refine HC.out.mono ?_; rintro e w1 ⟨rfl, hw1⟩; have HW := Lib.hid hw1; clear hw1)
    go_ret
    exact ⟨rfl, HW.out⟩
theorem rless_any (A B : Option Addr) (a b : List Int) (c d : Nat) (bv : Bool) (w : World) (hA : Ints w A a) (hB : Ints w B b) (hal : a.length ≤ 1000) (hbl : b.length ≤ 1000) (hv : bv = true ↔ cmpL a b < 0) :
    Calls Tryd.prog 76 #[.slice A a.length c, .slice B b.length d] w fun e w' => e = .returned (.bool bv) ∧ ∃ n, w' = w.drewN n := by
  have HV := Lib.hid hv
  clear hv
  go_enter Tryd.func76, Tryd.ntmps76
  go_wp2
  go_loopw [5] (fun i wr => ∃ k : Nat, i = .int .i64 k ∧ k ≤ a.length ∧ k ≤ b.length ∧ Hid (cmpL a b = cmpL (a.drop k) (b.drop k)) ∧ Below w.heap.size w wr ∧ Hid (∃ n, wr = w.drewN n)) (fun i _ => a.length - (intOf i).toNat)
  case atStart => exact ⟨0, rfl, Nat.zero_le _, Nat.zero_le _, Lib.hid rfl, Below.refl _ _, Lib.hid ⟨0, rfl⟩⟩
  case round =>
    obtain ⟨k, rfl, hka, hkb, HC, hb, HD⟩ := hrel
    by_cases h : k < a.length ∧ k < b.length
    · obtain ⟨h1, h2⟩ := h
      have q1 : decide ((k : Int) < (a.length : Int)) = true := by simp; omega
      have q2 : decide ((k : Int) < (b.length : Int)) = true := by simp; omega
      have HS := Lib.hid (cmpL_drop h1 h2)
      obtain ⟨ad, rfl, hc⟩ := Ints.at (hA.keep hb) h1
      obtain ⟨bd, rfl, hd⟩ := Ints.at (hB.keep hb) h2
      generalize a[k] = x at HS hc
      generalize b[k] = y at HS hd
      have k0 : (0 : Int) ≤ (k : Int) := by omega
      have k1 : (k : Int) < (a.length : Int) := by omega
      have k2 : (k : Int) < (b.length : Int) := by omega
      clear hA hB
      by_cases hxy : x = y
      · subst hxy
        have hne : (x != x) = false := by simp
        have HC2 : Hid (cmpL a b = cmpL (a.drop (k + 1)) (b.drop (k + 1))) := Lib.hid (by rw [HC.out, HS.out, if_neg (by omega), if_neg (by omega)])
        clear HC HS
        go_wp2
        go_quiet (fail)
        go_wp2
        go_roundw
        case rel => exact ⟨k + 1, by go_num, by omega, by omega, HC2, below_drewN hb _, drew_more HD _⟩
        case measure => simp [intOf]; omega
      · have hne : (x != y) = true := by simpa using hxy
        by_cases hlt : x < y
        · have q3 : decide (x < y) = true := by simpa using hlt
          obtain rfl : bv = true := HV.out.2 (by rw [HC.out, HS.out, if_pos hlt]; omega)
          clear HC HS HV hxy
          go_wp2
          go_quiet (fail)
          go_wp2
          go_quiet (fail)
          go_wp2
          go_ret
          exact ⟨rfl, (drew_more (drew_more HD _) _).out⟩
        · have q3 : decide (x < y) = false := by simpa using hlt
          obtain rfl : bv = false := by
            cases bv
            · rfl
            · have := HV.out.1 rfl
              rw [HC.out, HS.out, if_neg hlt, if_pos (by omega)] at this
              omega
          clear HC HS HV hxy
          go_wp2
          go_quiet (fail)
          go_wp2
          go_quiet (fail)
          go_wp2
          go_ret
          exact ⟨rfl, (drew_more (drew_more HD _) _).out⟩
    · have HE : Hid (bv = decide (a.length < b.length)) := Lib.hid (by
        rw [Bool.eq_iff_iff, HV.out, HC.out, cmpL_short (by
          by_cases hk : k = a.length
          · left; rw [hk]; simp
          · right; rw [show k = b.length by omega]; simp)]
        simp only [List.length_drop, decide_eq_true_eq]
        omega)
      have hcase : a.length ≤ k ∨ (k < a.length ∧ b.length ≤ k) := by omega
      obtain ⟨bl, hbl2⟩ : ∃ bl, decide (a.length < b.length) = bl := ⟨_, rfl⟩
      rw [hbl2] at HE
      have q3 : decide ((a.length : Int) < (b.length : Int)) = bl := by rw [← hbl2]; simp
      have HW := HE.out
      subst HW
      clear HV HC h hA hB
      rcases hcase with h1 | ⟨h1, h2⟩
      · have q1 : decide ((k : Int) < (a.length : Int)) = false := by simp; omega
        go_wp2
        go_ret
        exact ⟨rfl, HD.out⟩
      · have q1 : decide ((k : Int) < (a.length : Int)) = true := by simp; omega
        have q2 : decide ((k : Int) < (b.length : Int)) = false := by simp; omega
        go_wp2
        go_ret
        exact ⟨rfl, HD.out⟩
end Go.Proofs.Tg
end

section
/- The reference's Maximal. -/
namespace Go.Gr
/-- Vertex i and its neighbours that are not gone. -/
def rowSet (t : Nat → Nat → Bool) (n : Nat) (gone : Nat → Bool) (i : Nat) : List Nat := (List.range n).filter fun k => decide (k = i) || (t i k && !gone k)
def natsI (l : List Nat) : List Int := l.map fun x : Nat => (x : Int)
/-- What is gone, and the sets, after r steps. -/
def maxTo (t : Nat → Nat → Bool) (n : Nat) : Nat → (Nat → Bool) × List (List Int)
  | 0 => (fun _ => false, [])
  | r + 1 => match (List.range n).find? (okV t n (maxTo t n r).1) with
    | none => maxTo t n r
    | some i => (updF (maxTo t n r).1 i true, (maxTo t n r).2 ++ [natsI (rowSet t n (maxTo t n r).1 i)])
theorem maxTo_none {t : Nat → Nat → Bool} {n r : Nat} (h : (List.range n).find? (okV t n (maxTo t n r).1) = none) : maxTo t n (r + 1) = maxTo t n r := by
  show (match (List.range n).find? (okV t n (maxTo t n r).1) with | none => maxTo t n r | some i => _) = _
  rw [h]
theorem maxTo_some {t : Nat → Nat → Bool} {n r i : Nat} (h : (List.range n).find? (okV t n (maxTo t n r).1) = some i) : maxTo t n (r + 1) = (updF (maxTo t n r).1 i true, (maxTo t n r).2 ++ [natsI (rowSet t n (maxTo t n r).1 i)]) := by
  show (match (List.range n).find? (okV t n (maxTo t n r).1) with | none => maxTo t n r | some i => _) = _
  rw [h]
/-- List i is in no other one. -/
def keepP (als : List (List Int)) (i k : Nat) : Bool := decide (k = i) || !decide (common (als.getD i []) (als.getD k []) = (als.getD i []).length)
def keepI (als : List (List Int)) (i : Nat) : Bool := (List.range als.length).all (keepP als i)
def keptI (als : List (List Int)) (k : Nat) : List Nat := (List.range k).filter (keepI als)
end Go.Gr
namespace Go.Proofs.Tg
open Go.RowKit Go.Gr
set_option maxHeartbeats 4000000
set_option maxRecDepth 100000
theorem nats_vi (l : List Nat) : l.map vn = (natsI l).map vi := by simp [natsI, vn, vi]
/-- Phase one: the sets. -/
def Phase1 (t : Nat → Nat → Bool) (n base : Nat) (w : World) (r m cr : Nat) (R : Option Addr) (F : Nat → Option Addr × Nat) (ls : Nat → List Int) (gone : Nat → Bool) (wr : World) : Prop :=
  m ≤ cr ∧ m ≤ r ∧ wr.ownsRow base 40 1 (.slice R m cr) m ((List.range m).map (enc F ls)) ∧ RowsIn wr base m F ls ∧ Blk wr w.heap.size 4 (farr n fun v => .bool (gone v)) ∧ Below w.heap.size w wr ∧ maxTo t n r = (gone, (List.range m).map ls)
def RetMax (t : Nat → Nat → Bool) (n : Nat) (w : World) (e : Ending) (w' : World) : Prop :=
  ∃ lo V d, e = .returned (.slice V (List.length lo) d) ∧ Lists w' V lo ∧ lo.Perm ((keptI (maxTo t n n).2 (maxTo t n n).2.length).map fun i => (maxTo t n n).2.getD i []) ∧ sortedL lo ∧ Below w.heap.size w w'
theorem rmax_any (g n : Nat) (t : Nat → Nat → Bool) (w : World) (hT : TableAt w g n t) (hn : n ≤ 64) :
    Calls Tryd.prog 58 #[.slice (some ⟨g, 0, none⟩) n n] w (RetMax t n w) := by
  obtain ⟨j0, hj, hjz0, hjz1, hjz2⟩ := info_parts rows_info
  obtain ⟨i0, hi, hz0, hz1, hz2⟩ := info_parts int_info
  have m1 := fun W => make_bools n (by omega) W
  go_enter Tryd.func58, Tryd.ntmps58
  go_wp2
  clear m1
  have hB0 := Blk.new w 4 (farr n fun _ => .bool false)
  have hb0 : Below w.heap.size w (w.alloc (.cells (farr n fun _ => .bool false) 4)) := (Below.refl _ _).alloc (Nat.le_refl _) _
  generalize w.alloc (.cells (farr n fun _ => .bool false) 4) = W at hB0 hb0 ⊢
  go_loopw [5, 3] (fun x v wr => ∃ (l m cr : Nat) (R : Option Addr) (F : Nat → Option Addr × Nat) (ls : Nat → List Int) (gone : Nat → Bool), x = .int .i64 l ∧ l ≤ n ∧ v = .slice R m cr ∧ Hid (Phase1 t n (w.heap.size + 1) w (n - l) m cr R F ls gone wr)) (fun x _ _ => (intOf x).toNat)
  case atStart => exact ⟨n, 0, 0, none, fun _ => (none, 0), fun _ => [], fun _ => false, rfl, Nat.le_refl _, rfl, Lib.hid ⟨Nat.le_refl _, Nat.zero_le _, World.ownsRow_nil _ _ _ _, fun i hi => by omega, hB0, hb0, by rw [Nat.sub_self]; rfl⟩⟩
  case round =>
    clear hB0 hb0
    obtain ⟨wo, rfl⟩ : ∃ wo : World, wo = wr := ⟨_, rfl⟩
    obtain ⟨l, m, cr, R, F, ls, gone, rfl, hl, rfl, HP⟩ := hrel
    obtain ⟨hmc, hmr, hR, hRows, hG, hb, hmt⟩ := HP.out
    have HM := Lib.hid hmt
    clear hmt HP
    have hTo := hT.keep hb (Nat.le_refl _)
    have hGlt : w.heap.size < wo.heap.size := hG.lt
    by_cases hl0 : 0 < l
    · have hlb : decide ((0 : Int) < (l : Int)) = true := by simp; omega
      have hlb' : decide (0 < l) = true := by simp; omega
      have HR := Lib.hid (And.intro hR hRows)
      clear hR hRows
      go_wp2
      go_loopw [6, 3] (fun x v wr => ∃ k : Nat, x = .int .i64 k ∧ v = .slice R m cr ∧ k ≤ n ∧ Hid (∀ j, j < k → okV t n gone j = false) ∧ Hid (wo = wr)) (fun x _ _ => n - (intOf x).toNat)
      case atStart => exact ⟨0, rfl, rfl, Nat.zero_le _, Lib.hid (fun j h => by omega), Lib.hid rfl⟩
      case round =>
        obtain ⟨k, rfl, rfl, hk, HALL, HW⟩ := hrel
        have hw := HW.out
        subst hw
        clear HW
        by_cases hkn : k < n
        · have hkb : decide ((k : Int) < (n : Int)) = true := by simp; omega
          have hs := rsimp_any g w.heap.size n k t gone wo hTo hG hkn hn
          have cgk := (hG.cell k).trans (farr_at n _ hkn)
          have k0 : (0 : Int) ≤ (k : Int) := by omega
          have k1 : (k : Int) < (n : Int) := by omega
          have HD : Hid (okV t n gone k = (!gone k && simpB t n gone k)) := Lib.hid rfl
          have HS := Lib.hid hs
          clear hs
          generalize simpB t n gone k = sk at HD HS
          have HNO : Hid (okV t n gone k = false → ∀ j, j < k + 1 → okV t n gone j = false) := Lib.hid (fun h j hj => by
            by_cases e : j = k
            · rw [e]; exact h
            · exact HALL.out j (by omega))
          obtain ⟨gk, hgk⟩ : ∃ gk, gone k = gk := ⟨_, rfl⟩
          rw [hgk] at cgk HD
          have HGK := Lib.hid hgk
          clear hgk
          cases gk
          · cases sk
            · have HK2 := Lib.hid (HNO.out (by rw [HD.out]; rfl))
              clear HNO HD HALL
              go_wp2_with (go_at_call 74; refine HS.out.mono ?_; rintro e w' ⟨rfl, rfl⟩)
              go_roundw
              case rel => exact ⟨k + 1, by go_num, rfl, by omega, HK2, by first | exact Lib.hid rfl | exact Lib.hid trivial⟩
              case measure => simp [intOf]; omega
            · have HOK : Hid (okV t n gone k = true) := Lib.hid (by rw [HD.out]; rfl)
              have HFD : Hid ((List.range n).find? (okV t n gone) = some k) := Lib.hid (find_first hkn HOK.out HALL.out)
              have HN : Hid (maxTo t n (n - (l - 1)) = (updF gone k true, (List.range m).map ls ++ [natsI (rowSet t n gone k)])) := Lib.hid (by
                rw [show n - (l - 1) = n - l + 1 from by omega, maxTo_some (i := k) (by rw [HM.out]; exact HFD.out), HM.out])
              clear HNO HD HALL HOK HFD
              go_wp2_with (go_at_call 74; refine HS.out.mono ?_; rintro e w' ⟨rfl, rfl⟩)
              go_loopw [8, 7] (fun x v wr => ∃ (q : Nat) (V : Option Addr) (d : Nat) (l2 : List Nat), x = .int .i64 q ∧ q ≤ n ∧ v = .slice V l2.length d ∧ l2.length ≤ d ∧ l2.length ≤ q ∧ Hid (l2 = (List.range q).filter fun x => decide (x = k) || (t k x && !gone x)) ∧ wr.ownsRow wo.heap.size 3 1 (.slice V l2.length d) l2.length (l2.map vn) ∧ Below wo.heap.size wo wr) (fun x _ _ => n - (intOf x).toNat)
              case atStart => exact ⟨0, none, 0, [], rfl, Nat.zero_le _, rfl, Nat.le_refl _, Nat.le_refl _, Lib.hid (by simp), World.ownsRow_nil _ _ _ _, Below.refl _ _⟩
              case round =>
                obtain ⟨q, V, d, l2, rfl, hq, rfl, hld, hlq, HL, hown, hb2⟩ := hrel
                have hT2 := hTo.keep hb2 (Nat.le_refl _)
                have hG2 := hG.keep hb2 hGlt
                by_cases hqn : q < n
                · have hqb : decide ((q : Int) < (n : Int)) = true := by simp; omega
                  have ck := (hT2.head.cell k).trans (farr_at n _ hkn)
                  unfold rowV at ck
                  have ckq := ((hT2.row k hkn).cell q).trans (farr_at n _ hqn)
                  have cgq := (hG2.cell q).trans (farr_at n _ hqn)
                  have q0 : (0 : Int) ≤ (q : Int) := by omega
                  have q1 : (q : Int) < (n : Int) := by omega
                  have HSN : Hid ((List.range (q + 1)).filter (fun x => decide (x = k) || (t k x && !gone x)) = ((List.range q).filter fun x => decide (x = k) || (t k x && !gone x)) ++ if (decide (q = k) || (t k q && !gone q)) = true then [q] else []) := Lib.hid (by
                    rw [List.range_succ, List.filter_append]
                    cases hh : (decide (q = k) || (t k q && !gone q)) <;> simp [hh])
                  generalize t k q = tkq at ckq HSN
                  generalize gone q = gq at cgq HSN
                  have hsz2 := hb2.size
                  have hyes : (decide (q = k) || (tkq && !gq)) = true → Hid (l2 ++ [q] = (List.range (q + 1)).filter fun x => decide (x = k) || (t k x && !gone x)) := fun h => Lib.hid (by rw [HSN.out, if_pos h, HL.out])
                  have hno : (decide (q = k) || (tkq && !gq)) = false → Hid (l2 = (List.range (q + 1)).filter fun x => decide (x = k) || (t k x && !gone x)) := fun h => Lib.hid (by rw [HSN.out, if_neg (by rw [h]; simp), List.append_nil, HL.out])
                  have HY := Lib.hid hyes
                  have HNN := Lib.hid hno
                  have hlen : (l2 ++ [q]).length = l2.length + 1 := by simp
                  have HLEN := Lib.hid hlen
                  clear hyes hno HSN hT2 hG2 hlen
                  have hcases : (q = k) ∨ (q ≠ k ∧ tkq = true ∧ gq = false) ∨ (q ≠ k ∧ tkq = true ∧ gq = true) ∨ (q ≠ k ∧ tkq = false) := by
                    by_cases h1 : q = k
                    · exact .inl h1
                    · cases tkq <;> cases gq <;> simp [h1]
                  rcases hcases with h1 | ⟨h1, rfl, rfl⟩ | ⟨h1, rfl, rfl⟩ | ⟨h1, rfl⟩
                  · have e1 : ((q : Int) == (k : Int)) = true := beq_iff_eq.2 (by omega)
                    have HL2 := HY.out (by simp [h1])
                    clear h1 HY HNN
                    go_wp2_with (at_builtin; refine wpList_append_own _ rfl _ _ 40 rfl wo.heap.size 3 i0 (.int .i64 0) 1 8 Tryd.underlying40 hi hz0 hz1 hz2 rfl (by decide) (.slice V l2.length d) l2.length (l2.map vn) rfl (hown.alloc _) ⟨wr.heap.size, 0, none⟩ 1 1 [.int .i64 q] rfl rfl ?c1 ?c2 ?c3 ?c4 ?c5 ?_
                                 case c1 => exact cell_one_new _ _ _
                                 case c2 => simp [Value.oneCell']
                                 case c3 => simp only [maxLen]; omega
                                 case c4 => omega
                                 case c5 => simp; omega
                                 intro v' w2 hown' hgrow _
                                 obtain ⟨V2, c2, hv2, hle2, _⟩ := Sl.of_own hown'
                                 subst hv2)
                    go_roundw
                    case rel =>
                      refine ⟨q + 1, V2, c2, l2 ++ [q], by go_num, by omega, by rw [HLEN.out], by rw [HLEN.out]; exact hle2, by rw [HLEN.out]; omega, HL2, ?_, ?_⟩
                      · rw [HLEN.out]; simpa [vn] using hown'
                      · exact (hb2.alloc hb2.size _).grown hgrow (by simp; omega) (fun p hp => (hown.lt p hp).1)
                    case measure => simp [intOf]; omega
                  · have e1 : ((q : Int) == (k : Int)) = false := beq_eq_false_iff_ne.2 (by omega)
                    have HL2 := HY.out (by simp)
                    clear h1 HY HNN
                    go_wp2_with (at_builtin; refine wpList_append_own _ rfl _ _ 40 rfl wo.heap.size 3 i0 (.int .i64 0) 1 8 Tryd.underlying40 hi hz0 hz1 hz2 rfl (by decide) (.slice V l2.length d) l2.length (l2.map vn) rfl (hown.alloc _) ⟨wr.heap.size, 0, none⟩ 1 1 [.int .i64 q] rfl rfl ?c1 ?c2 ?c3 ?c4 ?c5 ?_
                                 case c1 => exact cell_one_new _ _ _
                                 case c2 => simp [Value.oneCell']
                                 case c3 => simp only [maxLen]; omega
                                 case c4 => omega
                                 case c5 => simp; omega
                                 intro v' w2 hown' hgrow _
                                 obtain ⟨V2, c2, hv2, hle2, _⟩ := Sl.of_own hown'
                                 subst hv2)
                    go_roundw
                    case rel =>
                      refine ⟨q + 1, V2, c2, l2 ++ [q], by go_num, by omega, by rw [HLEN.out], by rw [HLEN.out]; exact hle2, by rw [HLEN.out]; omega, HL2, ?_, ?_⟩
                      · rw [HLEN.out]; simpa [vn] using hown'
                      · exact (hb2.alloc hb2.size _).grown hgrow (by simp; omega) (fun p hp => (hown.lt p hp).1)
                    case measure => simp [intOf]; omega
                  · have e1 : ((q : Int) == (k : Int)) = false := beq_eq_false_iff_ne.2 (by omega)
                    have HL2 := HNN.out (by simp [h1])
                    clear h1 HY HNN
                    go_wp2
                    go_roundw
                    case rel => exact ⟨q + 1, V, d, l2, by go_num, by omega, rfl, hld, by omega, HL2, hown, hb2⟩
                    case measure => simp [intOf]; omega
                  · have e1 : ((q : Int) == (k : Int)) = false := beq_eq_false_iff_ne.2 (by omega)
                    have HL2 := HNN.out (by simp [h1])
                    clear h1 HY HNN
                    generalize gq = gq' at cgq
                    go_wp2
                    go_roundw
                    case rel => exact ⟨q + 1, V, d, l2, by go_num, by omega, rfl, hld, by omega, HL2, hown, hb2⟩
                    case measure => simp [intOf]; omega
                · obtain rfl : q = n := by omega
                  have hqb : decide ((q : Int) < (q : Int)) = false := by simp
                  have HLR : Hid (l2 = rowSet t q gone k) := Lib.hid HL.out
                  have hR6 := own_below HR.out.1 hb2 (Nat.le_refl _)
                  have hRw0 : RowsIn wr (w.heap.size + 1) m F ls := HR.out.2.below hb2 (Nat.le_refl _)
                  have HGA := Lib.hid (hG2.alloc (.cells #[.slice V l2.length d] 40))
                  have hsz2 := hb2.size
                  have f0 := (HGA.out.cell k).trans (farr_at q _ hkn)
                  have f1 := HGA.out.frozen k
                  clear HL hT2 f0 f1
                  go_wp2_with (at_builtin; refine wpList_append_own _ rfl _ _ 34 rfl (w.heap.size + 1) 40 j0 (.slice none 0 0) 1 24 Tryd.underlying34 hj hjz0 hjz1 hjz2 rfl (by decide) (.slice R m cr) m _ rfl (hR6.alloc _) ⟨wr.heap.size, 0, none⟩ 1 1 [.slice V l2.length d] rfl rfl ?c1 ?c2 ?c3 ?c4 ?c5 ?_
                               case c1 => exact cell_one_new _ _ _
                               case c2 => simp [Value.oneCell']
                               case c3 => simp only [maxLen]; omega
                               case c4 => omega
                               case c5 => simp; omega
                               intro v' w7 hR7 hg7 _
                               obtain ⟨R2, cr2, hv2, hle2, _⟩ := Sl.of_own hR7
                               subst hv2
                               have hG7 := HGA.out.grown hg7 (own_blk_ne (hR6.alloc _) HGA.out (by decide))
                               have f0 := (hG7.cell k).trans (farr_at q _ hkn)
                               have f1 := hG7.frozen k)
                  go_roundw
                  case rel =>
                    have hvl : l2.length = (natsI l2).length := by simp [natsI]
                    have hV7 : w7.ownsRow (w.heap.size + 1) 3 1 (.slice V (natsI l2).length d) (natsI l2).length ((natsI l2).map vi) := by
                      rw [← hvl, ← nats_vi]
                      exact own_base ((hown.alloc (.cells #[.slice V l2.length d] 40)).kept hg7 (own_ne hown hR6 (by decide))) (by omega)
                    have hRw : RowsIn w7 (w.heap.size + 1) m F ls := (hRw0.alloc (.cells #[.slice V l2.length d] 40)).kept hg7 (fun i hi => own_ne (hRw0 i hi) hR6 (by decide))
                    have hRs : RowsIn w7 (w.heap.size + 1) (m + 1) (snocF F m (V, d)) (snocF ls m (natsI l2)) := RowsIn.snoc (x := (V, d)) hRw hV7
                    have hGs := hG7.set k (.bool true)
                    rw [farr_upd (fun v : Bool => Value.bool v)] at hGs
                    refine ⟨l - 1, m + 1, cr2, R2, snocF F m (V, d), snocF ls m (natsI l2), updF gone k true, by go_num, by omega, rfl, Lib.hid ⟨hle2, by omega, ?_, ?_, hGs, ?_, ?_⟩⟩
                    · rw [map_snoc, ← hvl]
                      exact ownsRow_setCell_below hR7 (by simp) _
                    · exact fun i hi => ownsRow_setCell_below (hRs i hi) (by simp) _
                    · refine Below.setCell ?_ (by simp) _
                      exact ((below_all hb hb2).alloc (by omega) _).grown hg7 (by simp; omega) (fun p hp => by have := (hR6.lt p hp).1; omega)
                    · rw [HN.out, ← HLR.out, List.range_succ, List.map_append]
                      congr 2
                      · apply List.map_congr_left
                        intro i hi
                        have : i < m := by simpa using hi
                        simp [snocF]; omega
                      · simp [snocF]
                  case measure => simp [intOf]; omega
          · have HK2 := Lib.hid (HNO.out (by rw [HD.out]; rfl))
            clear HNO HD HS HALL
            go_wp2
            go_roundw
            case rel => exact ⟨k + 1, by go_num, rfl, by omega, HK2, by first | exact Lib.hid rfl | exact Lib.hid trivial⟩
            case measure => simp [intOf]; omega
        · obtain rfl : k = n := by omega
          have hkb : decide ((k : Int) < (k : Int)) = false := by simp
          have HN : Hid (maxTo t k (k - (l - 1)) = (gone, (List.range m).map ls)) := Lib.hid (by
            rw [show k - (l - 1) = k - l + 1 from by omega, maxTo_none (by rw [HM.out]; exact find_no HALL.out)]
            exact HM.out)
          go_wp2
          go_roundw
          case rel => exact ⟨l - 1, m, cr, R, F, ls, gone, by go_num, by omega, rfl, Lib.hid ⟨hmc, by omega, HR.out.1, HR.out.2, hG, hb, HN.out⟩⟩
          case measure => simp [intOf]; omega
    · obtain rfl : l = 0 := by omega
      have hlb : decide ((0 : Int) < ((0 : Nat) : Int)) = false := by simp
      obtain ⟨als, hals⟩ : ∃ als, (List.range m).map ls = als := ⟨_, rfl⟩
      have halen : als.length = m := by rw [← hals]; simp
      have HAL := Lib.hid halen
      have HAG : Hid (∀ i, i < m → als.getD i [] = ls i) := Lib.hid (fun i hi => by rw [← hals]; simp [hi])
      have HMX : Hid (maxTo t n n = (gone, als)) := Lib.hid (by have := HM.out; rwa [Nat.sub_zero, hals] at this)
      have HLEN : Hid (∀ i, i < m → (ls i).length ≤ 1000) := Lib.hid (by
        have key : ∀ r, ∀ x ∈ (maxTo t n r).2, x.length ≤ n := by
          intro r
          induction r with
          | zero => intro x hx; simp [maxTo] at hx
          | succ r ih =>
            cases hf : (List.range n).find? (okV t n (maxTo t n r).1) with
            | none => rw [maxTo_none hf]; exact ih
            | some i =>
              rw [maxTo_some hf]
              intro x hx
              rcases List.mem_append.1 hx with hx | hx
              · exact ih x hx
              · simp at hx
                subst hx
                unfold natsI rowSet
                rw [List.length_map]
                exact Nat.le_trans (List.length_filter_le _ _) (by simp)
        intro i hi2
        have h1 : ls i ∈ (maxTo t n n).2 := by rw [HMX.out, ← hals]; exact List.mem_map.2 ⟨i, by simpa using hi2, rfl⟩
        have := key n _ h1
        omega)
      have hmn : m ≤ n := by omega
      clear HM halen hals
      have HRW : Hid (∀ i, i < m → Ints wo (F i).1 (ls i)) := Lib.hid (fun i hi => Sl.own (hRows i hi))
      have hRS := Sl.own hR
      have HCELL : Hid (∀ i, i < m → ∃ ad, R = some ad ∧ wo.cell? (ad.add i) = some (.slice (F i).1 (ls i).length (F i).2)) := Lib.hid (fun i hi => by
        obtain ⟨ad, e, hc⟩ := Sl.at1 hRS hi
        refine ⟨ad, e, ?_⟩
        rw [hc]
        simp [enc])
      clear hRS hR hRows hG hTo hlb hl0
      go_wp2
      go_loopw [10, 9] (fun x v wr => ∃ (k m2 cr2 : Nat) (R2 : Option Addr) (idx : List Nat), x = .int .i64 k ∧ k ≤ m ∧ v = .slice R2 m2 cr2 ∧ Hid (idx.length = m2) ∧ m2 ≤ cr2 ∧ m2 ≤ k ∧ wr.ownsRow wo.heap.size 40 1 (.slice R2 m2 cr2) m2 (idx.map (enc F ls)) ∧ Hid (idx = keptI als k) ∧ Below wo.heap.size wo wr) (fun x _ _ => m - (intOf x).toNat)
      case atStart => exact ⟨0, 0, 0, none, [], rfl, Nat.zero_le _, rfl, Lib.hid rfl, Nat.le_refl _, Nat.le_refl _, World.ownsRow_nil _ _ _ _, Lib.hid (by simp [keptI]), Below.refl _ _⟩
      case round =>
        obtain ⟨w3, rfl⟩ : ∃ w3 : World, w3 = wr := ⟨_, rfl⟩
        obtain ⟨k, m2, cr2, R2, idx, rfl, hk, rfl, HIL, hm2c, hm2k, hO, HI, hb3⟩ := hrel
        by_cases hkm : k < m
        · have hkb : decide ((k : Int) < (m : Int)) = true := by simp; omega
          obtain ⟨ad, rfl, hck0⟩ := HCELL.out k hkm
          have hAk := HRW.out k hkm
          have k0 : (0 : Int) ≤ (k : Int) := by omega
          have k1 : (k : Int) < (m : Int) := by omega
          go_wp2
          go_loopw [12, 11] (fun x v wr => ∃ (q : Nat) (b : Bool), x = .int .i64 q ∧ v = .bool b ∧ q ≤ m ∧ Hid (b = (List.range q).all (keepP als k)) ∧ Below w3.heap.size w3 wr) (fun x _ _ => m - (intOf x).toNat)
          case atStart => exact ⟨0, true, rfl, rfl, Nat.zero_le _, Lib.hid (by simp), Below.refl _ _⟩
          case round =>
            obtain ⟨q, b, rfl, rfl, hq, HB, hb4⟩ := hrel
            have hbw : Below wo.heap.size wo wr := below_all hb3 hb4
            have hck := keep_cell hbw hck0
            by_cases hqm : q < m
            · have hqb : decide ((q : Int) < (m : Int)) = true := by simp; omega
              have HSN : Hid ((List.range (q + 1)).all (keepP als k) = ((List.range q).all (keepP als k) && keepP als k q)) := Lib.hid (by rw [List.range_succ, List.all_append]; simp)
              have q0 : (0 : Int) ≤ (q : Int) := by omega
              have q1 : (q : Int) < (m : Int) := by omega
              cases b
              · have HB2 : Hid (false = (List.range (q + 1)).all (keepP als k)) := Lib.hid (by rw [HSN.out, ← HB.out]; rfl)
                clear HSN HB
                go_wp2
                go_quiet (fail)
                go_wp2
                go_roundw
                case rel => exact ⟨q + 1, false, by go_num, rfl, by omega, HB2, below_drewN hb4 _⟩
                case measure => simp [intOf]; omega
              · by_cases hqk : q = k
                · have e1 : ((q : Int) == (k : Int)) = true := beq_iff_eq.2 (by omega)
                  have HB2 : Hid (true = (List.range (q + 1)).all (keepP als k)) := Lib.hid (by rw [HSN.out, ← HB.out]; simp [keepP, hqk])
                  clear HSN HB hqk
                  go_wp2
                  go_quiet (fail)
                  go_wp2
                  go_roundw
                  case rel => exact ⟨q + 1, true, by go_num, rfl, by omega, HB2, below_drewN hb4 _⟩
                  case measure => simp [intOf]; omega
                · have e1 : ((q : Int) == (k : Int)) = false := beq_eq_false_iff_ne.2 (by omega)
                  obtain ⟨ad', ead, hcq0⟩ := HCELL.out q hqm
                  injection ead with ead
                  subst ead
                  have hcq := keep_cell hbw hcq0
                  obtain ⟨sv, hsv⟩ : ∃ sv : Bool, sv = true ↔ common (ls k) (ls q) = (ls k).length := ⟨decide (common (ls k) (ls q) = (ls k).length), by simp⟩
                  have HB2 : Hid ((!sv) = (List.range (q + 1)).all (keepP als k)) := Lib.hid (by
                    rw [HSN.out, ← HB.out]
                    unfold keepP
                    rw [HAG.out k hkm, HAG.out q hqm]
                    have : sv = decide (common (ls k) (ls q) = (ls k).length) := by rw [Bool.eq_iff_iff, hsv]; simp
                    rw [this]; simp [hqk])
                  have HC1 : Hid (∀ n, Calls Tryd.prog 75 #[.slice (F k).1 (ls k).length (F k).2, .slice (F q).1 (ls q).length (F q).2] (wr.drewN n) fun e w' => e = .returned (.bool sv) ∧ ∃ m, w' = wr.drewN m) :=
                    Lib.hid fun n => (rsub_any _ _ (ls k) (ls q) (F k).2 (F q).2 sv (wr.drewN n) ((hAk.keep hbw).drewN n) (((HRW.out q hqm).keep hbw).drewN n) (HLEN.out k hkm) (HLEN.out q hqm) hsv).mono fun _ _ ⟨h, m, hm⟩ => ⟨h, n + m, by rw [hm, World.drewN_drewN]⟩
                  clear HSN HB hqk hsv hcq0
                  cases sv
                  · go_wp2
                    go_quiet ((go_at_call 75; with_reducible exact HC1.out _))
                    go_wp2
                    go_roundw
                    case rel => exact ⟨q + 1, true, by go_num, rfl, by omega, HB2, below_drewN hb4 _⟩
                    case measure => simp [intOf]; omega
                  · go_wp2
                    go_quiet ((go_at_call 75; with_reducible exact HC1.out _))
                    go_wp2
                    go_roundw
                    case rel => exact ⟨q + 1, false, by go_num, rfl, by omega, HB2, below_drewN hb4 _⟩
                    case measure => simp [intOf]; omega
            · obtain rfl : q = m := by omega
              have hqb : decide ((q : Int) < (q : Int)) = false := by simp
              have HBK : Hid (b = keepI als k) := Lib.hid (by unfold keepI; rw [HAL.out]; exact HB.out)
              have HSN : Hid (keptI als (k + 1) = keptI als k ++ if keepI als k = true then [k] else []) := Lib.hid (by
                unfold keptI
                rw [List.range_succ, List.filter_append]
                cases hh : keepI als k <;> simp [hh])
              have hO4 := own_below hO hb4 (Nat.le_refl _)
              have hsz3 := hb3.size
              have hsz4 := hb4.size
              clear HB
              cases b
              · have HI2 : Hid (idx = keptI als (k + 1)) := Lib.hid (by rw [HSN.out, ← HBK.out, HI.out]; simp)
                clear HSN HBK
                go_wp2
                go_roundw
                case rel => exact ⟨k + 1, m2, cr2, R2, idx, by go_num, by omega, rfl, HIL, hm2c, by omega, hO4, HI2, hbw⟩
                case measure => simp [intOf]; omega
              · have HI2 : Hid (idx ++ [k] = keptI als (k + 1)) := Lib.hid (by rw [HSN.out, ← HBK.out, HI.out]; simp)
                clear HSN HBK
                go_wp2_with (at_builtin; refine wpList_append_own _ rfl _ _ 34 rfl wo.heap.size 40 j0 (.slice none 0 0) 1 24 Tryd.underlying34 hj hjz0 hjz1 hjz2 rfl (by decide) (.slice R2 m2 cr2) m2 _ rfl (hO4.alloc _) ⟨wr.heap.size, 0, none⟩ 1 1 [.slice (F k).1 (ls k).length (F k).2] rfl rfl ?c1 ?c2 ?c3 ?c4 ?c5 ?_
                             case c1 => exact cell_one_new _ _ _
                             case c2 => simp [Value.oneCell']
                             case c3 => simp only [maxLen]; omega
                             case c4 => omega
                             case c5 => simp; omega
                             intro v' w7 hR7 hg7 _
                             obtain ⟨R3, cr3, hv2, hle2, _⟩ := Sl.of_own hR7
                             subst hv2)
                go_roundw
                case rel =>
                  have hrel2 : w7.ownsRow wo.heap.size 40 1 (.slice R3 (m2 + 1) cr3) (m2 + 1) ((idx ++ [k]).map (enc F ls)) := by rw [List.map_append]; exact hR7
                  have hbel2 : Below wo.heap.size wo w7 := (hbw.alloc hbw.size _).grown hg7 (by simp; omega) (fun p hp => (hO4.lt p hp).1)
                  (repeat apply Exists.intro)
                  exact ⟨⟨k + 1, m2 + 1, cr3, R3, idx ++ [k], by go_num, by omega, rfl, Lib.hid (by rw [List.length_append, HIL.out]; rfl), hle2, by omega, hrel2, HI2, hbel2⟩, rfl⟩
                case measure => simp [intOf]; omega
        · obtain rfl : k = m := by omega
          have hkb : decide ((k : Int) < (k : Int)) = false := by simp
          have HIM : Hid (∀ i ∈ idx, i < k) := Lib.hid (fun i hi2 => by
            rw [HI.out] at hi2
            unfold keptI at hi2
            have := (List.mem_filter.1 hi2).1
            simpa using this)
          have HFIN : Hid (∀ l' : List Nat, l'.Perm idx → (l'.map ls).Perm ((keptI (maxTo t n n).2 (maxTo t n n).2.length).map fun i => (maxTo t n n).2.getD i [])) := Lib.hid (fun l' hp => by
            rw [HMX.out]
            simp only
            rw [HAL.out, ← HI.out]
            rw [List.map_congr_left (g := ls) (fun i hi2 => HAG.out i (HIM.out i hi2))]
            exact hp.map _)
          have hbw3 : Below w.heap.size w w3 := below_all hb hb3
          rcases hO.2 with ⟨hv, hm0⟩ | ⟨g3, cap, cur, hv, hgb, hg, hmc3, _, hcs, htake⟩
          · injection hv with h1 h2 h3
            subst h1 h2 h3
            have hnil : idx = [] := List.eq_nil_of_length_eq_zero HIL.out
            have HFN := Lib.hid (HFIN.out [] (by rw [hnil]))
            clear hnil
            go_wp2
            go_loopw [13] (fun x wr => x = .int .i64 1 ∧ Hid (w3 = wr)) (fun _ _ => 0)
            case atStart => exact ⟨rfl, Lib.hid rfl⟩
            case round =>
              obtain ⟨rfl, HW⟩ := hrel
              have hw := HW.out
              subst hw
              clear HW
              go_wp2
              go_ret
              exact ⟨[], none, 0, rfl, ⟨fun _ => (none, 0), Sl.nil _ _ _, fun i hi2 => by simp at hi2⟩, HFN.out, fun a b _ hb => by simp at hb, hbw3⟩
          · injection hv with h1 h2 h3
            subst h1 h3
            have hB : Blk w3 g3 40 (rarr F ls idx (cur.toList.drop m2)) := by
              unfold Blk
              rw [hg, rarr, ← htake, Nat.mul_one, List.take_append_drop]
            generalize cur.toList.drop m2 = rest at hB
            have HIL2 := HIL.out
            subst HIL2
            have hidl : idx.length ≤ 64 := by omega
            have HW := Lib.hid (weakL ls)
            clear hg htake hcs hO HIL hkb
            go_wp2
            go_loopw [13] (fun x wr => ∃ (i : Nat) (q : List Nat), x = .int .i64 i ∧ 1 ≤ i ∧ i ≤ idx.length + 1 ∧ Hid (q.length = idx.length) ∧ Hid (q.Perm idx) ∧ Hid (sortedTo (fun i j => cmpL (ls i) (ls j)) q i) ∧ Blk wr g3 40 (rarr F ls q rest) ∧ Below wo.heap.size wo wr) (fun x _ => idx.length + 1 - (intOf x).toNat)
            case atStart => exact ⟨1, idx, rfl, by omega, by omega, Lib.hid rfl, Lib.hid (List.Perm.refl _), Lib.hid (fun a b h1 h2 => by omega), hB, hb3⟩
            case round =>
              clear hB hb3 hbw3
              obtain ⟨i, p0, rfl, hi1, hi2, HPL, HPP, HSS, hB, hb3⟩ := hrel
              by_cases hil : i < idx.length
              · have hib : decide ((i : Int) < (idx.length : Int)) = true := by simp; omega
                have HB0 : Hid (sortedBut (fun i j => cmpL (ls i) (ls j)) p0 i i) := Lib.hid (sortedBut_start HSS.out)
                clear HSS
                go_wp2
                go_loopw [14] (fun x wr => ∃ (j : Nat) (q : List Nat), x = .int .i64 j ∧ j ≤ i ∧ Hid (q.length = idx.length) ∧ Hid (q.Perm idx) ∧ Hid (sortedBut (fun i j => cmpL (ls i) (ls j)) q i j) ∧ Blk wr g3 40 (rarr F ls q rest) ∧ Below wo.heap.size wo wr) (fun x _ => (intOf x).toNat)
                case atStart => exact ⟨i, p0, rfl, Nat.le_refl _, HPL, HPP, HB0, hB, hb3⟩
                case round =>
                  clear hB hb3 HPP HB0 HPL
                  obtain ⟨j, q, rfl, hj2, HQL, HP, HS, hB, hb3⟩ := hrel
                  by_cases hj0 : j = 0
                  · have dj : decide ((0 : Int) < (j : Int)) = false := by simp; omega
                    have dj2 : decide (0 < j) = false := by simp; omega
                    have HS2 : Hid (sortedTo (fun i j => cmpL (ls i) (ls j)) q (i + 1)) := Lib.hid (sortedBut_stop HW.out HS.out (.inl hj0))
                    clear HS hj0
                    go_wp2
                    go_quiet (fail)
                    go_wp2
                    go_roundw
                    case rel => exact ⟨i + 1, q, by go_num, by omega, by omega, HQL, HP, HS2, hB.drewN _, below_drewN hb3 _⟩
                    case measure => simp [intOf]; omega
                  · have dj : decide ((0 : Int) < (j : Int)) = true := by simp; omega
                    have dj2 : decide (0 < j) = true := by simp; omega
                    have cj := (hB.cell j).trans (rarr_at F ls q rest (by rw [HQL.out]; omega))
                    have cp := (hB.cell (j - 1)).trans (rarr_at F ls q rest (k := j - 1) (by rw [HQL.out]; omega))
                    unfold enc at cj cp
                    have hmj : q.getD j 0 < k := HIM.out _ (HP.out.mem_iff.1 (getD_mem (by rw [HQL.out]; omega)))
                    have hmp : q.getD (j - 1) 0 < k := HIM.out _ (HP.out.mem_iff.1 (getD_mem (by rw [HQL.out]; omega)))
                    obtain ⟨lv, hlv⟩ : ∃ lv : Bool, lv = true ↔ cmpL (ls (q.getD j 0)) (ls (q.getD (j - 1) 0)) < 0 := ⟨decide (cmpL (ls (q.getD j 0)) (ls (q.getD (j - 1) 0)) < 0), by simp⟩
                    have HC1 : Hid (∀ n, Calls Tryd.prog 76 #[.slice (F (q.getD j 0)).1 (ls (q.getD j 0)).length (F (q.getD j 0)).2, .slice (F (q.getD (j - 1) 0)).1 (ls (q.getD (j - 1) 0)).length (F (q.getD (j - 1) 0)).2] (wr.drewN n) fun e w' => e = .returned (.bool lv) ∧ ∃ m, w' = wr.drewN m) :=
                      Lib.hid fun n => (rless_any _ _ (ls (q.getD j 0)) (ls (q.getD (j - 1) 0)) _ _ lv (wr.drewN n) (((HRW.out _ hmj).keep hb3).drewN n) (((HRW.out _ hmp).keep hb3).drewN n) (HLEN.out _ hmj) (HLEN.out _ hmp) hlv).mono fun _ _ ⟨h, m, hm⟩ => ⟨h, n + m, by rw [hm, World.drewN_drewN]⟩
                    have HJ := Lib.hid (show 0 < j by omega)
                    have HLV := Lib.hid hlv
                    clear hlv hj0 hmj hmp
                    have hjp : 0 < j := HJ.out
                    have k2 : (1 : Int) ≤ (j : Int) := by omega
                    have k1 : (j : Int) - 1 < (idx.length : Int) := by omega
                    have k0 : (j : Int) < (idx.length : Int) := by omega
                    have k00 : (0 : Int) ≤ (j : Int) := by omega
                    have k4 : IntKind.i64.wrap ((j : Int) - 1) = (j : Int) - 1 := IntWalk.i64_in _ (by have := HJ.out; omega)
                    have k3 : ((j : Int) - 1).toNat = j - 1 := by omega
                    cases lv
                    · have hz : ¬ cmpL (ls (q.getD j 0)) (ls (q.getD (j - 1) 0)) < 0 := fun h => by have := HLV.out.2 h; cases this
                      have HS2 : Hid (sortedTo (fun i j => cmpL (ls i) (ls j)) q (i + 1)) := Lib.hid (sortedBut_stop HW.out HS.out (.inr hz))
                      clear HS HLV hz
                      generalize q.getD j 0 = a1 at cj HC1
                      generalize q.getD (j - 1) 0 = a2 at cp HC1
                      go_wp2
                      go_quiet ((go_at_call 76; with_reducible exact HC1.out _))
                      go_wp2
                      go_roundw
                      case rel => exact ⟨i + 1, q, by go_num, by omega, by omega, HQL, HP, HS2, hB.drewN _, below_drewN hb3 _⟩
                      case measure => simp [intOf]; omega
                    · have hz : cmpL (ls (q.getD j 0)) (ls (q.getD (j - 1) 0)) < 0 := HLV.out.1 rfl
                      have HS2 : Hid (sortedBut (fun i j => cmpL (ls i) (ls j)) (swp q j) i (j - 1)) := Lib.hid (sortedBut_swap HW.out HS.out HJ.out hj2 (by rw [HQL.out]; exact hil) hz)
                      have HP2 : Hid ((swp q j).Perm idx) := Lib.hid ((swp_perm HJ.out (by rw [HQL.out]; omega)).trans HP.out)
                      have B1 : Blk ((wr.setCell ⟨g3, j - 1, none⟩ (enc F ls (q.getD j 0))).setCell ⟨g3, j, none⟩ (enc F ls (q.getD (j - 1) 0))) g3 40 (rarr F ls ((q.set (j - 1) (q.getD j 0)).set j (q.getD (j - 1) 0)) rest) := by
                        have := (hB.set (j - 1) (enc F ls (q.getD j 0))).set j (enc F ls (q.getD (j - 1) 0))
                        rw [rarr_set F ls q rest (by rw [HQL.out]; omega), rarr_set F ls _ rest (by rw [List.length_set, HQL.out]; omega)] at this
                        exact this
                      have hsw : (q.set (j - 1) (q.getD j 0)).set j (q.getD (j - 1) 0) = swp q j := by
                        unfold swp
                        have := HJ.out
                        rw [List.set_comm _ _ (by omega)]
                      rw [hsw] at B1
                      have HB1 := Lib.hid B1
                      have fj := hB.frozen j
                      have fp := hB.frozen (j - 1)
                      have HBL := Lib.hid ((hb3.setCell (p := ⟨g3, j - 1, none⟩) (by simpa using hgb) (enc F ls (q.getD j 0))).setCell (p := ⟨g3, j, none⟩) (by simpa using hgb) (enc F ls (q.getD (j - 1) 0)))
                      unfold enc at HB1 HBL
                      clear HS HP B1 hsw HLV hz
                      generalize q.getD j 0 = a1 at cj HC1 HB1 HBL
                      generalize q.getD (j - 1) 0 = a2 at cp HC1 HB1 HBL
                      go_wp2
                      go_quiet ((go_at_call 76; with_reducible exact HC1.out _))
                      go_wp2
                      go_region
                      go_wp2
                      go_roundw
                      case rel =>
                        have hq : ((j - 1 : Nat) : Int) = (j : Int) - 1 := by omega
                        refine ⟨j - 1, swp q j, by rw [hq], by omega, Lib.hid (by rw [swp_len]; exact HQL.out), HP2, HS2, HB1.out, below_drewN HBL.out _⟩
                      case measure => simp [intOf]; omega
              · have hib : decide ((i : Int) < (idx.length : Int)) = false := by simp; omega
                have HFN := Lib.hid (HFIN.out p0 HPP.out)
                have hbw4 : Below w.heap.size w wr := below_all hb hb3
                go_wp2
                go_ret
                have hl' : p0.length = idx.length := HPL.out
                refine ⟨p0.map ls, some ⟨g3, 0, none⟩, cr2, by rw [List.length_map, hl']; rfl, ?_, HFN.out, ?_, hbw4⟩
                · refine ⟨fun i => F (p0.getD i 0), ⟨by simp, fun hn2 => ?_⟩, fun x hx => ?_⟩
                  · refine ⟨⟨g3, 0, none⟩, rfl, Blk.lt hB, fun j u hu => ?_⟩
                    have hj3 : j < p0.length := by
                      rcases Nat.lt_or_ge j p0.length with h | h
                      · exact h
                      · rw [List.getElem?_eq_none (by simp; omega)] at hu; cases hu
                    rw [add_lit, Nat.zero_add, hB.cell j, rarr_at _ _ _ _ hj3, ← hu]
                    simp [enc, hj3]
                  · have hx2 : x < p0.length := by simpa using hx
                    have e2 : (p0.map ls).getD x [] = ls (p0.getD x 0) := by simp [hx2]
                    rw [e2]
                    exact (HRW.out _ (HIM.out _ (HPP.out.mem_iff.1 (getD_mem hx2)))).keep hb3
                · intro a b hab hb5
                  have hbl : b < p0.length := by simpa using hb5
                  have := HSS.out a b hab (by omega)
                  simp only [List.getD_eq_getElem?_getD, List.getElem?_map, List.getElem?_eq_getElem hbl, List.getElem?_eq_getElem (show a < p0.length by omega)] at this ⊢
                  exact this
end Go.Proofs.Tg
end

section
/- Plain: the reference finds chordal graphs and their maximal cliques as the library does. -/
namespace Go.Gr
open Go.Chordal
theorem cmpL_antisymm : ∀ x y : List Int, ¬ cmpL x y < 0 → ¬ cmpL y x < 0 → x = y
  | [], [], _, _ => rfl
  | [], _ :: _, h, _ => by simp [cmpL] at h
  | _ :: _, [], _, h => by simp [cmpL] at h
  | a :: l, b :: m, h1, h2 => by
    unfold cmpL at h1 h2
    by_cases p : a < b
    · rw [if_pos p] at h1; omega
    · rw [if_neg p] at h1
      by_cases q : b < a
      · rw [if_pos q] at h2; omega
      · rw [if_neg q] at h1 h2
        rw [if_neg p] at h2
        have : a = b := by omega
        rw [this, cmpL_antisymm l m h1 h2]
theorem sorted_same : ∀ {l m : List (List Int)}, l.Perm m → l.Pairwise (fun a b => ¬ cmpL b a < 0) → m.Pairwise (fun a b => ¬ cmpL b a < 0) → l = m
  | [], m, h, _, _ => by rw [List.nil_perm.1 h]
  | x :: l, [], h, _, _ => by have := h.length_eq; simp at this
  | x :: l, y :: m, h, h1, h2 => by
    rw [List.pairwise_cons] at h1 h2
    have hxy : x = y := by
      have a : x ∈ y :: m := h.mem_iff.1 (by simp)
      have b : y ∈ x :: l := h.mem_iff.2 (by simp)
      rcases List.mem_cons.1 a with e | e
      · exact e
      · rcases List.mem_cons.1 b with e2 | e2
        · exact e2.symm
        · exact cmpL_antisymm x y (h2.1 x e) (h1.1 y e2)
    subst hxy
    rw [sorted_same (h.cons_inv) h1.2 h2.2]
theorem pair_of_sortedL {l : List (List Int)} (h : Go.Proofs.Tg.sortedL l) : l.Pairwise (fun a b => ¬ cmpL b a < 0) := by
  rw [List.pairwise_iff_getElem]
  intro i j hi hj hij
  have := h i j hij hj
  rw [List.getD_eq_getElem?_getD, List.getD_eq_getElem?_getD, List.getElem?_eq_getElem hi, List.getElem?_eq_getElem hj] at this
  exact this
theorem peo_suffix {adj : Nat → Nat → Prop} : ∀ (l1 : List Nat) {l2 : List Nat}, Peo adj (l1 ++ l2) → Peo adj l2
  | [], _, h => h
  | _ :: l1, _, h => peo_suffix l1 h.2
/-- The first of l that is not gone. -/
theorem first_left {p : Nat → Bool} : ∀ {l : List Nat}, (∃ v ∈ l, p v = false) → ∃ l1 v l2, l = l1 ++ v :: l2 ∧ p v = false ∧ ∀ x ∈ l1, p x = true
  | [], ⟨v, hv, _⟩ => by simp at hv
  | x :: l, h => by
    by_cases hx : p x = false
    · exact ⟨[], x, l, rfl, hx, by simp⟩
    · obtain ⟨v, hv, hp⟩ := h
      have hv2 : v ∈ l := by
        rcases List.mem_cons.1 hv with rfl | hv
        · exact absurd hp hx
        · exact hv
      obtain ⟨l1, u, l2, e, h1, h2⟩ := first_left (l := l) ⟨v, hv2, hp⟩
      refine ⟨x :: l1, u, l2, by rw [e]; rfl, h1, fun y hy => ?_⟩
      rcases List.mem_cons.1 hy with rfl | hy
      · simpa using hx
      · exact h2 y hy
section
variable {t : Nat → Nat → Bool} {n : Nat}
theorem simp_of {gone : Nat → Bool} {i : Nat} (h : ∀ a b, a < n → b < n → gone a = false → gone b = false → t i a = true → t i b = true → a ≠ b → t a b = true) : simpB t n gone i = true := by
  rw [simpB_iff]
  intro a ha b hb
  unfold okp
  cases h1 : gone a <;> cases h2 : gone b <;> cases h3 : t i a <;> cases h4 : t i b <;> simp
  exact h a b ha (by omega) h1 h2 h3 h4 (by omega)
theorem of_simp (hN : Nice t n) {gone : Nat → Bool} {i : Nat} (h : simpB t n gone i = true) : ∀ a b, a < n → b < n → gone a = false → gone b = false → t i a = true → t i b = true → a ≠ b → t a b = true := by
  rw [simpB_iff] at h
  have half : ∀ a b, a < n → b < a → gone a = false → gone b = false → t i a = true → t i b = true → t a b = true := by
    intro a b ha hb h1 h2 h3 h4
    have := h a ha b hb
    unfold okp at this
    rw [h1, h2, h3, h4] at this
    simpa using this
  intro a b ha hb h1 h2 h3 h4 hne
  rcases Nat.lt_or_gt_of_ne hne with hh | hh
  · exact hN.sym _ _ (half b a hb hh h2 h1 h4 h3)
  · exact half a b ha hh h1 h2 h3 h4
theorem okV_exists (hN : Nice t n) (hC : Chord t n) {gone : Nat → Bool} (hex : ∃ v, v < n ∧ gone v = false) : ∃ i, (List.range n).find? (okV t n gone) = some i := by
  obtain ⟨l, hl1, hl2, hl3⟩ := hC
  obtain ⟨v0, hv0, hg0⟩ := hex
  obtain ⟨l1, v, l2, e, hgv, hbef⟩ := first_left (p := gone) (l := l) ⟨v0, (hl1 v0).2 hv0, hg0⟩
  have hvn : v < n := (hl1 v).1 (by rw [e]; simp)
  have hpeo := peo_suffix l1 (by rw [← e]; exact hl3)
  have hok : okV t n gone v = true := by
    unfold okV
    rw [hgv]
    have : simpB t n gone v = true := by
      refine simp_of (fun a b ha hb h1 h2 h3 h4 hne => ?_)
      have hin : ∀ x, x < n → gone x = false → t v x = true → x ∈ l2 := by
        intro x hx hgx htx
        have : x ∈ l1 ++ v :: l2 := by rw [← e]; exact (hl1 x).2 hx
        rcases List.mem_append.1 this with hh | hh
        · rw [hbef x hh] at hgx; cases hgx
        · rcases List.mem_cons.1 hh with rfl | hh
          · rw [hN.irr] at htx; cases htx
          · exact hh
      exact hpeo.1 a (hin a ha h1 h3) b (hin b hb h2 h4) h3 h4 hne
    rw [this]; rfl
  cases hf : (List.range n).find? (okV t n gone) with
  | none =>
    rw [List.find?_eq_none] at hf
    exact absurd hok (hf v (by simpa using hvn))
  | some i => exact ⟨i, rfl⟩
/-- What the steps have done: the vertices in the order in which they went, and the sets. -/
structure Steps (t : Nat → Nat → Bool) (n r : Nat) (l : List Nat) (gone : Nat → Bool) (sets : List (List Int)) : Prop where
  len : l.length = r
  nd : l.Nodup
  lt : ∀ v ∈ l, v < n
  gone : ∀ v, gone v = true ↔ v ∈ l
  elim : ∀ j (hj : j < l.length), ∀ a b, a < n → b < n → a ∉ l.take j → b ∉ l.take j → a ≠ b → t l[j] a = true → t l[j] b = true → t a b = true
  slen : sets.length = r
  sets : ∀ j (hj : j < l.length) (hs : j < sets.length), ∃ s : List Nat, sets[j] = natsI s ∧ s.Pairwise (· < ·) ∧ ∀ x, x ∈ s ↔ x < n ∧ (x = l[j] ∨ (t l[j] x = true ∧ x ∉ l.take j))
theorem steps_zero : Steps t n 0 [] (fun _ => false) [] := ⟨rfl, by simp, by simp, by simp, fun j hj => by simp at hj, rfl, fun j hj => by simp at hj⟩
theorem steps_succ (hN : Nice t n) {r i : Nat} {l : List Nat} {gone : Nat → Bool} {sets : List (List Int)} (h : Steps t n r l gone sets) (hf : (List.range n).find? (okV t n gone) = some i) :
    Steps t n (r + 1) (l ++ [i]) (updF gone i true) (sets ++ [natsI (rowSet t n gone i)]) := by
  have hok := List.find?_some hf
  have hin : i < n := by simpa using List.mem_of_find?_eq_some hf
  unfold okV at hok
  simp only [Bool.and_eq_true, Bool.not_eq_true'] at hok
  have hil : i ∉ l := fun hm => by rw [(h.gone i).2 hm] at hok; cases hok.1
  have hng : ∀ v, gone v = false ↔ v ∉ l := by
    intro v
    rw [← h.gone]
    simp
  refine ⟨by simp [h.len], ?_, fun v hv => ?_, fun v => ?_, fun j hj a b ha hb h1 h2 hne h3 h4 => ?_, by simp [h.slen], fun j hj hs => ?_⟩
  · rw [List.nodup_append]
    exact ⟨h.nd, by simp, fun a ha b hb e => by simp at hb; subst hb e; exact hil ha⟩
  · rcases List.mem_append.1 hv with hv | hv
    · exact h.lt v hv
    · simp at hv; subst hv; exact hin
  · unfold updF
    by_cases e : v = i
    · rw [if_pos e]; simp [e]
    · rw [if_neg e, h.gone]; simp [e]
  · rw [List.length_append, List.length_singleton] at hj
    by_cases hjl : j < l.length
    · rw [List.take_append_of_le_length (by omega)] at h1 h2
      rw [List.getElem_append_left hjl] at h3 h4
      exact h.elim j hjl a b ha hb h1 h2 hne h3 h4
    · have ej : j = l.length := by omega
      subst ej
      rw [List.take_left'] at h1 h2
      · rw [List.getElem_append_right (Nat.le_refl _)] at h3 h4
        simp at h3 h4
        exact of_simp hN hok.2 a b ha hb ((hng a).2 h1) ((hng b).2 h2) h3 h4 hne
      · rfl
      · rfl
  · rw [List.length_append, List.length_singleton] at hj
    by_cases hjl : j < l.length
    · obtain ⟨s, e, h1, h2⟩ := h.sets j hjl (by rw [h.slen, ← h.len]; exact hjl)
      refine ⟨s, ?_, h1, fun x => ?_⟩
      · rw [List.getElem_append_left (by rw [h.slen, ← h.len]; exact hjl)]; exact e
      · rw [h2, List.getElem_append_left hjl, List.take_append_of_le_length (by omega)]
    · have ej : j = l.length := by omega
      subst ej
      refine ⟨rowSet t n gone i, ?_, ?_, fun x => ?_⟩
      · rw [List.getElem_append_right (by rw [h.slen, h.len]; exact Nat.le_refl _)]
        simp
      · unfold rowSet
        exact List.Pairwise.filter _ List.pairwise_lt_range
      · rw [List.take_left' rfl, List.getElem_append_right (Nat.le_refl _)]
        unfold rowSet
        simp only [List.mem_filter, List.mem_range, Bool.or_eq_true, decide_eq_true_eq, Bool.and_eq_true, Bool.not_eq_true', hng]
        simp
theorem left_exists {r : Nat} {l : List Nat} {gone : Nat → Bool} {sets : List (List Int)} (h : Steps t n r l gone sets) (hr : r < n) : ∃ v, v < n ∧ gone v = false := by
  by_cases hex : ∃ v, v < n ∧ gone v = false
  · exact hex
  · exfalso
    have : n ≤ l.length := cover_le n l (fun v hv => by
      rw [← h.gone]
      cases hg : gone v
      · exact absurd ⟨v, hv, hg⟩ hex
      · rfl)
    have := h.len
    omega
theorem chord_steps (hN : Nice t n) (hC : Chord t n) : ∀ r, r ≤ n → ∃ l, triTo t n r = some (maxTo t n r).1 ∧ Steps t n r l (maxTo t n r).1 (maxTo t n r).2
  | 0, _ => ⟨[], rfl, steps_zero⟩
  | r + 1, hr => by
    obtain ⟨l, h1, h2⟩ := chord_steps hN hC r (by omega)
    obtain ⟨i, hi⟩ := okV_exists hN hC (left_exists h2 (by omega))
    refine ⟨l ++ [i], ?_, ?_⟩
    · rw [maxTo_some hi]
      show (match triTo t n r with | none => none | some gone => _) = _
      rw [h1]
      show (match (List.range n).find? (okV t n (maxTo t n r).1) with | none => none | some i => _) = _
      rw [hi]
    · rw [maxTo_some hi]
      exact steps_succ hN h2 hi
theorem tri_steps (hN : Nice t n) : ∀ r gone, triTo t n r = some gone → ∃ l sets, Steps t n r l gone sets
  | 0, gone, h => by
    have : gone = fun _ => false := by
      have : some (fun _ => false) = some gone := h
      injection this with this; exact this.symm
    subst this
    exact ⟨[], [], steps_zero⟩
  | r + 1, gone, h => by
    have h' : (match triTo t n r with
      | none => none
      | some gone => match (List.range n).find? (okV t n gone) with
        | none => none
        | some i => some (updF gone i true)) = some gone := h
    cases h1 : triTo t n r with
    | none => rw [h1] at h'; cases h'
    | some g0 =>
      rw [h1] at h'
      simp only at h'
      cases h2 : (List.range n).find? (okV t n g0) with
      | none => rw [h2] at h'; cases h'
      | some i =>
        rw [h2] at h'
        simp only at h'
        injection h' with h'
        subst h'
        obtain ⟨l, sets, hs⟩ := tri_steps hN r g0 h1
        exact ⟨_, _, steps_succ hN hs h2⟩
theorem steps_all {l : List Nat} {gone : Nat → Bool} {sets : List (List Int)} (h : Steps t n n l gone sets) : ∀ v, v ∈ l ↔ v < n := by
  intro v
  refine ⟨h.lt v, fun hv => ?_⟩
  by_cases hm : v ∈ l
  · exact hm
  · exfalso
    have := Go.Jt.inj_len (f := fun x => x) (l := v :: l) (l' := List.range n) (List.nodup_cons.2 ⟨hm, h.nd⟩) (fun x hx => by
      rcases List.mem_cons.1 hx with rfl | hx
      · simpa using hv
      · simpa using h.lt x hx) (fun _ _ _ _ e => e)
    rw [List.length_range, List.length_cons, h.len] at this
    omega
theorem steps_chord {l : List Nat} {gone : Nat → Bool} {sets : List (List Int)} (h : Steps t n n l gone sets) : Chord t n := by
  refine ⟨l, steps_all h, h.nd, ?_⟩
  have : ∀ (l2 l1 : List Nat), l = l1 ++ l2 → Peo (fun a b => t a b = true) l2 := by
    intro l2
    induction l2 with
    | nil => intro _ _; exact trivial
    | cons v l2 ih =>
      intro l1 e
      refine ⟨fun a ha b hb h1 h2 hne => ?_, ih (l1 ++ [v]) (by rw [e]; simp)⟩
      have hj : l1.length < l.length := by rw [e]; simp
      have ev : l[l1.length] = v := by simp [e]
      have htk : l.take l1.length = l1 := by rw [e]; simp
      have hnd := h.nd
      rw [e, List.nodup_append] at hnd
      have hnot : ∀ x ∈ l2, x ∉ l1 := fun x hx hx1 => hnd.2.2 x hx1 x (by simp [hx]) rfl
      refine h.elim l1.length hj a b (h.lt a (by rw [e]; simp [ha])) (h.lt b (by rw [e]; simp [hb])) (by rw [htk]; exact hnot a ha) (by rw [htk]; exact hnot b hb) hne (by rw [ev]; exact h1) (by rw [ev]; exact h2)
  exact this l [] rfl
theorem triang_iff (hN : Nice t n) : triang t n = true ↔ Chord t n := by
  unfold triang
  constructor
  · intro h
    cases h1 : triTo t n n with
    | none => rw [h1] at h; cases h
    | some gone =>
      obtain ⟨l, sets, hs⟩ := tri_steps hN n gone h1
      exact steps_chord hs
  · intro hC
    obtain ⟨l, h1, _⟩ := chord_steps hN hC n (Nat.le_refl _)
    rw [h1]; rfl
end
end Go.Gr
end

section
/- Plain: the reference's maximal cliques are the library's. -/
namespace Go.Gr
theorem common_sub {a b : List Int} (hb : b.Nodup) : common a b = a.length ↔ ∀ x ∈ a, x ∈ b := by
  have h1 : common a b = (a.filter fun x => decide (x ∈ b)).length := by
    unfold common
    induction a with
    | nil => rfl
    | cons x l ih =>
      rw [List.map_cons, List.sum_cons, ih]
      by_cases hx : x ∈ b
      · rw [List.filter_cons_of_pos (by simpa using hx), List.Nodup.count hb, if_pos hx]; simp; omega
      · rw [List.filter_cons_of_neg (by simpa using hx), List.count_eq_zero_of_not_mem hx]; simp
  rw [h1, List.length_filter_eq_length_iff]
  simp
theorem natsI_mem {l : List Nat} {x : Nat} : (x : Int) ∈ natsI l ↔ x ∈ l := by
  unfold natsI
  rw [List.mem_map]
  exact ⟨fun ⟨y, hy, e⟩ => by rwa [show x = y by omega], fun h => ⟨x, h, rfl⟩⟩
theorem natsI_sub {a b : List Nat} : (∀ x ∈ natsI a, x ∈ natsI b) ↔ ∀ x ∈ a, x ∈ b := by
  constructor
  · intro h x hx
    exact natsI_mem.1 (h _ (natsI_mem.2 hx))
  · intro h x hx
    unfold natsI at hx
    obtain ⟨y, hy, rfl⟩ := List.mem_map.1 hx
    exact natsI_mem.2 (h y hy)
section
variable {n : Nat} {es : List (Int × Int)}
theorem kept_mem (h : valid n es) (hC : Chord (readT es) n) : ((keptI (maxTo (readT es) n n).2 (maxTo (readT es) n n).2.length).map fun i => (maxTo (readT es) n n).2.getD i []).Nodup ∧
    ∀ X, X ∈ ((keptI (maxTo (readT es) n n).2 (maxTo (readT es) n n).2.length).map fun i => (maxTo (readT es) n n).2.getD i []) ↔ ∃ s, s < 18446744073709551616 ∧ MaxClq (readT es) n s ∧ vertsI s = X := by
  have hN := valid_nice h
  have hn : n ≤ 64 := by have := h.2.1; omega
  obtain ⟨l, _, hS⟩ := chord_steps hN hC n (Nat.le_refl _)
  generalize (maxTo (readT es) n n).2 = sets at hS ⊢
  have hall := steps_all hS
  have hsl := hS.slen
  -- the sets as lists of numbers
  have hex : ∀ j, j < n → ∃ s : List Nat, sets.getD j [] = natsI s ∧ s.Pairwise (· < ·) ∧ ∀ x, x ∈ s ↔ x < n ∧ (x = l.getD j 0 ∨ (readT es (l.getD j 0) x = true ∧ x ∉ l.take j)) := by
    intro j hj
    obtain ⟨s, e, h1, h2⟩ := hS.sets j (by rw [hS.len]; exact hj) (by omega)
    have e1 : l[j]'(by rw [hS.len]; exact hj) = l.getD j 0 := by simp [show j < l.length by rw [hS.len]; exact hj]
    refine ⟨s, ?_, h1, fun x => by rw [h2, e1]⟩
    rw [List.getD_eq_getElem?_getD, List.getElem?_eq_getElem (by omega)]
    exact e
  obtain ⟨S, hSS⟩ : ∃ S : Nat → List Nat, ∀ j, j < n → sets.getD j [] = natsI (S j) ∧ (S j).Pairwise (· < ·) ∧ ∀ x, x ∈ S j ↔ x < n ∧ (x = l.getD j 0 ∨ (readT es (l.getD j 0) x = true ∧ x ∉ l.take j)) :=
    ⟨fun j => if hj : j < n then Classical.choose (hex j hj) else [], fun j hj => by simp only [hj, dite_true]; exact Classical.choose_spec (hex j hj)⟩
  have hgm : ∀ j, j < n → l.getD j 0 ∈ l := fun j hj => Go.Proofs.Tg.getD_mem (by rw [hS.len]; exact hj)
  have hglt : ∀ j, j < n → l.getD j 0 < n := fun j hj => hS.lt _ (hgm j hj)
  have hself : ∀ j, j < n → l.getD j 0 ∈ S j := fun j hj => ((hSS j hj).2.2 _).2 ⟨hglt j hj, .inl rfl⟩
  have hidx : ∀ v, v < n → ∃ j, j < n ∧ l.getD j 0 = v := by
    intro v hv
    obtain ⟨j, hj, e⟩ := List.getElem_of_mem ((hall v).2 hv)
    exact ⟨j, by rw [← hS.len]; exact hj, by simp [hj, e]⟩
  have htake : ∀ i j, i < n → j < n → (l.getD i 0 ∈ l.take j ↔ i < j) := by
    intro i j hi hj
    have hil : i < l.length := by rw [hS.len]; exact hi
    constructor
    · intro hm
      obtain ⟨k, hk, e⟩ := List.getElem_of_mem hm
      rw [List.length_take] at hk
      rw [List.getElem_take] at e
      have e1 : l.getD i 0 = l[i] := by simp [hil]
      rw [e1] at e
      rcases Nat.lt_trichotomy k i with h1 | h1 | h1
      · exact absurd e (List.pairwise_iff_getElem.1 hS.nd k i (by omega) hil h1)
      · omega
      · exact absurd e.symm (List.pairwise_iff_getElem.1 hS.nd i k hil (by omega) h1)
    · intro hij
      have e1 : l.getD i 0 = l[i] := by simp [hil]
      rw [e1]
      exact List.mem_take_iff_getElem.2 ⟨i, by omega, rfl⟩
  have hclq : ∀ j, j < n → ∀ a b, a ∈ S j → b ∈ S j → a ≠ b → readT es a b = true := by
    intro j hj a b ha hb hne
    obtain ⟨ha1, ha2⟩ := ((hSS j hj).2.2 a).1 ha
    obtain ⟨hb1, hb2⟩ := ((hSS j hj).2.2 b).1 hb
    rcases ha2 with rfl | ⟨ha2, ha3⟩
    · rcases hb2 with rfl | ⟨hb2, _⟩
      · exact absurd rfl hne
      · exact hb2
    · rcases hb2 with rfl | ⟨hb2, hb3⟩
      · exact hN.sym _ _ ha2
      · have e1 : l[j]'(by rw [hS.len]; exact hj) = l.getD j 0 := by simp [show j < l.length by rw [hS.len]; exact hj]
        exact hS.elim j (by rw [hS.len]; exact hj) a b ha1 hb1 ha3 hb3 hne (by rw [e1]; exact ha2) (by rw [e1]; exact hb2)
  have hnd : ∀ j, j < n → (natsI (S j)).Nodup := by
    intro j hj
    unfold natsI
    rw [List.nodup_iff_pairwise_ne, List.pairwise_map]
    exact (hSS j hj).2.1.imp (fun h e => by omega)
  have hkeep : ∀ i, i < n → (keepI sets i = true ↔ ∀ k, k < n → k ≠ i → ¬ ∀ x ∈ S i, x ∈ S k) := by
    intro i hi
    unfold keepI
    rw [List.all_eq_true]
    have hone : ∀ k, k < n → (keepP sets i k = true ↔ (k ≠ i → ¬ ∀ x ∈ S i, x ∈ S k)) := by
      intro k hk
      unfold keepP
      rw [(hSS i hi).1, (hSS k hk).1, Bool.or_eq_true, Bool.not_eq_true', decide_eq_true_eq, decide_eq_false_iff_not, common_sub (hnd k hk), natsI_sub]
      by_cases e : k = i
      · simp [e]
      · simp [e]
    constructor
    · intro hh k hk
      exact (hone k hk).1 (hh k (by simp; omega))
    · intro hh k hk
      have hk : k < n := by have : k < sets.length := by simpa using hk
                            omega
      exact (hone k hk).2 (hh k hk)
  have hset : ∀ j, j < n → asc (natsI (S j)) := by
    intro j hj
    have hp : (natsI (S j)).Pairwise (· < ·) := by
      unfold natsI
      rw [List.pairwise_map]
      exact (hSS j hj).2.1.imp (fun h => by omega)
    have hr : ∀ x ∈ natsI (S j), 0 ≤ x ∧ x < 64 := by
      intro x hx
      unfold natsI at hx
      obtain ⟨y, hy, rfl⟩ := List.mem_map.1 hx
      have := (((hSS j hj).2.2 y).1 hy).1
      omega
    intro i hi _
    exact ⟨hr _ (List.getElem_mem _), fun h0 => List.pairwise_iff_getElem.1 hp (i - 1) i (by omega) hi (by omega)⟩
  have hbit : ∀ j, j < n → ∀ v : Nat, (setOf (natsI (S j))).testBit v = true ↔ v ∈ S j := by
    intro j hj v
    rw [setOf_bit (fun x hx => (asc_range (hset j hj) x hx).1), natsI_mem]
  have hmemK : ∀ X, X ∈ ((keptI sets sets.length).map fun i => sets.getD i []) ↔ ∃ i, i < n ∧ keepI sets i = true ∧ natsI (S i) = X := by
    intro X
    rw [List.mem_map]
    unfold keptI
    constructor
    · rintro ⟨i, hi, e⟩
      rw [List.mem_filter, List.mem_range] at hi
      have hin : i < n := by omega
      exact ⟨i, hin, hi.2, by rw [← e]; exact (hSS i hin).1.symm⟩
    · rintro ⟨i, hi, h1, e⟩
      exact ⟨i, List.mem_filter.2 ⟨by simp; omega, h1⟩, by simp only [(hSS i hi).1]; exact e⟩
  refine ⟨?_, fun X => ?_⟩
  · rw [List.nodup_iff_pairwise_ne, List.pairwise_map]
    have hnk : (keptI sets sets.length).Nodup := by
      unfold keptI
      exact List.Pairwise.filter _ List.nodup_range
    refine List.Pairwise.imp_of_mem (fun {a b} ha hb hne e => ?_) hnk
    unfold keptI at ha hb
    rw [List.mem_filter, List.mem_range] at ha hb
    have han : a < n := by omega
    have hbn : b < n := by omega
    rw [(hSS a han).1, (hSS b hbn).1] at e
    refine (hkeep a han).1 ha.2 b hbn (fun e2 => hne e2.symm) (fun x hx => ?_)
    exact natsI_mem.1 (by rw [← e]; exact natsI_mem.2 hx)
  · rw [hmemK]
    constructor
    · rintro ⟨i, hi, hk, rfl⟩
      refine ⟨setOf (natsI (S i)), setOf_small (hset i hi), ⟨fun v hv => ?_, fun u v hu hv hne => ?_, fun v hv hadj => ?_, ?_⟩, vertsZ_setOf (hset i hi)⟩
      · exact (((hSS i hi).2.2 v).1 ((hbit i hi v).1 hv)).1
      · exact hclq i hi u v ((hbit i hi u).1 hu) ((hbit i hi v).1 hv) hne
      · rw [hbit i hi]
        obtain ⟨j, hj, rfl⟩ := hidx v hv
        have hadj' : ∀ u ∈ S i, u ≠ l.getD j 0 → readT es u (l.getD j 0) = true := fun u hu hne => hadj u ((hbit i hi u).2 hu) hne
        rcases Nat.lt_trichotomy j i with hji | hji | hji
        · exfalso
          refine (hkeep i hi).1 hk j hj (by omega) (fun x hx => ?_)
          rw [(hSS j hj).2.2]
          obtain ⟨hx1, hx2⟩ := ((hSS i hi).2.2 x).1 hx
          refine ⟨hx1, ?_⟩
          obtain ⟨q, hq, rfl⟩ := hidx x hx1
          by_cases e : l.getD q 0 = l.getD j 0
          · exact .inl e
          · right
            refine ⟨hN.sym _ _ (hadj' _ hx e), ?_⟩
            rw [htake q j hq hj]
            have : i ≤ q := by
              rcases hx2 with e2 | ⟨_, h3⟩
              · have : ¬ q < i := by rw [← htake q i hq hi, e2, htake i i hi hi]; omega
                omega
              · rw [htake q i hq hi] at h3; omega
            omega
        · subst hji; exact hself j hj
        · rw [(hSS i hi).2.2]
          refine ⟨hglt j hj, .inr ⟨?_, by rw [htake j i hj hi]; omega⟩⟩
          refine hadj' _ (hself i hi) (fun e => ?_)
          have : j < i ∨ ¬ j < i := Classical.em _
          have h1 : l.getD i 0 ∈ l.take j := (htake i j hi hj).2 hji
          rw [e] at h1
          have := (htake j j hj hj).1 h1
          omega
      · exact ⟨_, (hbit i hi _).2 (hself i hi)⟩
    · rintro ⟨s, hs, hM, rfl⟩
      have hleast : ∃ i, i < n ∧ s.testBit (l.getD i 0) = true ∧ ∀ j, j < i → s.testBit (l.getD j 0) = false := by
        obtain ⟨v, hv⟩ := hM.one
        obtain ⟨j, hj, rfl⟩ := hidx v (hM.lt v hv)
        have : ∀ j, j < n → s.testBit (l.getD j 0) = true → ∃ i, i < n ∧ s.testBit (l.getD i 0) = true ∧ ∀ j, j < i → s.testBit (l.getD j 0) = false := by
          intro j
          induction j using Nat.strongRecOn with
          | _ j ih =>
            intro hj hb
            by_cases hh : ∃ q, q < j ∧ s.testBit (l.getD q 0) = true
            · obtain ⟨q, h1, h2⟩ := hh
              exact ih q h1 (by omega) h2
            · refine ⟨j, hj, hb, fun q hq => ?_⟩
              cases hbq : s.testBit (l.getD q 0)
              · rfl
              · exact absurd ⟨q, hq, hbq⟩ hh
        exact this j hj hv
      obtain ⟨i, hi, hib, hbef⟩ := hleast
      have hsub : ∀ x, s.testBit x = true → x ∈ S i := by
        intro x hx
        rw [(hSS i hi).2.2]
        refine ⟨hM.lt x hx, ?_⟩
        by_cases e : x = l.getD i 0
        · exact .inl e
        · right
          refine ⟨hM.clq _ _ hib hx (fun e2 => e e2.symm), ?_⟩
          obtain ⟨q, hq, rfl⟩ := hidx x (hM.lt x hx)
          rw [htake q i hq hi]
          intro hqi
          rw [hbef q hqi] at hx
          cases hx
      have hsame : ∀ x, x ∈ S i ↔ s.testBit x = true := fun x => ⟨fun hx => hM.max x (((hSS i hi).2.2 x).1 hx).1 (fun u hu hne => hclq i hi u x (hsub u hu) hx hne), hsub x⟩
      have hes : setOf (natsI (S i)) = s := by
        apply Nat.eq_of_testBit_eq
        intro x
        rw [Bool.eq_iff_iff, hbit i hi, hsame]
      refine ⟨i, hi, (hkeep i hi).2 (fun k hk hki hin => ?_), ?_⟩
      · have hkS : l.getD k 0 ∈ S i := by
          rw [hsame]
          refine hM.max _ (hglt k hk) (fun u hu hne => ?_)
          exact hclq k hk u _ (hin u (hsub u hu)) (hself k hk) hne
        have hik : i < k := by
          obtain ⟨_, h2⟩ := ((hSS i hi).2.2 _).1 hkS
          have hnot : ¬ k < i := by
            rcases h2 with e | ⟨_, h3⟩
            · rw [← htake k i hk hi, e, htake i i hi hi]; omega
            · rw [htake k i hk hi] at h3; exact h3
          omega
        obtain ⟨_, h2⟩ := ((hSS k hk).2.2 _).1 (hin _ (hself i hi))
        have htk := (htake i k hi hk).2 hik
        rcases h2 with e | ⟨_, h3⟩
        · rw [e] at htk
          have := (htake k k hk hk).1 htk
          omega
        · exact h3 htk
      · rw [← hes]
        exact (vertsZ_setOf (hset i hi)).symm
/-- Both lists of cliques are one. -/
theorem max_same (h : valid n es) (hc : isChordal (readAll es) n = true) {lo ls : List (List Int)} (h1 : lo.Perm ((keptI (maxTo (readT es) n n).2 (maxTo (readT es) n n).2.length).map fun i => (maxTo (readT es) n n).2.getD i [])) (h2 : Go.Proofs.Tg.sortedL lo)
    (h3 : ls.Perm ((keepLast (cands (readAll es) n)).map vertsI)) (h4 : Go.Proofs.Tg.sortedL ls) : lo = ls := by
  have hn : n ≤ 64 := by have := h.2.1; omega
  obtain ⟨hnd, hmem⟩ := kept_mem h ((isChordal_chord h).1 hc)
  have hnd2 : ((keepLast (cands (readAll es) n)).map vertsI).Nodup := by
    rw [List.nodup_iff_pairwise_ne, List.pairwise_map]
    exact List.Pairwise.imp_of_mem (fun {a b} ha hb hne e => hne (vertsI_inj ((keep_iff h hc a).1 ha).1 ((keep_iff h hc b).1 hb).1 e)) ((cands_nodup (es := es) hn).sublist (keepLast_sub _))
  have hp : ((keptI (maxTo (readT es) n n).2 (maxTo (readT es) n n).2.length).map fun i => (maxTo (readT es) n n).2.getD i []).Perm ((keepLast (cands (readAll es) n)).map vertsI) := by
    rw [List.perm_ext_iff_of_nodup hnd hnd2]
    intro X
    rw [hmem, List.mem_map]
    constructor
    · rintro ⟨s, h1, h2, e⟩
      exact ⟨s, (keep_iff h hc s).2 ⟨h1, h2⟩, e⟩
    · rintro ⟨s, hs, e⟩
      have := (keep_iff h hc s).1 hs
      exact ⟨s, this.1, this.2, e⟩
  exact sorted_same ((h1.trans hp).trans h3.symm) (pair_of_sortedL h2) (pair_of_sortedL h4)
end
end Go.Gr
end
