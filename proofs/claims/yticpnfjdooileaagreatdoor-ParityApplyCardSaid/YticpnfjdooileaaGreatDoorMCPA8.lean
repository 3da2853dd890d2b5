/- Parts of the proof: XK1, XR1, WB2. -/
import Derived.Laws.OwnMore
import Derived.RegionTactic
import Derived.ChangeAlike
import Derived.Deep.DeepCutAuto
import Derived.Test.YticpnfjdooileaaGreatDoorMCPA2
import Derived.Test.YticpnfjdooileaaGreatDoorMCPA3
import Derived.Test.YticpnfjdooileaaGreatDoorMCPA5
import Derived.Test.YticpnfjdooileaaGreatDoorMCPA7
section
/- The reference's leading and orthogonal; the harness's SmallPoly. -/
namespace Go.Ev
/-- Every row is even against v. -/
def orth (rs : List (List Int)) (v : List Int) : Bool := rs.all fun r => dotN r v v.length % 2 == 0
end Go.Ev
namespace Go.Proofs.Tg
open Go.RowKit Go.Gr Go.Ev Go.Mo
set_option maxHeartbeats 4000000
set_option maxRecDepth 100000
theorem Dr.trans {w w' w'' : World} (h : Dr w w') (k : Dr w' w'') : Dr w w'' := by
  obtain ⟨n, rfl⟩ := k
  exact h.drewN n
theorem fidx_hit {l : List Int} {k : Nat} (h : k ≤ l.findIdx (· == 1)) (hk : k < l.length) (hx : l[k] = 1) : l.findIdx (· == 1) = k := by
  by_cases e : k < l.findIdx (· == 1)
  · have := List.not_of_lt_findIdx e
    rw [hx] at this
    cases this
  · omega
theorem fidx_miss {l : List Int} {k : Nat} (h : k ≤ l.findIdx (· == 1)) (hk : k < l.length) (hx : l[k] ≠ 1) : k + 1 ≤ l.findIdx (· == 1) := by
  by_cases e : l.findIdx (· == 1) = k
  · exfalso
    have hlt : l.findIdx (· == 1) < l.length := by omega
    have := List.findIdx_getElem (w := hlt)
    rw [beq_iff_eq] at this
    apply hx
    rw [← this]
    congr 1
    exact e.symm
  · omega
theorem lead_any (A : Option Addr) (c : Nat) (l : List Int) (w : World) (hA : Ints w A l) (hn : l.length ≤ 1000) :
    Calls Tryz.prog 59 #[.slice A l.length c] w fun e w' => e = .returned (.int .i64 (l.findIdx (· == 1) : Nat)) ∧ w = w' := by
  obtain ⟨q, hq⟩ : ∃ q, l.findIdx (· == 1) = q := ⟨_, rfl⟩
  have HQ := Lib.hid hq
  rw [hq]
  clear hq
  go_enter Tryz.func59, Tryz.ntmps59
  go_wp2
  go_loop [3] (fun i => ∃ k : Nat, k ≤ l.length ∧ i = .int .i64 k ∧ Hid (k ≤ q)) (fun i => l.length - (intOf i).toNat)
  case atStart => exact ⟨0, Nat.zero_le _, rfl, Lib.hid (Nat.zero_le _)⟩
  case round =>
    obtain ⟨k, hk, rfl, HK⟩ := hrel
    by_cases hlt : k < l.length
    · obtain ⟨ad, rfl, hc⟩ := Ints.at hA hlt
      have H1 : Hid (l[k] = 1 → q = k) := Lib.hid (fun h => by have := fidx_hit (HQ.out ▸ HK.out) hlt h; rw [HQ.out] at this; exact this)
      have H2 : Hid (l[k] ≠ 1 → k + 1 ≤ q) := Lib.hid (fun h => by have := fidx_miss (HQ.out ▸ HK.out) hlt h; rw [HQ.out] at this; exact this)
      generalize l[k] = x at hc H1 H2
      by_cases hx : x = 1
      · have hb : (x == 1) = true := by simp [hx]
        obtain rfl := H1.out hx
        clear hx
        go_wp2
        go_ret
        exact ⟨rfl, rfl⟩
      · have hb : (x == 1) = false := by simp [hx]
        have HK2 := Lib.hid (H2.out hx)
        clear hx
        go_wp2
        go_round
        case rel => exact ⟨k + 1, by omega, by go_num, HK2⟩
        case measure => simp [intOf]; omega
    · obtain rfl : k = l.length := by omega
      obtain rfl : q = l.length := by
        have h1 := HK.out
        have h2 : l.findIdx (· == 1) ≤ l.length := List.findIdx_le_length
        rw [HQ.out] at h2
        omega
      go_wp2
      go_ret
      exact ⟨rfl, rfl⟩
theorem orth_any (R S : Option Addr) (c d : Nat) (rs : List (List Int)) (v : List Int) (w : World) (hR : Lists w R rs) (hS : Ints w S v) (hr : rs.length ≤ 1000000) (hn : v.length ≤ 64)
    (ha : ∀ r ∈ rs, v.length ≤ r.length ∧ ∀ x ∈ r, 0 ≤ x ∧ x ≤ 1048576) (hs : Ev.Bit01 v) :
    Calls Tryz.prog 48 #[.slice R rs.length c, .slice S v.length d] w fun e w' => e = .returned (.bool (orth rs v)) ∧ Dr w w' := by
  have HA := Lib.hid ha
  have HS := Lib.hid hs
  clear ha hs
  obtain ⟨b, hb⟩ : ∃ b, orth rs v = b := ⟨_, rfl⟩
  have HB := Lib.hid hb
  rw [hb]
  clear hb
  go_enter Tryz.func48, Tryz.ntmps48
  go_wp2
  go_loopw [5] (fun i wr => ∃ k : Nat, k ≤ rs.length ∧ i = .int .i64 k ∧ Hid (∀ r ∈ rs.take k, dotN r v v.length % 2 = 0) ∧ Dr w wr) (fun i _ => rs.length - (intOf i).toNat)
  case atStart => exact ⟨0, Nat.zero_le _, rfl, Lib.hid (by simp), Dr.refl _⟩
  case round =>
    obtain ⟨k, hk, rfl, HG, hbw⟩ := hrel
    by_cases hlt : k < rs.length
    · obtain ⟨ad, A, cl, rfl, hc, hA⟩ := Lists.at (hR.keep hbw.below) hlt
      have HM : Hid (rs[k] ∈ rs) := Lib.hid (List.getElem_mem _)
      have HT0 : Hid (rs.take (k + 1) = rs.take k ++ [rs[k]]) := Lib.hid (List.take_succ_eq_append_getElem hlt)
      generalize rs[k] = r at hc hA HM HT0
      have hS2 := hS.keep hbw.below
      have HD := Lib.hid (dot_any A S cl d r v wr hA hS2 (HA.out r HM.out).1 hn (HA.out r HM.out).2 HS.out)
      clear hA hS2
      obtain ⟨z, hz⟩ : ∃ z, dotN r v v.length % 2 = z := ⟨_, rfl⟩
      rw [hz] at HD
      have HZ := Lib.hid hz
      clear hz
      by_cases h0 : z = 0
      · subst h0
        have HG2 : Hid (∀ r ∈ rs.take (k + 1), dotN r v v.length % 2 = 0) := Lib.hid (by
          rw [HT0.out]
          intro r' hr'
          rcases List.mem_append.1 hr' with h | h
          · exact HG.out r' h
          · simp at h; subst h; exact HZ.out)
        go_wp2_with (go_at_call 43; refine HD.out.mono ?_; rintro e w2 ⟨rfl, hdr⟩)
        go_roundw
        case rel => exact ⟨k + 1, by omega, by go_num, HG2, hbw.trans hdr⟩
        case measure => simp [intOf]; omega
      · have hne : (z != 0) = true := by simp [h0]
        obtain rfl : b = false := by
          cases b
          · rfl
          · exfalso
            have := HB.out
            unfold orth at this
            rw [List.all_eq_true] at this
            have := this r HM.out
            rw [beq_iff_eq, HZ.out] at this
            exact h0 this
        clear h0
        go_wp2_with (go_at_call 43; refine HD.out.mono ?_; rintro e w2 ⟨rfl, hdr⟩)
        go_ret
        exact ⟨rfl, hbw.trans hdr⟩
    · obtain rfl : k = rs.length := by omega
      obtain rfl : b = true := by
        rw [← HB.out]
        unfold orth
        rw [List.all_eq_true]
        intro r hr
        rw [beq_iff_eq]
        exact HG.out r (by rw [List.take_length]; exact hr)
      go_wp2
      go_ret
      exact ⟨rfl, hbw⟩
def PVal.few (n m : Nat) (p : PVal) : Prop := p.tv.length ≤ n ∧ ∀ t ∈ p.tv, t.coef.size ≤ m ∧ t.exps.length ≤ 12
theorem spoly_any (p : PVal) (n m : Nat) (b : Bool) (w : World) (hP : TermsAt w p.adr p.tv) (hv : b = true ↔ p.few n m) (hn : n ≤ 1000) (_hm : m ≤ 1000) :
    Calls Tryz.prog 20 #[.agg #[.int .i64 p.vars, .slice p.adr p.tv.length p.cap], .int .i64 n, .int .i64 m] w fun e w' => e = .returned (.bool b) ∧ Below w.heap.size w w' := by
  have hbA : Below w.heap.size w (w.alloc (.cells #[.int .i64 p.vars, .slice p.adr p.tv.length p.cap] 36)) := (Below.refl _ _).alloc (Nat.le_refl _) _
  have hP1 := hP.keep hbA
  have hB := Blk.new w 36 #[.int .i64 p.vars, .slice p.adr p.tv.length p.cap]
  obtain ⟨P, T, cp, tv⟩ := p
  simp only at *
  have HV := Lib.hid hv
  clear hv hP
  by_cases hl : tv.length ≤ n
  · have hd : decide ((n : Int) < (tv.length : Int)) = false := by simp; omega
    have hd' : decide (n < tv.length) = false := by simp; omega
    go_enter Tryz.func20, Tryz.ntmps20
    go_wp2
    generalize w.alloc (.cells #[.int .i64 P, .slice T tv.length cp] 36) = W at hbA hP1 hB
    generalize hg : w.heap.size = G at hB ⊢
    obtain ⟨c0, c1, f0, f1⟩ := hB.two
    have hgl := hB.lt
    have HG := Lib.hid hg
    clear hg hB
    go_loop [7] (fun i => ∃ k : Nat, i = .int .i64 k ∧ k ≤ tv.length ∧ Hid (∀ t ∈ tv.take k, t.coef.size ≤ m ∧ t.exps.length ≤ 12)) (fun i => tv.length - (intOf i).toNat)
    case atStart => exact ⟨0, rfl, Nat.zero_le _, Lib.hid (by simp)⟩
    case round =>
      obtain ⟨k, rfl, hk, HI⟩ := hrel
      by_cases hkl : k < tv.length
      · obtain ⟨ad, rfl, hc1, hc2, _⟩ := TermsAt.at hP1 hkl
        have HM : Hid (tv[k] ∈ tv) := Lib.hid (List.getElem_mem _)
        have HT0 : Hid (tv.take (k + 1) = tv.take k ++ [tv[k]]) := Lib.hid (List.take_succ_eq_append_getElem hkl)
        generalize tv[k] = t at *
        obtain ⟨s, A, ca, el⟩ := t
        simp only at *
        by_cases h1 : s.size ≤ m
        · have hb1 : decide ((m : Int) < (s.size : Int)) = false := by simp; omega
          have hb1' : decide (m < s.size) = false := by simp; omega
          by_cases h2 : el.length ≤ 12
          · have hb2 : decide ((12 : Int) < (el.length : Int)) = false := by simp; omega
            have hb2' : decide (12 < el.length) = false := by simp; omega
            have HG2 : Hid (∀ t ∈ tv.take (k + 1), t.coef.size ≤ m ∧ t.exps.length ≤ 12) := Lib.hid (by
              rw [HT0.out]
              intro l' hl'
              rcases List.mem_append.1 hl' with h | h
              · exact HI.out l' h
              · simp at h; subst h; exact ⟨h1, h2⟩)
            go_wp2
            go_round
            case rel => exact ⟨k + 1, by go_num, by omega, HG2⟩
            case measure => simp [intOf]; omega
          · have hb2 : decide ((12 : Int) < (el.length : Int)) = true := by simp; omega
            have hb2' : decide (12 < el.length) = true := by simp; omega
            obtain rfl : b = false := by
              cases b
              · rfl
              · exact absurd ((HV.out.1 rfl).2 _ HM.out).2 h2
            go_wp2
            go_ret
            exact ⟨rfl, HG.out ▸ hbA⟩
        · have hb1 : decide ((m : Int) < (s.size : Int)) = true := by simp; omega
          have hb1' : decide (m < s.size) = true := by simp; omega
          obtain rfl : b = false := by
            cases b
            · rfl
            · exact absurd ((HV.out.1 rfl).2 _ HM.out).1 h1
          go_wp2
          go_ret
          exact ⟨rfl, HG.out ▸ hbA⟩
      · obtain rfl : k = tv.length := by omega
        obtain rfl : b = true := HV.out.2 ⟨hl, by have := HI.out; rwa [List.take_length] at this⟩
        go_wp2
        go_ret
        exact ⟨rfl, HG.out ▸ hbA⟩
  · have hd : decide ((n : Int) < (tv.length : Int)) = true := by simp; omega
    have hd' : decide (n < tv.length) = true := by simp; omega
    obtain rfl : b = false := by
      cases b
      · rfl
      · exact absurd (HV.out.1 rfl).1 hl
    go_enter Tryz.func20, Tryz.ntmps20
    go_wp2
    go_ret
    exact ⟨rfl, hbA⟩
end Go.Proofs.Tg
end
section
/- The reference's order of monomials. -/
namespace Go.Proofs.Tg
open Go.RowKit Go.Gr Go.Mo
set_option maxHeartbeats 2000000
set_option maxRecDepth 100000
theorem rord_any (A B : Option Addr) (c d : Nat) (a b : List Int) (w : World) (hA : Ints w A a) (hB : Ints w B b) (hl : a.length = b.length) (hn : a.length ≤ 64) (ha : low20 a = true) (hb : low20 b = true) :
    Calls Tryz.prog 67 #[.slice A a.length c, .slice B b.length d] w fun e w' => e = .returned (.int .i64 (ord a b)) ∧ Dr w w' := by
  have HL := Lib.hid hl
  have HA := Lib.hid (low20_iff.1 ha)
  have HB := Lib.hid (low20_iff.1 hb)
  have hn2 : b.length ≤ 64 := by omega
  clear hl ha hb
  go_enter Tryz.func67, Tryz.ntmps67
  go_wp2
  go_loopw [5, 6, 7] (fun s t i wr => ∃ k : Nat, k ≤ a.length ∧ i = .int .i64 k ∧ ∃ y z : Int, s = .int .i64 y ∧ t = .int .i64 z ∧ 0 ≤ y ∧ y ≤ 1048576 * 64 ∧ 0 ≤ z ∧ z ≤ 1048576 * 64 ∧ Hid (y = (a.take k).sum ∧ z = (b.take k).sum) ∧ Dr w wr) (fun _ _ i _ => a.length - (intOf i).toNat)
  case atStart => exact ⟨0, Nat.zero_le _, rfl, 0, 0, rfl, rfl, by omega, by omega, by omega, by omega, Lib.hid ⟨rfl, rfl⟩, Dr.refl _⟩
  case round =>
    obtain ⟨k, hk, rfl, y, z, rfl, rfl, hy0, hy1, hz0, hz1, HZ, hdr⟩ := hrel
    by_cases hlt : k < a.length
    · have hlt2 : k < b.length := by have := HL.out; omega
      obtain ⟨ad, rfl, hc1⟩ := Ints.at (hA.keep hdr.below) hlt
      obtain ⟨bd, rfl, hc2⟩ := Ints.at (hB.keep hdr.below) hlt2
      have HS1 : Hid ((a.take (k + 1)).sum = y + a[k]) := Lib.hid (by rw [sum_take_succ a k hlt, ← HZ.out.1])
      have HS2 : Hid ((b.take (k + 1)).sum = z + b[k]) := Lib.hid (by rw [sum_take_succ b k hlt2, ← HZ.out.2])
      have hb1 := HA.out a[k] (List.getElem_mem _)
      have hb2 := HB.out b[k] (List.getElem_mem _)
      have hs1 := sum_bound a (k + 1) HA.out
      have hs2 := sum_bound b (k + 1) HB.out
      rw [HS1.out] at hs1
      rw [HS2.out] at hs2
      have hl1 : (a.take (k + 1)).length ≤ 64 := Nat.le_trans (List.length_take_le' _ _) hn
      have hl2 : (b.take (k + 1)).length ≤ 64 := Nat.le_trans (List.length_take_le' _ _) hn2
      obtain ⟨p1, p2⟩ := hb1
      obtain ⟨p3, p4⟩ := hb2
      have r1 : y + a[k] ≤ 1048576 * 64 := by omega
      have r2 : z + b[k] ≤ 1048576 * 64 := by omega
      clear hs1 hs2 hl1 hl2
      generalize a[k] = p at *
      generalize b[k] = q at *
      have q0 : (0 : Int) ≤ (k : Int) := by omega
      have q1 : (k : Int) < (a.length : Int) := by omega
      have q2 : (k : Int) < (b.length : Int) := by omega
      have q3 : ((k : Int)).toNat = k := by omega
      have q4 : IntKind.i64.wrap (y + p) = y + p := IntWalk.i64_in _ (by omega)
      have q5 : IntKind.i64.wrap (z + q) = z + q := IntWalk.i64_in _ (by omega)
      clear hA hB
      go_wp2
      go_quiet (fail)
      go_wp2
      go_roundw
      case rel => exact ⟨k + 1, by omega, by go_num, y + p, z + q, rfl, rfl, by omega, by omega, by omega, by omega, Lib.hid ⟨HS1.out.symm, HS2.out.symm⟩, hdr.drewN _⟩
      case measure => simp [intOf]; omega
    · obtain rfl : k = a.length := by omega
      have h1 : y = a.sum := by rw [HZ.out.1, List.take_length]
      have h2 : z = b.sum := by rw [HZ.out.2, HL.out, List.take_length]
      by_cases hyz : y = z
      · have hbb : (y != z) = false := by simp [hyz]
        have HO : Hid (ord a b = ordT a b a.length) := Lib.hid (by unfold ord; rw [if_pos (by rw [← h1, ← h2]; exact hyz)])
        clear h1 h2 hyz
        obtain ⟨wo, rfl⟩ : ∃ wo : World, wo = wr := ⟨_, rfl⟩
        go_wp2
        go_loopw [8] (fun i wr => ∃ z : Int, i = .int .i64 z ∧ -1 ≤ z ∧ z < a.length ∧ Hid (ord a b = ordT a b (z + 1).toNat) ∧ Dr w wr) (fun i _ => (intOf i + 1).toNat)
        case atStart => exact ⟨(a.length : Int) - 1, rfl, by omega, by omega, Lib.hid (by rw [HO.out]; congr 1; omega), hdr⟩
        case round =>
          clear hdr
          obtain ⟨z', rfl, hz2, hz3, HZ', hdr⟩ := hrel
          by_cases hneg : z' = -1
          · subst hneg
            have HF : Hid (ord a b = 0) := Lib.hid (by rw [HZ'.out]; rfl)
            go_wp2
            go_ret
            exact ⟨by rw [HF.out]; rfl, hdr⟩
          · obtain ⟨j, rfl⟩ : ∃ j : Nat, z' = j := ⟨z'.toNat, by omega⟩
            have hlt1 : j < a.length := by omega
            have hlt2 : j < b.length := by have := HL.out; omega
            obtain ⟨ad, rfl, hc1⟩ := Ints.at (hA.keep hdr.below) hlt1
            obtain ⟨bd, rfl, hc2⟩ := Ints.at (hB.keep hdr.below) hlt2
            have HX : Hid (ord a b = if a[j] = b[j] then ordT a b j else if b[j] < a[j] then -1 else 1) := Lib.hid (by
              rw [HZ'.out, show ((j : Int) + 1).toNat = j + 1 by omega, ordT]
              simp [hlt1, hlt2])
            have q0 : (0 : Int) ≤ (j : Int) := by omega
            have q1 : (j : Int) < (a.length : Int) := by omega
            have q2 : (j : Int) < (b.length : Int) := by omega
            have q3 : ((j : Int)).toNat = j := by omega
            clear hneg hA hB
            generalize a[j] = p at *
            generalize b[j] = q at *
            by_cases hpq : p = q
            · have hb2 : (p != q) = false := by simp [hpq]
              have HX2 : Hid (ord a b = ordT a b j) := Lib.hid (by rw [HX.out, if_pos hpq])
              clear hpq HX
              go_wp2
              go_quiet (fail)
              go_wp2
              go_roundw
              case rel => exact ⟨(j : Int) - 1, rfl, by omega, by omega, Lib.hid (by rw [HX2.out]; congr 1; omega), hdr.drewN _⟩
              case measure => simp [intOf]
            · have hb2 : (p != q) = true := by simp [hpq]
              have HX2 : Hid (ord a b = if q < p then -1 else 1) := Lib.hid (by rw [HX.out, if_neg hpq])
              clear hpq HX
              go_wp2
              go_quiet (fail)
              have k1 : (wr.drewN nq).cell? (ad.add j) = some (.int .i64 p) := hc1
              have k2 : (wr.drewN nq).cell? (bd.add j) = some (.int .i64 q) := hc2
              have hdr2 := hdr.drewN nq
              generalize wr.drewN nq = W at *
              by_cases hqp : q < p
              · have hb3 : decide (q < p) = true := by simpa using hqp
                have HX3 : Hid (ord a b = -1) := Lib.hid (by rw [HX2.out, if_pos hqp])
                go_wp2
                go_quiet (fail)
                go_wp2
                go_ret
                exact ⟨by rw [HX3.out]; rfl, hdr2.drewN _⟩
              · have hb3 : decide (q < p) = false := by simpa using hqp
                have HX3 : Hid (ord a b = 1) := Lib.hid (by rw [HX2.out, if_neg hqp])
                go_wp2
                go_quiet (fail)
                go_wp2
                go_ret
                exact ⟨by rw [HX3.out]; rfl, hdr2.drewN _⟩
      · have hbb : (y != z) = true := by simp [hyz]
        by_cases hlt3 : y < z
        · have hb3 : decide (y < z) = true := by simpa using hlt3
          have HO : Hid (ord a b = -1) := Lib.hid (by unfold ord; rw [if_neg (by rw [← h1, ← h2]; exact hyz), if_pos (by rw [← h1, ← h2]; exact hlt3)])
          clear h1 h2 hyz
          go_wp2
          go_ret
          exact ⟨by rw [HO.out]; rfl, hdr⟩
        · have hb3 : decide (y < z) = false := by simpa using hlt3
          have HO : Hid (ord a b = 1) := Lib.hid (by unfold ord; rw [if_neg (by rw [← h1, ← h2]; exact hyz), if_neg (by rw [← h1, ← h2]; exact hlt3)])
          clear h1 h2 hyz
          go_wp2
          go_ret
          exact ⟨by rw [HO.out]; rfl, hdr⟩
end Go.Proofs.Tg
end
section
/- Walks: the echelon form. -/
namespace Go.Proofs.Tg
open Go.RowKit Go.Gr Go.Ev
set_option maxHeartbeats 2000000
set_option maxRecDepth 100000
/-- The vectors lie in block g; nothing below B has turned. -/
structure VecAt (W0 : World) (base g cap : Nat) (us : List Nat) (w : World) : Prop where
  own : w.ownsRow base 3 1 (.slice (some ⟨g, 0, none⟩) us.length cap) us.length (us.map vn)
  below : Below W0.heap.size W0 w
theorem VecAt.base_le {W0 w : World} {base g cap : Nat} {us : List Nat} (h : VecAt W0 base g cap us w) : base ≤ g := (h.own.lt g rfl).1
theorem VecAt.cell {W0 w : World} {base g cap : Nat} {us : List Nat} (h : VecAt W0 base g cap us w) {j : Nat} (hj : j < us.length) : w.cell? ⟨g, j, none⟩ = some (.int .i64 (us.getD j 0 : Nat)) := by
  rw [h.own.cellAt j (by omega)]
  simp [hj, vn]
theorem VecAt.drewN {W0 w : World} {base g cap : Nat} {us : List Nat} (h : VecAt W0 base g cap us w) (n : Nat) : VecAt W0 base g cap us (w.drewN n) := ⟨h.own, below_drewN h.below n⟩
theorem VecAt.drew {W0 w : World} {base g cap : Nat} {us : List Nat} (h : VecAt W0 base g cap us w) : VecAt W0 base g cap us w.drew := ⟨h.own, h.below.drew⟩
theorem VecAt.put {W0 w : World} {base g cap : Nat} {us : List Nat} (h : VecAt W0 base g cap us w) (hB : W0.heap.size ≤ base) (j x : Nat) : VecAt W0 base g cap (us.set j x) (w.setCell ⟨g, j, none⟩ (.int .i64 (x : Nat))) := by
  have h1 := (h.own.stored j (.int .i64 (x : Nat))).1
  have e : (us.map vn).set j (.int .i64 (x : Nat)) = (us.set j x).map vn := by rw [List.map_set]; rfl
  rw [e] at h1
  refine ⟨by rw [List.length_set]; exact h1, h.below.setCell (Nat.le_trans hB h.base_le) _⟩
theorem pow_small {i : Nat} (hi : i < 6) : 2 ^ i ≤ 32 := by
  have : 2 ^ i ≤ 2 ^ 5 := Nat.pow_le_pow_right (by omega) (by omega)
  omega
theorem and_pow_zero (x i : Nat) : (x &&& 2 ^ i = 0) ↔ x.testBit i = false := by
  constructor
  · intro h
    have := congrArg (fun z => Nat.testBit z i) h
    simp only [Nat.testBit_and, Nat.testBit_two_pow_self, Bool.and_true, Nat.zero_testBit] at this
    exact this
  · intro h
    refine Nat.eq_of_testBit_eq fun b => ?_
    rw [Nat.testBit_and, Nat.testBit_two_pow, Nat.zero_testBit]
    by_cases e : i = b
    · subst e; rw [h]; rfl
    · simp [e]
theorem wrap_two (i : Nat) (hi : i < 6) : wrap64 ((2 : Int) ^ i) = ((2 ^ i : Nat) : Int) := by
  have e : (2 : Int) ^ i = ((2 ^ i : Nat) : Int) := by simp
  rw [e, wrap64_nat _ (by have := pow_small hi; omega)]
theorem bit_eq (x i : Nat) (hx : x < 64) (hi : i < 6) : (bits BinOp.and IntKind.i64 (x : Int) (wrap64 (2 ^ i)) == 0) = !x.testBit i := by
  rw [wrap_two i hi, i64_and_n _ _ (by omega) (by have := pow_small hi; omega)]
  have := and_pow_zero x i
  cases h : x.testBit i with
  | true =>
    have : x &&& 2 ^ i ≠ 0 := fun e => by rw [this.1 e] at h; cases h
    simp; omega
  | false => rw [this.2 h]; rfl
theorem bit_ne (x i : Nat) (hx : x < 64) (hi : i < 6) : (bits BinOp.and IntKind.i64 (x : Int) (wrap64 (2 ^ i)) != 0) = x.testBit i := by
  rw [bne, bit_eq x i hx hi, Bool.not_not]
theorem ech_pos (V : Nat → Prop) (nv : Nat) (hS : Space V nv) (hnv : nv ≤ 6) (vs : List Nat) (hV : ∀ v ∈ vs, V v) (hsp : ∀ x, V x → Span vs x) (hl : vs.length ≤ 64) (W0 : World) (base g cap : Nat) (w : World) (hB : W0.heap.size ≤ base) (hA : VecAt W0 base g cap vs w) :
    Calls Tryz.prog 28 #[.slice (some ⟨g, 0, none⟩) vs.length cap, .int .i64 nv] w fun e w' => ∃ us r p, e = .returned (.slice (some ⟨g, 0, none⟩) r cap) ∧ EInv V nv us r p ∧ us.length = vs.length ∧ VecAt W0 base g cap us w' := by
  have hcap : vs.length ≤ cap := by
    rcases hA.own.2 with ⟨h, _⟩ | ⟨g', c', cur, h, _, _, hc, _⟩
    · cases h
    · injection h with h1 h2 h3; omega
  go_enter Tryz.func28, Tryz.ntmps28
  go_wp2
  go_loopw [5, 10] (fun s5 s10 wr => ∃ (i r : Nat) (us : List Nat) (p : Nat → Nat), s5 = .int .i64 r ∧ s10 = .int .i64 i ∧ i ≤ nv ∧ Hid (EInv V i us r p) ∧ us.length = vs.length ∧ r ≤ vs.length ∧ VecAt W0 base g cap us wr) (fun _ s10 _ => nv - (intOf s10).toNat)
  case atStart => exact ⟨0, 0, vs, fun _ => 0, rfl, rfl, Nat.zero_le _, Lib.hid (EInv.start hV hsp), rfl, Nat.zero_le _, hA⟩
  case round =>
    obtain ⟨wo, rfl⟩ : ∃ wo : World, wo = wr := ⟨_, rfl⟩
    obtain ⟨i, r, us, p, rfl, rfl, hi, HE, hul, hr, hv⟩ := hrel
    have hb64 : ∀ j, us.getD j 0 < 64 := by
      intro j
      rcases Nat.lt_or_ge j us.length with h | h
      · have := hS.lt _ (HE.out.hV _ (mem_getD.2 ⟨j, h, rfl⟩))
        have h6 : 2 ^ nv ≤ 2 ^ 6 := Nat.pow_le_pow_right (by omega) hnv
        omega
      · rw [List.getD_eq_getElem?_getD, List.getElem?_eq_none h]; decide
    have HB := Lib.hid hb64
    clear hb64 hA
    by_cases hlt : i < nv
    · go_wp2
      go_loopw [7] (fun s7 wr => ∃ q : Nat, s7 = .int .i64 q ∧ r ≤ q ∧ q ≤ vs.length ∧ Hid (∀ k, r ≤ k → k < q → (us.getD k 0).testBit i = false) ∧ VecAt W0 base g cap us wr) (fun s7 _ => vs.length - (intOf s7).toNat)
      case atStart => exact ⟨r, rfl, Nat.le_refl _, hr, Lib.hid (fun k h1 h2 => absurd h1 (by omega)), hv⟩
      case round =>
        clear hv
        obtain ⟨q, rfl, hq1, hq2, HQ, hv⟩ := hrel
        have p1 : 2 ^ i ≤ 32 := pow_small (by omega)
        by_cases hqn : q < vs.length
        · have c0 := hv.cell (j := q) (by omega)
          have hx := HB.out q
          have d1 : decide (q < vs.length) = true := by simp; omega
          have d2 : (q : Int) < (vs.length : Int) := by omega
          have d3 : (0 : Int) ≤ (q : Int) := by omega
          have d4 : ((q : Int)).toNat = q := by omega
          have hbt := bit_eq (us.getD q 0) i hx (by omega)
          by_cases hbit : (us.getD q 0).testBit i = true
          · rw [hbit] at hbt
            have HBIT := Lib.hid hbit
            have e5 : ((q : Int) == (vs.length : Int)) = false := by simp; omega
            have HXX : Hid (us.getD q 0 = us.getD q 0) := Lib.hid rfl
            clear hbit
            generalize hxx : us.getD q 0 = x at c0 hx hbt
            have HXQ := Lib.hid hxx
            clear hxx HXX
            go_wp2
            go_quiet (fail)
            go_wp2
            have hv2 := hv.drewN nq
            clear hv c0
            generalize wr.drewN nq = W at *
            have HE2 := Lib.hid (HE.out.swap hq1 (by omega))
            have hrn : r < vs.length := by omega
            go_cut [5] (fun s5 wx => s5 = .int .i64 r ∧ VecAt W0 base g cap (swp us r q) wx)
            case first =>
              have c1 := hv2.cell (j := r) (by omega)
              have c2 := hv2.cell (j := q) (by omega)
              have f1 := hv2.own.frozenAt r
              have f2 := hv2.own.frozenAt q
              have r2 : (r : Int) < (vs.length : Int) := by omega
              have r3 : (0 : Int) ≤ (r : Int) := by omega
              have r4 : ((r : Int)).toNat = r := by omega
              have hxr := HB.out r
              have HSW : Hid (swp us r q = (us.set r (us.getD q 0)).set q (us.getD r 0)) := Lib.hid rfl
              have hv3 := ((hv2.put hB r (us.getD q 0)).put hB q (us.getD r 0)).drew
              have HV3 := Lib.hid hv3
              clear hv3 hv2
              generalize us.getD r 0 = y at *
              rw [HXQ.out] at c2 HSW HV3
              by_cases hne : r = q
              · subst hne
                obtain rfl : x = y := by
                  rw [c1] at c2
                  have : (x : Int) = (y : Int) := by simpa using c2.symm
                  omega
                go_region
                all_goals
                  go_wp2_with fail
                  go_meet
                  exact ⟨rfl, by rw [HSW.out]; exact HV3.out⟩
              · have hne' : ¬ q = r := fun e => hne e.symm
                go_region
                all_goals
                  go_wp2_with fail
                  go_meet
                  exact ⟨rfl, by rw [HSW.out]; exact HV3.out⟩
            case rest =>
              obtain ⟨rfl, hv3⟩ := hcut
              have hzl : (swp us r q).length = vs.length := by rw [swp_len]; exact hul
              have hzb : ((swp us r q).getD r 0).testBit i = true := by
                have := swp_get us (r := r) (q := q) (by omega) (by omega) r
                rw [this]
                by_cases e : r = q
                · rw [if_pos e, e]; exact HBIT.out
                · rw [if_neg e, if_pos rfl]; exact HBIT.out
              have hz64 : ∀ j, (swp us r q).getD j 0 < 64 := by
                intro j
                rw [swp_get us (by omega) (by omega)]
                exact HB.out _
              have HZB := Lib.hid hzb
              have HZ64 := Lib.hid hz64
              clear hv2 hzb hz64 HBIT HXQ hbt e5 hx d1 d2 d3 d4 HQ HB HE
              generalize swp us r q = zs at *
              go_wp2
              go_loopw [50] (fun s50 wr => ∃ k : Nat, s50 = .int .i64 k ∧ k ≤ vs.length ∧ VecAt W0 base g cap (elim zs i r k) wr) (fun s50 _ => vs.length - (intOf s50).toNat)
              case atStart => exact ⟨0, rfl, Nat.zero_le _, by rw [elim_zero]; exact hv3⟩
              case round =>
                clear hv3
                obtain ⟨k, rfl, hk, hv4⟩ := hrel
                by_cases hkn : k < vs.length
                · have ck := hv4.cell (j := k) (by rw [elim_len]; omega)
                  have cr := hv4.cell (j := r) (by rw [elim_len]; omega)
                  rw [elim_get _ _ _ _ _ (by omega), if_neg (by omega)] at ck
                  rw [elim_self _ _ _ _ (by omega)] at cr
                  have k2 : (k : Int) < (vs.length : Int) := by omega
                  have k3 : (0 : Int) ≤ (k : Int) := by omega
                  have k4 : ((k : Int)).toNat = k := by omega
                  by_cases hkr : k = r
                  · have b1 : ((k : Int) != (r : Int)) = false := by simp [hkr]
                    have HV5 : Hid (elim zs i r (k + 1) = elim zs i r k) := Lib.hid (elim_skip zs i r k (fun h => h.1 hkr))
                    clear ck cr hkr
                    go_wp2
                    go_quiet (fail)
                    go_wp2
                    go_roundw
                    case rel => exact ⟨k + 1, by go_num, by omega, by rw [HV5.out]; exact hv4.drewN _⟩
                    case measure => simp [intOf]; omega
                  · have b1 : ((k : Int) != (r : Int)) = true := by simp; omega
                    have hx1 := HZ64.out k
                    have hx2 := HZ64.out r
                    have hbn := bit_ne (zs.getD k 0) i hx1 (by omega)
                    by_cases hbit : (zs.getD k 0).testBit i = true
                    · rw [hbit] at hbn
                      have hxo := i64_xor_n (zs.getD k 0) (zs.getD r 0) (by omega) (by omega)
                      have HV5 : Hid (elim zs i r (k + 1) = (elim zs i r k).set k (zs.getD k 0 ^^^ zs.getD r 0)) := Lib.hid (elim_put zs i r k (by omega) ⟨hkr, hbit⟩)
                      have HP := Lib.hid (fun W (h : VecAt W0 base g cap (elim zs i r k) W) => h.put hB k (zs.getD k 0 ^^^ zs.getD r 0))
                      have HXO := Lib.hid hxo
                      clear hbit hxo
                      generalize zs.getD k 0 = x at *
                      generalize zs.getD r 0 = y at *
                      go_wp2
                      go_quiet (fail)
                      go_wp2
                      have hv5 := hv4.drewN nq
                      have ck5 : (wr.drewN nq).cell? ⟨g, k, none⟩ = some (.int .i64 (x : Nat)) := ck
                      have cr5 : (wr.drewN nq).cell? ⟨g, r, none⟩ = some (.int .i64 (y : Nat)) := cr
                      clear hv4 ck cr
                      generalize wr.drewN nq = W5 at *
                      have fk := hv5.own.frozenAt k
                      have r2 : (r : Int) < (vs.length : Int) := by omega
                      have r3 : (0 : Int) ≤ (r : Int) := by omega
                      have r4 : ((r : Int)).toNat = r := by omega
                      go_region
                      all_goals
                        go_wp2
                        go_roundw
                        case rel => exact ⟨k + 1, by go_num, by omega, by rw [HV5.out, HXO.out]; exact (HP.out _ hv5).drew⟩
                        case measure => simp [intOf]; omega
                    · have hbit : (zs.getD k 0).testBit i = false := eq_false_of_ne_true hbit
                      rw [hbit] at hbn
                      have HV5 : Hid (elim zs i r (k + 1) = elim zs i r k) := Lib.hid (elim_skip zs i r k (fun h => by rw [hbit] at h; cases h.2))
                      clear hbit cr
                      generalize zs.getD k 0 = x at *
                      go_wp2
                      go_quiet (fail)
                      go_wp2
                      go_roundw
                      case rel => exact ⟨k + 1, by go_num, by omega, by rw [HV5.out]; exact hv4.drewN _⟩
                      case measure => simp [intOf]; omega
                · obtain rfl : k = vs.length := by omega
                  have HE3 := Lib.hid (EInv.elim hS HE2.out (by omega) HZB.out)
                  rw [hzl] at HE3
                  go_wp2
                  go_roundw
                  case rel => exact ⟨i + 1, r + 1, _, _, by go_num, by go_num, by omega, HE3, by rw [elim_len]; exact hzl, by omega, hv4⟩
                  case measure => simp [intOf]; omega
          · have hbit : (us.getD q 0).testBit i = false := eq_false_of_ne_true hbit
            rw [hbit] at hbt
            have HQ2 : Hid (∀ k, r ≤ k → k < q + 1 → (us.getD k 0).testBit i = false) := Lib.hid (fun k h1 h2 => by
              by_cases e : k = q
              · subst e; exact hbit
              · exact HQ.out k h1 (by omega))
            clear hbit
            generalize us.getD q 0 = x at c0 hx hbt
            go_wp2
            go_quiet (fail)
            go_wp2
            go_roundw
            case rel => exact ⟨q + 1, by go_num, by omega, by omega, HQ2, hv.drewN _⟩
            case measure => simp [intOf]; omega
        · obtain rfl : q = vs.length := by omega
          have d1 : decide (vs.length < vs.length) = false := by simp
          have HE2 : Hid (EInv V (i + 1) us r p) := Lib.hid (HE.out.skip (fun k h1 h2 => HQ.out k h1 (by omega)))
          have e5 : ((vs.length : Int) == (vs.length : Int)) = true := by simp
          go_wp2
          go_quiet (fail)
          go_wp2
          go_roundw
          case rel => exact ⟨i + 1, r, us, p, rfl, by go_num, by omega, HE2, hul, hr, hv.drewN _⟩
          case measure => simp [intOf]; omega
    · obtain rfl : i = nv := by omega
      have d4 : (r : Int) ≤ (cap : Int) := by omega
      go_wp2
      go_ret
      exact ⟨us, r, p, rfl, HE.out, hul, hv⟩
theorem ech_nil (V : Nat → Prop) (nv : Nat) (hnv : nv ≤ 6) (w : World) (hV : ∀ x, V x → Span [] x) :
    Calls Tryz.prog 28 #[.slice none 0 0, .int .i64 nv] w fun e w' => e = .returned (.slice none 0 0) ∧ (∃ p, EInv V nv [] 0 p) ∧ Below w.heap.size w w' := by
  go_enter Tryz.func28, Tryz.ntmps28
  go_wp2
  go_loopw [5, 10] (fun s5 s10 wr => ∃ i : Nat, s5 = .int .i64 0 ∧ s10 = .int .i64 i ∧ i ≤ nv ∧ Below w.heap.size w wr) (fun _ s10 _ => nv - (intOf s10).toNat)
  case atStart => exact ⟨0, rfl, rfl, Nat.zero_le _, Below.refl _ _⟩
  case round =>
    obtain ⟨wo, rfl⟩ : ∃ wo : World, wo = wr := ⟨_, rfl⟩
    obtain ⟨i, rfl, rfl, hi, hb⟩ := hrel
    by_cases hlt : i < nv
    · go_wp2
      refine wp_loop_rounds 1 ?_
      rw [rounds_succ]
      go_wp2
      go_quiet (fail)
      go_wp2
      go_roundw
      case rel => exact ⟨i + 1, rfl, by go_num, by omega, below_drewN hb _⟩
      case measure => simp [intOf]; omega
    · go_wp2
      go_ret
      have hinv : ∀ i, EInv V i [] 0 (fun _ => 0) := by
        intro i
        induction i with
        | zero => exact EInv.start (fun v h => by cases h) hV
        | succ i ih => exact ih.skip (fun k h1 h2 => by simp at h2)
      exact ⟨rfl, ⟨_, hinv nv⟩, hb⟩
end Go.Proofs.Tg
end
