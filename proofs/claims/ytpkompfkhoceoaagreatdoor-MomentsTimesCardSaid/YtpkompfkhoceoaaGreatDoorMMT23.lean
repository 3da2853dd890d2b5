/- Parts of the proof: MO5, MO8, SC4, FI2. -/
import Derived.Maps.AppendAt
import Derived.Deep.AppendSrc
import Derived.Lib.ItoaWalk
import Derived.CellFam
import Derived.Lib.ItoaLen
import Derived.Test.YtpkompfkhoceoaaGreatDoorMMT4
import Derived.Test.YtpkompfkhoceoaaGreatDoorMMT13
import Derived.Test.YtpkompfkhoceoaaGreatDoorMMT14
import Derived.Test.YtpkompfkhoceoaaGreatDoorMMT19
import Derived.Test.YtpkompfkhoceoaaGreatDoorMMT22
section
/- The program's number of monomials, and their list. -/
namespace Go.Proofs.Tg
open Go.RowKit Go.Mm
set_option maxHeartbeats 8000000
set_option maxRecDepth 100000
theorem cnt_fit {n d : Nat} (hn : n ≤ 6) (hd : d ≤ 24) : cnt n d ≤ 244140625 := by
  refine Nat.le_trans (cnt_bound n d) ?_
  refine Nat.le_trans (Nat.pow_le_pow_left (show d + 1 ≤ 25 by omega) n) ?_
  exact Nat.le_trans (Nat.pow_le_pow_right (by omega) hn) (by decide)
theorem choose_any (n d : Nat) (hn : n ≤ 6) (hd : d ≤ 24) (w : World) :
    Calls Tryz.prog 64 #[.int .i64 ((n + d : Nat) : Int), .int .i64 (n : Nat)] w fun e w' => e = .returned (.int .i64 (cnt n d : Nat)) ∧ Below w.heap.size w w' := by
  have hlt : decide (((n + d : Nat) : Int) < (n : Int)) = false := decide_eq_false (by omega)
  obtain ⟨s, hs⟩ : ∃ s, n + d = s := ⟨_, rfl⟩
  rw [hs] at hlt ⊢
  have hsI : (s : Int) - (n : Int) = (d : Int) := by omega
  have hs30 : s ≤ 30 := by omega
  have w1 : IntKind.i64.wrap ((s : Int) - (n : Int)) = (d : Int) := by rw [hsI]; exact IntWalk.i64_in _ (by omega)
  have HC := Lib.hid (fun k (h : k ≤ 6) => cnt_fit (n := k) h hd)
  have H0 : Hid ((1 : Nat) = cnt 0 d) := Lib.hid (cnt_zero d).symm
  clear hs
  go_enter Tryz.func64, Tryz.ntmps64
  go_wp2
  go_loopw [5, 6] (fun s5 s6 wr => ∃ (k r : Nat), s6 = .int .i64 ((k : Int) + 1) ∧ s5 = .int .i64 (r : Nat) ∧ k ≤ n ∧ r ≤ 244140625 ∧ Hid (r = cnt k d) ∧ Below w.heap.size w wr) (fun _ s6 _ => n + 1 - (intOf s6).toNat)
  case atStart => exact ⟨0, 1, by go_num, rfl, Nat.zero_le _, by omega, H0, Below.refl _ _⟩
  case round =>
    obtain ⟨wo, rfl⟩ : ∃ wo : World, wo = wr := ⟨_, rfl⟩
    obtain ⟨k, r, rfl, rfl, hk, hr, HR, hbw⟩ := hrel
    by_cases hkn : k = n
    · have hd1 : decide ((k : Int) + 1 ≤ (n : Int)) = false := decide_eq_false (by omega)
      have HK := Lib.hid hkn
      clear hkn
      go_wp2
      go_ret
      exact ⟨by rw [← HK.out, ← HR.out]; rfl, hbw⟩
    · have hkn2 : k < n := by omega
      have hd1 : decide ((k : Int) + 1 ≤ (n : Int)) = true := decide_eq_true (by omega)
      obtain ⟨q, hq⟩ : ∃ q, r * (d + (k + 1)) / (k + 1) = q := ⟨_, rfl⟩
      have HQ : Hid (q = cnt (k + 1) d) := Lib.hid (by rw [← hq, HR.out, cnt_step])
      have hql : q ≤ 244140625 := by rw [HQ.out]; exact HC.out _ (by omega)
      have hpr : r * (d + (k + 1)) ≤ 244140625 * 30 := Nat.mul_le_mul hr (by omega)
      obtain ⟨pr, hpe⟩ : ∃ pr, r * (d + (k + 1)) = pr := ⟨_, rfl⟩
      rw [hpe] at hq hpr
      have e1 : (r : Int) * ((d : Int) + ((k : Int) + 1)) = (pr : Int) := by
        rw [← hpe]; simp
      have w2 : IntKind.i64.wrap (pr : Int) = (pr : Int) := IntWalk.i64_in _ (by omega)
      have w4 : IntKind.i64.wrap ((d : Int) + ((k : Int) + 1)) = (d : Int) + ((k : Int) + 1) := IntWalk.i64_in _ (by omega)
      have e2 : Int.tdiv (pr : Int) ((k : Int) + 1) = (q : Int) := by
        rw [show (k : Int) + 1 = ((k + 1 : Nat) : Int) by omega, ← Int.ofNat_tdiv, hq]
      have w3 : IntKind.i64.wrap (q : Int) = (q : Int) := IntWalk.i64_in _ (by omega)
      have nz : (((k : Int) + 1) == 0) = false := beq_eq_false_iff_ne.2 (by omega)
      clear hpe hq hkn
      go_wp2
      go_roundw
      case rel => exact ⟨k + 1, q, by go_num, rfl, by omega, hql, HQ, hbw⟩
      case measure => simp [intOf]; omega
theorem count_any (n d : Nat) (hn : n ≤ 6) (hd : d ≤ 24) (w : World) :
    Calls Tryz.prog 36 #[.int .i64 (n : Nat), .int .i64 (d : Nat)] w fun e w' => e = .returned (.tuple #[.int .i64 (cnt n d : Nat), .bool true]) ∧ Below w.heap.size w w' := by
  have H := Lib.hid (choose_any n d hn hd w)
  have d1 : decide ((n : Int) < 0) = false := decide_eq_false (by omega)
  have d2 : decide ((6 : Int) < (n : Int)) = false := decide_eq_false (by omega)
  have d3 : decide ((d : Int) < 0) = false := decide_eq_false (by omega)
  have d4 : decide ((24 : Int) < (d : Int)) = false := decide_eq_false (by omega)
  obtain ⟨s, hs⟩ : ∃ s, n + d = s := ⟨_, rfl⟩
  rw [hs] at H
  have hsI : (n : Int) + (d : Int) = (s : Int) := by omega
  clear hs
  go_enter Tryz.func36, Tryz.ntmps36
  go_wp2_with (fail)
  refine H.out.mono ?_
  rintro e w2 ⟨rfl, hb⟩
  go_wp2
  go_ret2
  exact ⟨rfl, hb⟩
/-- A list of monomials of the call's own. -/
def RetMons (n d : Nat) (w : World) (e : Ending) (w' : World) : Prop :=
  ∃ A c rs, e = .returned (.tuple #[.slice A (List.length rs) c, .int .i64 0]) ∧ OwnI w.heap.size w' A c rs ∧ rs.map IRow.l = mons n d ∧ Below w.heap.size w w'
end Go.Proofs.Tg
end
section
/- The reference's list of all monomials. -/
namespace Go.Proofs.Tg
open Go.RowKit Go.Mm
set_option maxHeartbeats 8000000
set_option maxRecDepth 100000
def RetList (n d : Nat) (w : World) (e : Ending) (w' : World) : Prop :=
  ∃ A c rs, e = .returned (.slice A (List.length rs) c) ∧ OwnI w.heap.size w' A c rs ∧ rs.map IRow.l = mons n d ∧ Below w.heap.size w w'
theorem list_ref (n d : Nat) (hn : n ≤ 5) (hd : d ≤ 24) (hc : cnt (n + 1) d ≤ 4096) (w : World) :
    Calls Tryz.prog 50 #[.int .i64 ((n + 1 : Nat) : Int), .int .i64 (d : Nat)] w (RetList (n + 1) d w) := by
  have HML := Lib.hid (fun k (h : k ≤ d + 1) => monTo_le (n + 1) d k h)
  have HEX := Lib.hid (exact_ref n)
  obtain ⟨N, hN⟩ : ∃ N, n + 1 = N := ⟨_, rfl⟩
  rw [hN] at HML HEX hc
  rw [hN]
  have HST : Hid (OwnI w.heap.size w none 0 [] ∧ Below w.heap.size w w) := Lib.hid ⟨OwnI.nil _ _, Below.refl _ _⟩
  clear hN
  go_enter Tryz.func50, Tryz.ntmps50
  go_wp2
  go_loopw [5, 6] (fun s5 s6 wr => ∃ (k : Nat) (A : Option Addr) (c : Nat) (rs : List IRow), s5 = .slice A rs.length c ∧ s6 = .int .i64 (k : Nat) ∧ k ≤ d + 1 ∧ Hid (rs.map IRow.l = monTo N k) ∧ Hid (OwnI w.heap.size wr A c rs ∧ Below w.heap.size w wr)) (fun _ s6 _ => d + 1 - (intOf s6).toNat)
  case atStart => exact ⟨0, none, 0, [], rfl, rfl, Nat.zero_le _, Lib.hid rfl, HST⟩
  case round =>
    clear HST
    obtain ⟨wo, rfl⟩ : ∃ wo : World, wo = wr := ⟨_, rfl⟩
    obtain ⟨k, A, c, rs, rfl, rfl, hk, HEQ, HST⟩ := hrel
    by_cases hkd : k = d + 1
    · have e1 : decide ((k : Int) ≤ (d : Int)) = false := decide_eq_false (by omega)
      have e1' : decide (k ≤ d) = false := decide_eq_false (by omega)
      have HK := Lib.hid hkd
      clear hkd
      go_wp2
      go_ret
      exact ⟨A, c, rs, rfl, HST.out.1, by rw [HEQ.out, HK.out, monTo_all], HST.out.2⟩
    · have hk2 : k ≤ d := by omega
      have e1 : decide ((k : Int) ≤ (d : Int)) = true := decide_eq_true (by omega)
      have e1' : decide (k ≤ d) = true := decide_eq_true hk2
      have hrl : rs.length + (exactL N k).length ≤ 4096 := by
        have h1 := congrArg List.length HEQ.out
        rw [List.length_map] at h1
        have h2 := HML.out (k + 1) (by omega)
        rw [monTo_len] at h2
        omega
      have HC := HEX.out k w.heap.size wo A c rs HST.out.1 HST.out.2.size (by omega) (by omega) (by omega)
      unfold RetApp at HC
      obtain ⟨nr, hnr⟩ : ∃ x, rs.length = x := ⟨_, rfl⟩
      rw [hnr] at HC ⊢
      have HNR := Lib.hid hnr
      have HC := Lib.hid HC
      clear hnr hrl hkd
      go_wp2_with (fail)
      refine HC.out.mono ?_
      rintro e w5 ⟨A5, c5, rs5, rfl, hO5, he5, hg5, hat5⟩
      go_wp2
      go_roundw
      case rel =>
        refine ⟨k + 1, A5, c5, rs5, rfl, by go_num, by omega, Lib.hid (by rw [he5, HEQ.out, monTo_succ]), Lib.hid ⟨hO5, ?_⟩⟩
        refine HST.out.2.grown hg5 HST.out.2.size (fun j hj => ?_)
        have := HST.out.1.own
        rw [HNR.out] at this
        exact (this.lt j hj).1
      case measure => simp [intOf]; omega
end Go.Proofs.Tg
end
section
/- The law's points with weights: drawn from the tape. -/
namespace Go.Proofs.Tg
open Go.RowKit Go.Gr Go.Bn Go.Rq
set_option maxHeartbeats 8000000
set_option maxRecDepth 100000
/-- A row of rows of rational numbers. -/
structure PRow2 where
  A : Option Addr
  c : Nat
  rs : List RVal
def PRow2.cell (p : PRow2) : Value := .slice p.A p.rs.length p.c
structure OwnP (base : Nat) (w : World) (X : Option Addr) (c : Nat) (ps : List PRow2) : Prop where
  own : w.ownsRow base 27 1 (.slice X ps.length c) ps.length (ps.map PRow2.cell)
  rows : ∀ p ∈ ps, OwnQ base w p.A p.c p.rs
theorem OwnP.nil (base : Nat) (w : World) : OwnP base w none 0 [] := ⟨World.ownsRow_nil _ _ _ _, fun r h => absurd h (by simp)⟩
theorem OwnP.keep {base : Nat} {w w' : World} {A : Option Addr} {c : Nat} {ps : List PRow2} (h : OwnP base w A c ps) (hb : Below w.heap.size w w') : OwnP base w' A c ps :=
  ⟨own_below h.own hb (Nat.le_refl _), fun r hr => (h.rows r hr).keep hb⟩
theorem OwnP.tk {base g : Nat} {w w' : World} {A : Option Addr} {c : Nat} {ps : List PRow2} {t : TypeId} {cs : Array Value} (h : OwnP base w A c ps) (hg : Tk g w w') (hb : g < base) (B : Blk w g t cs) (hne : t ≠ 137) : OwnP base w' A c ps :=
  ⟨own_tk h.own hg hb, fun r hr => (h.rows r hr).tk hg hb B hne⟩
theorem OwnP.push {base : Nat} {w w' : World} {X : Option Addr} {c : Nat} {ps : List PRow2} {p : PRow2} {X' : Option Addr} {c' : Nat} (h : OwnP base w X c ps) (hr : OwnQ base w p.A p.c p.rs) (hg : w.grownBy w' (Value.slice X ps.length c).ownBlock)
    (h' : w'.ownsRow base 27 1 (.slice X' (ps.length + 1) c') (ps.length + 1) (ps.map PRow2.cell ++ [p.cell])) : OwnP base w' X' c' (ps ++ [p]) := by
  refine ⟨?_, fun x hx => ?_⟩
  · rw [List.length_append, List.map_append]
    simpa using h'
  · rcases List.mem_append.1 hx with hx | hx
    · exact (h.rows x hx).other h.own hg (by decide) (by decide)
    · rw [List.mem_singleton.1 hx]; exact hr.other h.own hg (by decide) (by decide)
theorem OwnP.other {base b sz n : Nat} {w w' : World} {A : Option Addr} {c : Nat} {ps : List PRow2} {ys : List Value} {v : Value} (h : OwnP base w A c ps) (ho : w.ownsRow b 52 sz v n ys) (hg : w.grownBy w' v.ownBlock) (hr : ∀ p ∈ ps, OwnQ base w' p.A p.c p.rs) : OwnP base w' A c ps :=
  ⟨h.own.kept hg (own_ne h.own ho (by decide)), hr⟩
/-- Two rows of one type that lie in different blocks. -/
theorem OwnQ.apart {base : Nat} {w w' : World} {A : Option Addr} {c : Nat} {rs : List RVal} {b sz n : Nat} {ys : List Value} {v : Value} (h : OwnQ base w A c rs) (ho : w.ownsRow b 52 sz v n ys) (hg : w.grownBy w' v.ownBlock) (hne : (Value.slice A rs.length c).ownBlock = none ∨ (Value.slice A rs.length c).ownBlock ≠ v.ownBlock) : OwnQ base w' A c rs :=
  ⟨h.own.kept hg hne, fun r hr => (h.ok r hr).grown ho hg (by decide)⟩
/-- A coordinate: an integer from -2 to 2. -/
def Coord (r : RVal) : Prop := ∃ z : Int, z.natAbs ≤ 2 ∧ r.q = (z : Rat)
def Weight (r : RVal) : Prop := ∃ (n : Int) (d : Nat), 1 ≤ n ∧ n ≤ 9 ∧ 1 ≤ d ∧ d ≤ 4 ∧ r.q = mkRat n d
/-- What has been drawn when k points are still to be drawn. -/
structure PtSt (w : World) (g vars m : Nat) (wr : World) (k : Nat) (X : Option Addr) (cx : Nat) (ps : List PRow2) (Y : Option Addr) (cy : Nat) (ws : List RVal) : Prop where
  xs : OwnP w.heap.size wr X cx ps
  ys : OwnQ w.heap.size wr Y cy ws
  tape : TapeAt wr g
  tk : Tk g w wr
  len : ps.length + k = m
  lenw : ws.length = ps.length
  dim : ∀ p ∈ ps, p.rs.length = vars ∧ ∀ r ∈ p.rs, Coord r
  wt : ∀ r ∈ ws, Weight r
  far : ∀ p ∈ ps, (Value.slice p.A p.rs.length p.c).ownBlock = none ∨ (Value.slice p.A p.rs.length p.c).ownBlock ≠ (Value.slice Y ws.length cy).ownBlock
/-- Inside: the point that is being drawn. -/
structure PtIn (w0 : World) (g : Nat) (wr : World) (P : Option Addr) (cp : Nat) (rs : List RVal) : Prop where
  row : OwnQ w0.heap.size wr P cp rs
  tape : TapeAt wr g
  tk : Tk g w0 wr
  co : ∀ r ∈ rs, Coord r
def RetPts (vars : Nat) (g : Nat) (w : World) (e : Ending) (w' : World) : Prop :=
  ∃ X cx ps Y cy ws, e = .returned (.tuple #[.slice X (List.length ps) cx, .slice Y (List.length ws) cy]) ∧ 1 ≤ ps.length ∧ ps.length ≤ 4 ∧ PtSt w g vars ps.length w' 0 X cx ps Y cy ws
theorem points_any (g vars : Nat) (w : World) (hT : TapeAt w g) (hv : vars ≤ 10) :
    Calls Tryz.prog 17 #[.pointer (some ⟨g, 0, none⟩), .int .i64 (vars : Nat)] w (RetPts vars g w) := by
  have HN : Hid (Calls Tryz.prog 16 #[.pointer (some ⟨g, 0, none⟩), .int .i64 4] w (RetT g (fun v _ => ∃ j : Nat, j < 4 ∧ v = .int .i64 (j : Nat)) w)) := Lib.hid (next_any g 4 w hT (by omega) (by omega))
  have HWH : Hid (∀ V, TapeAt V g → Calls Tryz.prog 44 #[.pointer (some ⟨g, 0, none⟩), .int .i64 2] V (RetT g (fun v w' => ∃ z : Int, z.natAbs ≤ 2 ∧ QAt w' v (z : Rat)) V)) := Lib.hid (fun V h => whole_any g 2 V h (by omega))
  have HPO : Hid (∀ V, TapeAt V g → Calls Tryz.prog 45 #[.pointer (some ⟨g, 0, none⟩)] V (RetT g (fun v w' => ∃ (n : Int) (d : Nat), 1 ≤ n ∧ n ≤ 9 ∧ 1 ≤ d ∧ d ≤ 4 ∧ QAt w' v (mkRat n d)) V)) := Lib.hid (fun V h => positive_any g V h)
  obtain ⟨i0, hi, hz0, hz1, hz2⟩ := info_parts rat_info
  obtain ⟨j0, hj, jz0, jz1, jz2⟩ := info_parts qrow_info
  have hg := hT.lt
  clear hT
  go_enter Tryz.func17, Tryz.ntmps17
  go_upto_region 3 with (fail)
  go_wp2_with (fail)
  refine HN.out.mono ?_
  rintro e w1 ⟨_, rfl, ⟨j, hj4, rfl⟩, hT1, ht1⟩
  obtain ⟨m, hm⟩ : ∃ m : Nat, 1 + j = m := ⟨_, rfl⟩
  have hmI : (1 : Int) + (j : Int) = (m : Int) := by omega
  have hm1 : 1 ≤ m := by omega
  have hm4 : m ≤ 4 := by omega
  have HFIN : Hid (PtSt w g vars m w1 m none 0 [] none 0 []) := Lib.hid ⟨OwnP.nil _ _, OwnQ.nil _ _, hT1, ht1, by simp, rfl, fun p h => absurd h (by simp), fun p h => absurd h (by simp), fun p h => absurd h (by simp)⟩
  clear hm hT1 ht1 HN
  go_wp2
  go_loopw [6, 7, 8] (fun s6 s7 s8 wr => ∃ (k : Nat) (X : Option Addr) (cx : Nat) (ps : List PRow2) (Y : Option Addr) (cy : Nat) (ws : List RVal), s6 = .slice X ps.length cx ∧ s7 = .slice Y ws.length cy ∧ s8 = .int .i64 (k : Nat) ∧ k ≤ m ∧ Hid (PtSt w g vars m wr k X cx ps Y cy ws)) (fun _ _ s8 _ => (intOf s8).toNat)
  case atStart => exact ⟨m, none, 0, [], none, 0, [], rfl, rfl, rfl, Nat.le_refl _, HFIN⟩
  case round =>
    clear HFIN
    obtain ⟨wo, rfl⟩ : ∃ wo : World, wo = wr := ⟨_, rfl⟩
    obtain ⟨k, X, cx, ps, Y, cy, ws, rfl, rfl, rfl, hk, HST⟩ := hrel
    by_cases hk0 : k = 0
    · subst hk0
      go_wp2
      go_ret2
      have hl := HST.out.len
      have hlw := HST.out.lenw
      refine ⟨X, cx, ps, Y, cy, ws, rfl, by omega, by omega, ?_⟩
      have h := HST.out
      have e : ps.length = m := by omega
      rw [e]; exact h
    · have hk1 : 0 < k := by omega
      have hd : decide ((0 : Int) < (k : Int)) = true := decide_eq_true (by omega)
      have hd' : decide (0 < k) = true := decide_eq_true (by omega)
      have HIN : Hid (PtIn wo g wo none 0 []) := Lib.hid ⟨OwnQ.nil _ _, HST.out.tape, Tk.refl _ _, fun p h => absurd h (by simp)⟩
      clear hk0
      go_wp2
      go_loopw [9, 10] (fun s9 s10 wr => ∃ (P : Option Addr) (cp : Nat) (rs : List RVal), s9 = .slice P rs.length cp ∧ s10 = .int .i64 (rs.length : Nat) ∧ rs.length ≤ vars ∧ Hid (PtIn wo g wr P cp rs)) (fun _ s10 _ => vars - (intOf s10).toNat)
      case atStart => exact ⟨none, 0, [], rfl, rfl, Nat.zero_le _, HIN⟩
      case round =>
        clear HIN
        obtain ⟨wi, rfl⟩ : ∃ wi : World, wi = wr := ⟨_, rfl⟩
        obtain ⟨P, cp, rs, rfl, rfl, hrl, HPI⟩ := hrel
        obtain ⟨n, hn⟩ : ∃ n, rs.length = n := ⟨_, rfl⟩
        by_cases hlt : n < vars
        · have hd2 : decide ((n : Int) < (vars : Int)) = true := decide_eq_true (by omega)
          have HNN := Lib.hid hn
          rw [hn] at hrl ⊢
          clear hn
          have HW2 := Lib.hid (HWH.out wi HPI.out.tape)
          obtain ⟨cs1, BT⟩ := HPI.out.tape.blk
          have HBT := Lib.hid BT
          clear BT
          go_wp2_with (fail)
          refine HW2.out.mono ?_
          rintro e w2 ⟨_, rfl, ⟨z, hz, hQ⟩, hT2, ht2⟩
          obtain ⟨r, hrq, rfl, hok⟩ := hQ.rval
          have hgw : g < wo.heap.size := Nat.lt_of_lt_of_le hg (by have := HST.out.tk.size; exact this)
          have hrow := HPI.out.row.tk ht2 hgw HBT.out (by decide)
          have htk2 := HPI.out.tk.trans ht2
          have HOK := Lib.hid hok
          have HC : Hid (Coord r) := Lib.hid ⟨z, hz, hrq⟩
          have hown := hrow.own
          rw [HNN.out] at hown
          have hsz := htk2.size
          have HROW := Lib.hid hrow
          have HTK := Lib.hid htk2
          have HT2 := Lib.hid hT2
          have HNW := Lib.hid (cells_new w2 52 r.cells)
          clear hQ hrq hz hok hrow ht2 htk2 hT2 HW2
          unfold RVal.cells at HNW
          unfold RVal.val
          generalize hs1 : decide (r.q.num < 0) = s1 at *
          generalize hn1 : (dg r.q.num.natAbs).length = n1 at *
          generalize hn2 : (dg (dnz r.q.den)).length = n2 at *
          have HCE : Hid (r.cells = [.bool s1, .slice r.N n1 r.cn, .bool false, .slice r.D n2 r.cd]) := Lib.hid (by unfold RVal.cells; rw [hs1, hn1, hn2])
          clear hs1 hn1 hn2
          generalize r.N = rN at *
          generalize r.D = rD at *
          generalize r.cn = rcn at *
          generalize r.cd = rcd at *
          go_wp2_with (first
            | (at_builtin; refine wpList_append_own_at _ rfl _ _ 27 rfl wo.heap.size 52 i0 _ 4 64 Tryz.underlying27 hi hz0 hz1 hz2 rfl (by decide) (.slice P n cp) n _ rfl (hown.alloc _) ⟨w2.heap.size, 0, none⟩ 1 1 [.bool s1, .slice rN n1 rcn, .bool false, .slice rD n2 rcd] rfl rfl ?c1 ?c2 ?c3 ?c4 ?c5 ?_
               case c1 => exact HNW.out
               case c2 => simp [Value.oneCell']
               case c3 => simp only [maxLen]; omega
               case c4 => omega
               case c5 => simp; omega
               intro v' w5 hown' hgrow _ _))
          obtain ⟨A2, cs2, hv2, _, _⟩ := Sl.of_own hown'
          subst hv2
          have hal := Below.alloc (Below.refl w2.heap.size w2) (Nat.le_refl _) (.cells #[.bool s1, .slice rN n1 rcn, .bool false, .slice rD n2 rcd] 52)
          have hrowA := HROW.out.keep hal
          have hokA := HOK.out.keep hal
          have hownA := hown.alloc (.cells #[.bool s1, .slice rN n1 rcn, .bool false, .slice rD n2 rcd] 52)
          go_roundw
          case rel =>
            refine ⟨A2, cs2, rs ++ [r], by rw [List.length_append, HNN.out]; rfl, by rw [List.length_append, HNN.out]; go_num, by rw [List.length_append, HNN.out]; simp; omega, Lib.hid ⟨?_, ?_, ?_, ?_⟩⟩
            · refine OwnQ.push hrowA hokA (by rw [HNN.out]; exact hgrow) ?_
              rw [HNN.out, HCE.out]; exact hown'
            · exact (HT2.out.keep hal).grown hownA hgw hgrow
            · exact (HTK.out.then hal).grown hownA (Nat.le_refl _) hgrow
            · intro x hx
              rcases List.mem_append.1 hx with hx | hx
              · exact HPI.out.co x hx
              · rw [List.mem_singleton.1 hx]; exact HC.out
          case measure => simp [intOf]; omega
        · have hd2 : decide ((n : Int) < (vars : Int)) = false := decide_eq_false (by omega)
          have hd2' : decide (n < vars) = false := decide_eq_false (by omega)
          have hnv : n = vars := by omega
          have HNN := Lib.hid hn
          have HNV := Lib.hid hnv
          rw [hn] at hrl ⊢
          clear hn hnv hlt
          have hpl : ps.length ≤ 4 := by have := HST.out.len; omega
          have hwl : ws.length ≤ 4 := by have := HST.out.lenw; omega
          have hgw : g < wo.heap.size := Nat.lt_of_lt_of_le hg (by have := HST.out.tk.size; exact this)
          obtain ⟨cs1, BT⟩ := HST.out.tape.blk
          have hX := HST.out.xs.tk HPI.out.tk hg BT (by decide)
          have hY := HST.out.ys.tk HPI.out.tk hg BT (by decide)
          have hsz0 : w.heap.size ≤ wo.heap.size := HST.out.tk.size
          have hszi : wo.heap.size ≤ wi.heap.size := HPI.out.tk.size
          have HX := Lib.hid hX
          have HY := Lib.hid hY
          have hownX := hX.own
          obtain ⟨np, hnp⟩ : ∃ x, ps.length = x := ⟨_, rfl⟩
          obtain ⟨nw, hnw⟩ : ∃ x, ws.length = x := ⟨_, rfl⟩
          rw [hnp] at hownX hpl ⊢
          rw [hnw] at hwl ⊢
          have HNP := Lib.hid hnp
          have HNW := Lib.hid hnw
          clear hX hY BT hnp hnw
          go_wp2_with (first
            | (at_builtin; refine wpList_append_own_at _ rfl _ _ 45 rfl w.heap.size 27 j0 _ 1 24 Tryz.underlying45 hj jz0 jz1 jz2 rfl (by decide) (.slice X np cx) np _ rfl (hownX.alloc _) ⟨wi.heap.size, 0, none⟩ 1 1 [.slice P n cp] rfl rfl ?c1 ?c2 ?c3 ?c4 ?c5 ?_
               case c1 => exact cell_one_new _ _ _
               case c2 => simp [Value.oneCell']
               case c3 => simp only [maxLen]; omega
               case c4 => omega
               case c5 => simp; omega
               intro v' w5 hown' hgrow _ _))
          obtain ⟨X2, cx2, hv2, _, _⟩ := Sl.of_own hown'
          subst hv2
          have hal := Below.alloc (Below.refl wi.heap.size wi) (Nat.le_refl _) (.cells #[.slice P n cp] 27)
          have hownXA := hownX.alloc (.cells #[.slice P n cp] 27)
          have HP5 : Hid (OwnP w.heap.size w5 X2 cx2 (ps ++ [⟨P, cp, rs⟩])) := Lib.hid (by
            refine OwnP.push (HX.out.keep hal) ((HPI.out.row.mono hsz0).keep hal) (by rw [HNP.out]; exact hgrow) ?_
            rw [HNP.out]
            have e : PRow2.cell ⟨P, cp, rs⟩ = .slice P n cp := by unfold PRow2.cell; rw [HNN.out]
            rw [e]; exact hown')
          have HY5 : Hid (OwnQ w.heap.size w5 Y cy ws) := Lib.hid ((HY.out.keep hal).other hownXA hgrow (by decide) (by decide))
          have HT5 : Hid (TapeAt w5 g) := Lib.hid ((HPI.out.tape.keep hal).grown hownXA hg hgrow)
          have HK5 : Hid (Tk g w w5) := Lib.hid (((HST.out.tk.trans HPI.out.tk).then hal).grown hownXA (Nat.le_refl _) hgrow)
          have hsz5 : wi.heap.size ≤ w5.heap.size := by have := hgrow.size; simp at this; omega
          have HPB : Hid ((Value.slice P rs.length cp).ownBlock = none ∨ (Value.slice P rs.length cp).ownBlock ≠ (Value.slice Y ws.length cy).ownBlock) := Lib.hid (by
            cases hP : (Value.slice P rs.length cp).ownBlock with
            | none => exact .inl rfl
            | some b =>
              refine .inr (fun e => ?_)
              have h1 := (HPI.out.row.own.lt b hP).1
              have h2 := (HST.out.ys.own.lt b e.symm).2
              omega)
          clear hownXA hown' hgrow hal hownX
          have HPP := Lib.hid (HPO.out w5 HT5.out)
          refine HPP.out.mono ?_
          rintro e w6 ⟨_, rfl, ⟨zn, zd, z1, z2, z3, z4, hQ⟩, hT6, ht6⟩
          obtain ⟨r, hrq, rfl, hok⟩ := hQ.rval
          obtain ⟨cs5, BT5⟩ := HT5.out.blk
          have HP6 := Lib.hid (HP5.out.tk ht6 hg BT5 (by decide))
          have HY6 := Lib.hid (HY5.out.tk ht6 hg BT5 (by decide))
          have hk6 := HK5.out.trans ht6
          have hsz6 := hk6.size
          have HK6 := Lib.hid hk6
          have HT6 := Lib.hid hT6
          have HOK := Lib.hid hok
          have HWT : Hid (Weight r) := Lib.hid ⟨zn, zd, z1, z2, z3, z4, hrq⟩
          have hownY := HY6.out.own
          rw [HNW.out] at hownY
          have HNC := Lib.hid (cells_new w6 52 r.cells)
          clear hQ hrq z1 z2 z3 z4 hok ht6 hT6 HPP BT5 hk6
          unfold RVal.cells at HNC
          unfold RVal.val
          generalize hs1 : decide (r.q.num < 0) = s1 at *
          generalize hn1 : (dg r.q.num.natAbs).length = n1 at *
          generalize hn2 : (dg (dnz r.q.den)).length = n2 at *
          have HCE : Hid (r.cells = [.bool s1, .slice r.N n1 r.cn, .bool false, .slice r.D n2 r.cd]) := Lib.hid (by unfold RVal.cells; rw [hs1, hn1, hn2])
          clear hs1 hn1 hn2
          generalize r.N = rN at *
          generalize r.D = rD at *
          generalize r.cn = rcn at *
          generalize r.cd = rcd at *
          go_wp2_with (first
            | (at_builtin; refine wpList_append_own_at _ rfl _ _ 27 rfl w.heap.size 52 i0 _ 4 64 Tryz.underlying27 hi hz0 hz1 hz2 rfl (by decide) (.slice Y nw cy) nw _ rfl (hownY.alloc _) ⟨w6.heap.size, 0, none⟩ 1 1 [.bool s1, .slice rN n1 rcn, .bool false, .slice rD n2 rcd] rfl rfl ?c1 ?c2 ?c3 ?c4 ?c5 ?_
               case c1 => exact HNC.out
               case c2 => simp [Value.oneCell']
               case c3 => simp only [maxLen]; omega
               case c4 => omega
               case c5 => simp; omega
               intro v' w7 hown' hgrow _ hat))
          obtain ⟨Y2, cy2, hv2, _, _⟩ := Sl.of_own hown'
          subst hv2
          have hal := Below.alloc (Below.refl w6.heap.size w6) (Nat.le_refl _) (.cells #[.bool s1, .slice rN n1 rcn, .bool false, .slice rD n2 rcd] 52)
          have hownYA := hownY.alloc (.cells #[.bool s1, .slice rN n1 rcn, .bool false, .slice rD n2 rcd] 52)
          have HFAR : Hid (∀ p ∈ ps ++ [⟨P, cp, rs⟩], (Value.slice p.A p.rs.length p.c).ownBlock = none ∨ (Value.slice p.A p.rs.length p.c).ownBlock ≠ (Value.slice Y nw cy).ownBlock) := Lib.hid (fun p hp => by
            rcases List.mem_append.1 hp with hp | hp
            · have := HST.out.far p hp; rwa [HNW.out] at this
            · rw [List.mem_singleton.1 hp]; have := HPB.out; rwa [HNW.out] at this)
          have wk : IntKind.i64.wrap ((k : Int) - 1) = ((k - 1 : Nat) : Int) := by
            rw [show ((k - 1 : Nat) : Int) = (k : Int) - 1 by omega]
            exact IntWalk.i64_in _ (by omega)
          go_roundw
          case rel =>
            refine ⟨k - 1, X2, cx2, ps ++ [⟨P, cp, rs⟩], Y2, cy2, ws ++ [r], by rw [List.length_append, HNP.out]; rfl, by rw [List.length_append, HNW.out]; rfl, by go_num, by omega, Lib.hid ⟨?_, ?_, ?_, ?_, ?_, ?_, ?_, ?_, ?_⟩⟩
            · exact (HP6.out.keep hal).other hownYA hgrow (fun p hp => ((HP6.out.keep hal).rows p hp).apart hownYA hgrow (HFAR.out p hp))
            · refine OwnQ.push (HY6.out.keep hal) (HOK.out.keep hal) (by rw [HNW.out]; exact hgrow) ?_
              rw [HNW.out, HCE.out]; exact hown'
            · exact (HT6.out.keep hal).grown hownYA hg hgrow
            · exact (HK6.out.then hal).grown hownYA (Nat.le_refl _) hgrow
            · have := HST.out.len; simp; omega
            · have := HST.out.lenw; simp; omega
            · intro p hp
              rcases List.mem_append.1 hp with hp | hp
              · exact HST.out.dim p hp
              · rw [List.mem_singleton.1 hp]; exact ⟨HNN.out.trans HNV.out, HPI.out.co⟩
            · intro x hx
              rcases List.mem_append.1 hx with hx | hx
              · exact HST.out.wt x hx
              · rw [List.mem_singleton.1 hx]; exact HWT.out
            · intro p hp
              rw [List.length_append, HNW.out]
              rcases HFAR.out p hp with h | h
              · exact .inl h
              · cases hP : (Value.slice p.A p.rs.length p.c).ownBlock with
                | none => exact .inl rfl
                | some b =>
                  refine .inr (fun e => ?_)
                  rcases hat with h1 | h1
                  · rw [hP] at h; exact h (e.trans h1)
                  · have h2 := ((HP6.out.keep hal).rows p hp).own.lt b hP
                    have h3 := e.trans h1
                    injection h3 with h3
                    omega
          case measure => simp [intOf]; omega
end Go.Proofs.Tg
end
section
/- The library's AppendInt onto a buffer that lies in an array of the caller's. -/
namespace Go.Proofs.Tg.Fi
open Go.RowKit Go.Rq Go.Qn Go.Lib Go.Sort Go.Proofs.Tg
set_option maxHeartbeats 6400000
set_option maxRecDepth 100000
/-- Block g, of N cells, begins with the cells xs. -/
structure Buf (w : World) (g : Nat) (t : TypeId) (N : Nat) (xs : List Value) : Prop where
  ex : ∃ cs : Array Value, Blk w g t cs ∧ cs.size = N ∧ cs.toList.take xs.length = xs
theorem Buf.keep {w w' : World} {g N : Nat} {t : TypeId} {xs : List Value} (h : Buf w g t N xs) (hb : Below w.heap.size w w') : Buf w' g t N xs := by
  obtain ⟨cs, B, r⟩ := h.ex
  exact ⟨cs, B.keep hb B.lt, r⟩
theorem Buf.lt {w : World} {g N : Nat} {t : TypeId} {xs : List Value} (h : Buf w g t N xs) : g < w.heap.size := by
  obtain ⟨cs, B, r⟩ := h.ex
  exact B.lt
theorem Buf.room {w : World} {g N : Nat} {t : TypeId} {xs : List Value} (h : Buf w g t N xs) {j : Nat} (hj : j < N) : (w.cell? ⟨g, j, none⟩).isSome = true ∧ w.frozen? ⟨g, j, none⟩ = false := by
  obtain ⟨cs, B, hs, _⟩ := h.ex
  refine ⟨?_, B.frozen j⟩
  rw [B.cell j]
  simp; omega
theorem blk_setCells {g : Nat} {t : TypeId} : ∀ (news : List Value) (o : Nat) (w : World) (cs : Array Value), Blk w g t cs → o + news.length ≤ cs.size → ∃ cs', Blk (w.setCells g o news) g t cs' ∧ cs'.size = cs.size ∧ cs'.toList.take (o + news.length) = cs.toList.take o ++ news
  | [], o, w, cs, h, ho => ⟨cs, h, rfl, by simp⟩
  | v :: r, o, w, cs, h, ho => by
    have h1 := h.set o v
    obtain ⟨cs', B, hs, ht⟩ := blk_setCells r (o + 1) _ _ h1 (by simp at ho ⊢; omega)
    refine ⟨cs', B, by rw [hs]; simp, ?_⟩
    rw [List.length_cons, show o + (r.length + 1) = o + 1 + r.length by omega, ht]
    have ho2 : o < cs.toList.length := by simp at ho ⊢; omega
    rw [show (cs.setIfInBounds o v).toList = cs.toList.set o v by simp, List.take_succ_eq_append_getElem (by simpa using ho2)]
    simp [List.take_set_of_le]
theorem tk_setCells (g : Nat) : ∀ (news : List Value) (o : Nat) (w : World), Tk g w (w.setCells g o news)
  | [], _, w => Tk.refl g w
  | v :: r, o, w => (Tk.set g w o v).trans (tk_setCells g r (o + 1) _)
theorem wpList_append_run {P : Program} (w : World) {ops : Array Oper} {rest : List Oper} {o : Oper} {a : Act} {Q : Exit → Act → World → Prop} (hgd : o.guard = none) (s x : Operand) (t tx : TypeId)
    (ho : o.op = .call { callee := .builtin .append, args := #[s, x], argTypes := #[t, tx] }) (v' : Value) (w' : World)
    (hr : (Builtin.append_ #[t, tx] o.type #[a.eval s, a.eval x]).run P w = .ok v' w') (h : wpList P ops Q rest (a.put o.dst v') w') : wpList P ops Q (o :: rest) a w := by
  refine wpList_plain hgd fun K hK => ?_
  unfold Oper.wp execOp
  simp only [ho, resolve, invoke, builtin, Sem.run_bind, Sem.run_pure, Result.andThen_ok, List.map_toArray, List.map_cons, List.map_nil, hr]
  exact hK _ _ h
theorem byte_info : (Tryz.prog.info? 5).map (fun i => (i.zero, i.size, i.bytes)) = some (some (.int .u8 0), 1, 1) := by kernel_rfl
/-- append onto the buffer, with room. -/
theorem buf_append {w : World} {g N : Nat} {t : TypeId} {xs : List Value} (h : Buf w g t N xs) (tx ty : TypeId) (x : Value) (n : Nat) (news : List Value) (hs : Src Tryz.prog 1 tx x n news w) (hroom : xs.length + n ≤ N) :
    (Builtin.append_ #[149, tx] ty #[.slice (some ⟨g, 0, none⟩) xs.length N, x]).run Tryz.prog w = .ok (.slice (some ⟨g, 0, none⟩) (xs.length + n) N) (w.setCells g xs.length news) ∧ Buf (w.setCells g xs.length news) g t N (xs ++ news) ∧ Tk g w (w.setCells g xs.length news) := by
  obtain ⟨i0, hi, hz0, hz1, hz2⟩ := info_parts byte_info
  have hnl := hs.newsLen
  refine ⟨?_, ?_, tk_setCells g _ _ _⟩
  · have := run_append_room_src (P := Tryz.prog) w 149 tx ty 5 i0 Tryz.underlying149 hi g 0 xs.length N x n news (by rw [hz1]; exact hs) hroom
      (fun j hj => by rw [hz1]; simp only [Nat.zero_add, Nat.mul_one]; exact (h.room (by omega)).1) (fun j hj => by rw [hz1]; simp only [Nat.zero_add, Nat.mul_one]; exact (h.room (by omega)).2)
    rw [hz1] at this
    simpa using this
  · obtain ⟨cs, B, hsz, ht⟩ := h.ex
    obtain ⟨cs', B', hs', ht'⟩ := blk_setCells news xs.length w cs B (by omega)
    exact ⟨cs', B', by omega, by rw [List.length_append, ht', ht]⟩
/-- What a call that writes l behind the buffer leaves. -/
def RetBuf (g : Nat) (t : TypeId) (N : Nat) (xs : List Value) (l : List UInt8) (w : World) (e : Ending) (w' : World) : Prop :=
  e = .returned (.slice (some ⟨g, 0, none⟩) (xs.length + l.length) N) ∧ Buf w' g t N (xs ++ Lib.byteCells l) ∧ Tk g w w'
theorem small_lay (i : Nat) (h : i < 100) (w : World) : Calls Tryz.prog 155 #[.int .i64 i] w fun e w' => e = .returned (.string (bs (Lib.decDigits i))) ∧ w' = w :=
  Any.internal_strconv_small { fmtLay with } i h w
theorem ndig_lay (u : Nat) (h1 : 1 ≤ u) (h2 : u < 18446744073709551616) (w : World) (ht : PT w) : Calls Tryz.prog 156 #[.int .u64 u] w fun e w' => e = .returned (.int .i64 (Lib.nDigits u)) ∧ w' = w :=
  Any.internal_strconv_numDigits { fmtLay with } u h1 h2 w ht
theorem auint_small (g N u : Nat) (t : TypeId) (xs : List Value) (w : World) (h : Buf w g t N xs) (hu : u < 100) (hroom : xs.length + 20 ≤ N) :
    Calls Tryz.prog 159 #[.slice (some ⟨g, 0, none⟩) xs.length N, .int .u64 u, .int .i64 10] w (RetBuf g t N xs (Lib.decDigits u) w) := by
  have hlen : (Lib.decDigits u).length ≤ 20 := by
    rw [Lib.decDigits_length]
    by_cases h10 : u < 10
    · rw [Lib.nDigits_small h10]; omega
    · rw [Lib.nDigits_big h10, Lib.nDigits_small (show u / 10 < 10 by omega)]; omega
  have hsz : (bs (Lib.decDigits u)).size = (Lib.decDigits u).length := bs_size _
  have hsrc := Src.ofString (P := Tryz.prog) (w := w) (tx := 9) Tryz.underlying9 (bs (Lib.decDigits u))
  have hbc : Go.byteCells (bs (Lib.decDigits u)) = Lib.byteCells (Lib.decDigits u) := by
    unfold Go.byteCells Lib.byteCells; rw [bs_data]
  rw [hbc, hsz] at hsrc
  obtain ⟨hr, hB, hT⟩ := buf_append h 9 149 _ _ _ hsrc (by omega)
  have HR := Lib.hid hr
  have HB := Lib.hid hB
  have HT := Lib.hid hT
  have HS := Lib.hid (small_lay u hu)
  generalize bs (Lib.decDigits u) = S at *
  clear hr hB hT hsrc hbc hsz h
  obtain ⟨n, hn⟩ : ∃ n, xs.length = n := ⟨_, rfl⟩
  unfold RetBuf
  rw [hn] at HR HB HT hroom ⊢
  have HN := Lib.hid hn
  clear hn
  have hui : decide ((u : Int) < 100) = true := decide_eq_true (by omega)
  have hun : decide (u < 100) = true := decide_eq_true hu
  go_enter Tryz.func159, Tryz.ntmps159
  go_wp2_with (first
    | (go_at_call 155; refine (HS.out _).mono ?_; rintro e w' ⟨rfl, rfl⟩)
    | (at_builtin; refine wpList_append_run _ rfl _ _ 149 9 rfl _ _ HR.out ?_))
  go_ret
  exact ⟨rfl, HB.out, HT.out⟩
theorem auint_big (g N u : Nat) (t : TypeId) (xs : List Value) (w : World) (h : Buf w g t N xs) (hu : 100 ≤ u) (hu64 : u < 18446744073709551616) (hroom : xs.length + 20 ≤ N) (ht : PT w) :
    Calls Tryz.prog 159 #[.slice (some ⟨g, 0, none⟩) xs.length N, .int .u64 u, .int .i64 10] w (RetBuf g t N xs (Lib.decDigits u) w) := by
  have hu1 : 1 ≤ u := by omega
  have hnd20 : Lib.nDigits u ≤ 20 := by have := Lib.numDigits_eq u hu1 hu64; split at this <;> omega
  have hal : Tryz.prog.arrayLen 216 = 24 := by kernel_rfl
  have hsl : ∀ W, (Instr.sliceAt 216 (.pointer (some ⟨w.heap.size, 0, none⟩)) none (some (.int .i64 (Lib.nDigits u : Int))) none).run Tryz.prog W = .ok (.slice (some ⟨w.heap.size, 0, none⟩) (Lib.nDigits u) 24) W := fun W => by
    rw [run_sliceAt_array_h W 216 ⟨w.heap.size, 0, none⟩ (by simp [Program.arrayLen, Program.elem, Tryz.underlying216]) .i64 (Lib.nDigits u : Int) (by omega) (by rw [hal]; omega)]
    go_simp
  have hH0 := Lib.holds_zero0 w 216 (Lib.nDigits u) (by omega)
  have hfmt : Calls Tryz.prog 157 #[.slice (some ⟨w.heap.size, 0, none⟩) (Array.replicate (Lib.nDigits u) (0 : UInt8)).size 24, .int .u64 u] (w.alloc (.cells Lib.zeros24 216)) fun e w' =>
      e = .returned (.tuple #[]) ∧ ∃ (n v' : Nat) (dk : Array UInt8), w' = (putRow (fun (b : UInt8) => Value.int .u8 (b.toNat : Int)) (w.alloc (.cells Lib.zeros24 216)) w.heap.size 0 dk).drewN n ∧ FmtInv (Array.replicate (Lib.nDigits u) (0 : UInt8)).size u 0 v' dk :=
    Any.internal_strconv_formatBase10 { fmtLay with } w.heap.size 0 24 u (Array.replicate (Lib.nDigits u) 0) (w.alloc (.cells Lib.zeros24 216)) hH0 (by rw [Array.size_replicate]; exact Lib.lt_pow_nDigits u) hu64 (by rw [Array.size_replicate]; omega)
  rw [Array.size_replicate] at hfmt
  have HH0 := Lib.hid hH0
  have iu : (100 : Int) ≤ (u : Int) := by omega
  have HND := Lib.hid (ndig_lay u hu1 hu64 (w.alloc (.cells Lib.zeros24 216)) (Lib.tabIs_alloc ht _))
  have HFM := Lib.hid hfmt
  have HL := Lib.hid (Lib.decDigits_length u)
  unfold RetBuf
  obtain ⟨n, hn⟩ : ∃ n, xs.length = n := ⟨_, rfl⟩
  have HN := Lib.hid hn
  have HBF := Lib.hid h
  rw [hn] at hroom ⊢
  clear hH0 hal hfmt hn h
  go_enter Tryz.func159, Tryz.ntmps159
  go_wp2_with (go_at_call 156; refine HND.out.mono ?_; rintro e w' ⟨rfl, rfl⟩)
  refine HFM.out.mono ?_
  rintro e w' ⟨rfl, k, v', dk, rfl, hF⟩
  have hcells : ∀ j u', (Lib.byteCells (Lib.decDigits u))[j]? = some u' → ((putRow (fun (b : UInt8) => Value.int .u8 (b.toNat : Int)) (w.alloc (.cells Lib.zeros24 216)) w.heap.size 0 dk).drewN k).cell? ((⟨w.heap.size, 0, none⟩ : Addr).add j) = some u' := by
    intro j u' hj
    have hjl : j < (Lib.decDigits u).length := by
      have h5 := (List.getElem?_eq_some_iff.1 hj).1
      rwa [Lib.byteCells_length] at h5
    have e5 : (Lib.byteCells (Lib.decDigits u))[j]? = some (Value.int .u8 ((Lib.decDigits u)[j].toNat : Int)) := by simp [Lib.byteCells, hjl]
    rw [e5] at hj
    cases hj
    rw [Lib.row_is_numeral hF j hjl, Lib.add_plain, World.cell?_drewN]
    exact cell?_putRow (fun (b : UInt8) => Value.int .u8 (b.toNat : Int)) _ w.heap.size 0 _ dk HH0.out (by rw [hF.size, Array.size_replicate]) j (by rw [hF.size]; rw [Lib.decDigits_length] at hjl; exact hjl)
  obtain ⟨os, eo⟩ := Lib.fin_at w (.cells Lib.zeros24 216) dk k 0
  have hbe : Below w.heap.size w ((putRow (fun (b : UInt8) => Value.int .u8 (b.toNat : Int)) (w.alloc (.cells Lib.zeros24 216)) w.heap.size 0 dk).drewN k) := by rw [eo]; exact Lib.below_grow _ w (Nat.le_refl _) k os
  generalize (putRow (fun (b : UInt8) => Value.int .u8 (b.toNat : Int)) (w.alloc (.cells Lib.zeros24 216)) w.heap.size 0 dk).drewN k = W2 at hcells hbe ⊢
  clear eo HH0 HFM
  have hsrc := Src.ofSlice (P := Tryz.prog) (w := W2) (size := 1) (tx := 149) Tryz.underlying149 ⟨w.heap.size, 0, none⟩ (Lib.nDigits u) 24 (Lib.byteCells (Lib.decDigits u)) (by rw [Lib.byteCells_length, Lib.decDigits_length, Nat.mul_one]) hcells (by intro u' hu'; simp only [Lib.byteCells, List.mem_map] at hu'; obtain ⟨b, _, rfl⟩ := hu'; rfl)
  obtain ⟨hr, hB, hT⟩ := buf_append (HBF.out.keep hbe) 149 149 _ _ _ hsrc (by rw [HN.out]; omega)
  rw [HN.out] at hr hB hT
  have HR := Lib.hid hr
  have HB := Lib.hid hB
  have HT := Lib.hid ((Tk.of hbe).trans hT)
  have HLL := Lib.hid HL.out.symm
  generalize Lib.nDigits u = nd at *
  clear hr hB hT hsrc hcells hbe
  go_wp2_with (at_builtin; refine wpList_append_run _ rfl _ _ 149 149 rfl _ _ HR.out ?_)
  go_ret
  exact ⟨by rw [HLL.out]; rfl, HB.out, HT.out⟩
theorem auint_any (g N u : Nat) (t : TypeId) (xs : List Value) (w : World) (h : Buf w g t N xs) (hu64 : u < 18446744073709551616) (hroom : xs.length + 20 ≤ N) (ht : PT w) :
    Calls Tryz.prog 159 #[.slice (some ⟨g, 0, none⟩) xs.length N, .int .u64 u, .int .i64 10] w (RetBuf g t N xs (Lib.decDigits u) w) := by
  by_cases hu : u < 100
  · exact auint_small g N u t xs w h hu hroom
  · exact auint_big g N u t xs w h (by omega) hu64 hroom ht
theorem tab_named : Tryz.prog.globalNamed "internal/strconv.uint64pow10" = some 0 := by kernel_rfl
theorem PT.lt {w : World} (h : PT w) : 0 < w.heap.size := by
  unfold PT Lib.TabIs World.var? at h
  rw [tab_named] at h
  simp only [Option.bind_some] at h
  cases hh : w.heap[(0 : Nat)]? with
  | none => rw [hh] at h; cases h
  | some o => exact (Array.getElem?_eq_some_iff.1 hh).1
theorem PT.tk {g : Nat} {w w' : World} (h : PT w) (hk : Tk g w w') (hg : 0 < g) : PT w' := by
  have hl := h.lt
  have hb := hk.block 0 hl (by intro e; injection e with e; omega)
  unfold PT Lib.TabIs World.var? at *
  rw [tab_named] at *
  simp only [Option.bind_some] at *
  rw [hb]; exact h
theorem aint_in (i : Int) (h0 : -9223372036854775808 ≤ i) (h1 : i < 9223372036854775808) (g N : Nat) (t : TypeId) (xs : List Value) (w : World) (h : Buf w g t N xs) (hroom : xs.length + 21 ≤ N) (ht : PT w) (hg : 0 < g) :
    Calls Tryz.prog 131 #[.slice (some ⟨g, 0, none⟩) xs.length N, .int .i64 i, .int .i64 10] w (RetBuf g t N xs (Lib.itoa i) w) := by
  obtain ⟨u, hu⟩ : ∃ u : Nat, i.natAbs = u := ⟨_, rfl⟩
  have hu64 : u < 18446744073709551616 := by omega
  by_cases hi : i < 0
  · have hit : Lib.itoa i = 45 :: Lib.decDigits u := by unfold Lib.itoa; rw [if_pos hi, hu]
    have hd : decide (i < 0) = true := decide_eq_true hi
    have hc : IntKind.u64.wrap i = 18446744073709551616 - (u : Int) := by
      have e : IntKind.u64.wrap i = i % 18446744073709551616 := rfl
      rw [e]; omega
    have hc2 : IntKind.u64.wrap (-(18446744073709551616 - (u : Int))) = (u : Int) := by
      have e : IntKind.u64.wrap (-(18446744073709551616 - (u : Int))) = (-(18446744073709551616 - (u : Int))) % 18446744073709551616 := rfl
      rw [e]; omega
    have hui : i = -(u : Int) := by omega
    obtain ⟨W, hW⟩ : ∃ W, w.alloc (.cells #[.int .u8 45] 5) = W := ⟨_, rfl⟩
    have hbW : Below w.heap.size w W := by rw [← hW]; exact (Below.refl _ _).alloc (Nat.le_refl _) _
    have hcell : ∀ j v, [Value.int .u8 45][j]? = some v → W.cell? ((⟨w.heap.size, 0, none⟩ : Addr).add j) = some v := by rw [← hW]; exact cells_new w 5 [.int .u8 45]
    have hsrc := Src.ofSlice (P := Tryz.prog) (w := W) (size := 1) (tx := 149) Tryz.underlying149 ⟨w.heap.size, 0, none⟩ 1 1 [.int .u8 45] rfl hcell (by simp [Value.oneCell'])
    obtain ⟨hr, hB, hT⟩ := buf_append (h.keep hbW) 149 149 _ _ _ hsrc (by omega)
    have hpt : PT (W.setCells g xs.length [.int .u8 45]) := (ht.keep hbW).tk hT hg
    have HA := Lib.hid (auint_any g N u t (xs ++ [.int .u8 45]) _ hB hu64 (by simp; omega) hpt)
    have HR := Lib.hid hr
    have HT := Lib.hid ((Tk.of hbW).trans hT)
    have HWW := Lib.hid hW
    obtain ⟨n, hn⟩ : ∃ n, xs.length = n := ⟨_, rfl⟩
    rw [hit]
    unfold RetBuf
    rw [List.length_append, List.length_singleton] at HA
    unfold RetBuf at HA
    rw [hn] at HR HT HA hroom ⊢
    have HN := Lib.hid hn
    clear hW hr hB hT hsrc hcell hpt hbW h ht hn hit
    subst hui
    clear hu
    go_enter Tryz.func131, Tryz.ntmps131
    go_wp2_with (at_builtin; rw [HWW.out]; refine wpList_append_run _ rfl _ _ 149 149 rfl _ _ HR.out ?_)
    refine HA.out.mono ?_
    rintro e w2 ⟨rfl, hB2, hT2⟩
    go_wp2
    go_ret
    refine ⟨?_, ?_, HT.out.trans hT2⟩
    · rw [HN.out, show n + 1 + (Lib.decDigits u).length = n + ((Lib.decDigits u).length + 1) by omega]; rfl
    · have e : xs ++ Lib.byteCells (45 :: Lib.decDigits u) = xs ++ [.int .u8 45] ++ Lib.byteCells (Lib.decDigits u) := by simp [Lib.byteCells]
      rw [e]; exact hB2
  · have hit : Lib.itoa i = Lib.decDigits u := by
      unfold Lib.itoa
      rw [if_neg hi, show i.toNat = u by omega]
    have hui : i = (u : Int) := by omega
    have HA := Lib.hid (auint_any g N u t xs w h hu64 (by omega) ht)
    obtain ⟨n, hn⟩ : ∃ n, xs.length = n := ⟨_, rfl⟩
    rw [hit]
    rw [hn] at HA hroom ⊢
    subst hui
    have hd : decide ((u : Int) < 0) = false := decide_eq_false hi
    have hc : IntKind.u64.wrap (u : Int) = (u : Int) := by
      have e : IntKind.u64.wrap (u : Int) = (u : Int) % 18446744073709551616 := rfl
      rw [e]; omega
    have HN := Lib.hid hn
    clear hu hit h ht hn
    go_enter Tryz.func131, Tryz.ntmps131
    go_wp2_with (fail)
    refine HA.out.mono ?_
    rintro e w2 ⟨rfl, hB2, hT2⟩
    go_wp2
    go_ret
    refine ⟨?_, hB2, hT2⟩
    rw [HN.out]; rfl
theorem aint_any (i : Int) (h0 : -9223372036854775808 ≤ i) (h1 : i < 9223372036854775808) (g N : Nat) (t : TypeId) (xs : List Value) (w : World) (h : Buf w g t N xs) (hroom : xs.length + 21 ≤ N) (ht : PT w) (hg : 0 < g) :
    Calls Tryz.prog 102 #[.slice (some ⟨g, 0, none⟩) xs.length N, .int .i64 i, .int .i64 10] w (RetBuf g t N xs (Lib.itoa i) w) := by
  have HA := Lib.hid (aint_in i h0 h1 g N t xs w h hroom ht hg)
  obtain ⟨n, hn⟩ : ∃ n, xs.length = n := ⟨_, rfl⟩
  rw [hn] at HA ⊢
  have HN := Lib.hid hn
  clear hn h hroom ht
  go_enter Tryz.func102, Tryz.ntmps102
  go_wp2_with (fail)
  refine HA.out.mono ?_
  rintro e w2 ⟨rfl, hB2, hT2⟩
  go_wp2
  go_ret
  exact ⟨by rw [HN.out]; rfl, hB2, hT2⟩
end Go.Proofs.Tg.Fi
end
