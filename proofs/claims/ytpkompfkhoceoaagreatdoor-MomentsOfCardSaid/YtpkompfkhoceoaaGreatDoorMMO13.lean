/- Parts of the proof: SC4, TX1, TX2. -/
import Derived.Maps.AppendAt
import Derived.Test.YtpkompfkhoceoaaGreatDoorMMO10
import Derived.Test.YtpkompfkhoceoaaGreatDoorMMO12
section
/- The law's points with weights: drawn from the tape. -/
namespace Go.Proofs.Tg
open Go.RowKit Go.Gr Go.Bn Go.Rq
set_option maxHeartbeats 8000000
set_option maxRecDepth 100000
/-- A row of rows of rational numbers. -/
structure PRow2 where
  A : Option Addr
  c : Nat
  rs : List RVal
def PRow2.cell (p : PRow2) : Value := .slice p.A p.rs.length p.c
structure OwnP (base : Nat) (w : World) (X : Option Addr) (c : Nat) (ps : List PRow2) : Prop where
  own : w.ownsRow base 27 1 (.slice X ps.length c) ps.length (ps.map PRow2.cell)
  rows : ∀ p ∈ ps, OwnQ base w p.A p.c p.rs
theorem OwnP.nil (base : Nat) (w : World) : OwnP base w none 0 [] := ⟨World.ownsRow_nil _ _ _ _, fun r h => absurd h (by simp)⟩
theorem OwnP.keep {base : Nat} {w w' : World} {A : Option Addr} {c : Nat} {ps : List PRow2} (h : OwnP base w A c ps) (hb : Below w.heap.size w w') : OwnP base w' A c ps :=
  ⟨own_below h.own hb (Nat.le_refl _), fun r hr => (h.rows r hr).keep hb⟩
theorem OwnP.tk {base g : Nat} {w w' : World} {A : Option Addr} {c : Nat} {ps : List PRow2} {t : TypeId} {cs : Array Value} (h : OwnP base w A c ps) (hg : Tk g w w') (hb : g < base) (B : Blk w g t cs) (hne : t ≠ 137) : OwnP base w' A c ps :=
  ⟨own_tk h.own hg hb, fun r hr => (h.rows r hr).tk hg hb B hne⟩
theorem OwnP.push {base : Nat} {w w' : World} {X : Option Addr} {c : Nat} {ps : List PRow2} {p : PRow2} {X' : Option Addr} {c' : Nat} (h : OwnP base w X c ps) (hr : OwnQ base w p.A p.c p.rs) (hg : w.grownBy w' (Value.slice X ps.length c).ownBlock)
    (h' : w'.ownsRow base 27 1 (.slice X' (ps.length + 1) c') (ps.length + 1) (ps.map PRow2.cell ++ [p.cell])) : OwnP base w' X' c' (ps ++ [p]) := by
  refine ⟨?_, fun x hx => ?_⟩
  · rw [List.length_append, List.map_append]
    simpa using h'
  · rcases List.mem_append.1 hx with hx | hx
    · exact (h.rows x hx).other h.own hg (by decide) (by decide)
    · rw [List.mem_singleton.1 hx]; exact hr.other h.own hg (by decide) (by decide)
theorem OwnP.other {base b sz n : Nat} {w w' : World} {A : Option Addr} {c : Nat} {ps : List PRow2} {ys : List Value} {v : Value} (h : OwnP base w A c ps) (ho : w.ownsRow b 52 sz v n ys) (hg : w.grownBy w' v.ownBlock) (hr : ∀ p ∈ ps, OwnQ base w' p.A p.c p.rs) : OwnP base w' A c ps :=
  ⟨h.own.kept hg (own_ne h.own ho (by decide)), hr⟩
/-- Two rows of one type that lie in different blocks. -/
theorem OwnQ.apart {base : Nat} {w w' : World} {A : Option Addr} {c : Nat} {rs : List RVal} {b sz n : Nat} {ys : List Value} {v : Value} (h : OwnQ base w A c rs) (ho : w.ownsRow b 52 sz v n ys) (hg : w.grownBy w' v.ownBlock) (hne : (Value.slice A rs.length c).ownBlock = none ∨ (Value.slice A rs.length c).ownBlock ≠ v.ownBlock) : OwnQ base w' A c rs :=
  ⟨h.own.kept hg hne, fun r hr => (h.ok r hr).grown ho hg (by decide)⟩
/-- A coordinate: an integer from -2 to 2. -/
def Coord (r : RVal) : Prop := ∃ z : Int, z.natAbs ≤ 2 ∧ r.q = (z : Rat)
def Weight (r : RVal) : Prop := ∃ (n : Int) (d : Nat), 1 ≤ n ∧ n ≤ 9 ∧ 1 ≤ d ∧ d ≤ 4 ∧ r.q = mkRat n d
/-- What has been drawn when k points are still to be drawn. -/
structure PtSt (w : World) (g vars m : Nat) (wr : World) (k : Nat) (X : Option Addr) (cx : Nat) (ps : List PRow2) (Y : Option Addr) (cy : Nat) (ws : List RVal) : Prop where
  xs : OwnP w.heap.size wr X cx ps
  ys : OwnQ w.heap.size wr Y cy ws
  tape : TapeAt wr g
  tk : Tk g w wr
  len : ps.length + k = m
  lenw : ws.length = ps.length
  dim : ∀ p ∈ ps, p.rs.length = vars ∧ ∀ r ∈ p.rs, Coord r
  wt : ∀ r ∈ ws, Weight r
  far : ∀ p ∈ ps, (Value.slice p.A p.rs.length p.c).ownBlock = none ∨ (Value.slice p.A p.rs.length p.c).ownBlock ≠ (Value.slice Y ws.length cy).ownBlock
/-- Inside: the point that is being drawn. -/
structure PtIn (w0 : World) (g : Nat) (wr : World) (P : Option Addr) (cp : Nat) (rs : List RVal) : Prop where
  row : OwnQ w0.heap.size wr P cp rs
  tape : TapeAt wr g
  tk : Tk g w0 wr
  co : ∀ r ∈ rs, Coord r
def RetPts (vars : Nat) (g : Nat) (w : World) (e : Ending) (w' : World) : Prop :=
  ∃ X cx ps Y cy ws, e = .returned (.tuple #[.slice X (List.length ps) cx, .slice Y (List.length ws) cy]) ∧ 1 ≤ ps.length ∧ ps.length ≤ 4 ∧ PtSt w g vars ps.length w' 0 X cx ps Y cy ws
theorem points_any (g vars : Nat) (w : World) (hT : TapeAt w g) (hv : vars ≤ 10) :
    Calls Tryz.prog 17 #[.pointer (some ⟨g, 0, none⟩), .int .i64 (vars : Nat)] w (RetPts vars g w) := by
  have HN : Hid (Calls Tryz.prog 16 #[.pointer (some ⟨g, 0, none⟩), .int .i64 4] w (RetT g (fun v _ => ∃ j : Nat, j < 4 ∧ v = .int .i64 (j : Nat)) w)) := Lib.hid (next_any g 4 w hT (by omega) (by omega))
  have HWH : Hid (∀ V, TapeAt V g → Calls Tryz.prog 44 #[.pointer (some ⟨g, 0, none⟩), .int .i64 2] V (RetT g (fun v w' => ∃ z : Int, z.natAbs ≤ 2 ∧ QAt w' v (z : Rat)) V)) := Lib.hid (fun V h => whole_any g 2 V h (by omega))
  have HPO : Hid (∀ V, TapeAt V g → Calls Tryz.prog 45 #[.pointer (some ⟨g, 0, none⟩)] V (RetT g (fun v w' => ∃ (n : Int) (d : Nat), 1 ≤ n ∧ n ≤ 9 ∧ 1 ≤ d ∧ d ≤ 4 ∧ QAt w' v (mkRat n d)) V)) := Lib.hid (fun V h => positive_any g V h)
  obtain ⟨i0, hi, hz0, hz1, hz2⟩ := info_parts rat_info
  obtain ⟨j0, hj, jz0, jz1, jz2⟩ := info_parts qrow_info
  have hg := hT.lt
  clear hT
  go_enter Tryz.func17, Tryz.ntmps17
  go_upto_region 3 with (fail)
  go_wp2_with (fail)
  refine HN.out.mono ?_
  rintro e w1 ⟨_, rfl, ⟨j, hj4, rfl⟩, hT1, ht1⟩
  obtain ⟨m, hm⟩ : ∃ m : Nat, 1 + j = m := ⟨_, rfl⟩
  have hmI : (1 : Int) + (j : Int) = (m : Int) := by omega
  have hm1 : 1 ≤ m := by omega
  have hm4 : m ≤ 4 := by omega
  have HFIN : Hid (PtSt w g vars m w1 m none 0 [] none 0 []) := Lib.hid ⟨OwnP.nil _ _, OwnQ.nil _ _, hT1, ht1, by simp, rfl, fun p h => absurd h (by simp), fun p h => absurd h (by simp), fun p h => absurd h (by simp)⟩
  clear hm hT1 ht1 HN
  go_wp2
  go_loopw [6, 7, 8] (fun s6 s7 s8 wr => ∃ (k : Nat) (X : Option Addr) (cx : Nat) (ps : List PRow2) (Y : Option Addr) (cy : Nat) (ws : List RVal), s6 = .slice X ps.length cx ∧ s7 = .slice Y ws.length cy ∧ s8 = .int .i64 (k : Nat) ∧ k ≤ m ∧ Hid (PtSt w g vars m wr k X cx ps Y cy ws)) (fun _ _ s8 _ => (intOf s8).toNat)
  case atStart => exact ⟨m, none, 0, [], none, 0, [], rfl, rfl, rfl, Nat.le_refl _, HFIN⟩
  case round =>
    clear HFIN
    obtain ⟨wo, rfl⟩ : ∃ wo : World, wo = wr := ⟨_, rfl⟩
    obtain ⟨k, X, cx, ps, Y, cy, ws, rfl, rfl, rfl, hk, HST⟩ := hrel
    by_cases hk0 : k = 0
    · subst hk0
      go_wp2
      go_ret2
      have hl := HST.out.len
      have hlw := HST.out.lenw
      refine ⟨X, cx, ps, Y, cy, ws, rfl, by omega, by omega, ?_⟩
      have h := HST.out
      have e : ps.length = m := by omega
      rw [e]; exact h
    · have hk1 : 0 < k := by omega
      have hd : decide ((0 : Int) < (k : Int)) = true := decide_eq_true (by omega)
      have hd' : decide (0 < k) = true := decide_eq_true (by omega)
      have HIN : Hid (PtIn wo g wo none 0 []) := Lib.hid ⟨OwnQ.nil _ _, HST.out.tape, Tk.refl _ _, fun p h => absurd h (by simp)⟩
      clear hk0
      go_wp2
      go_loopw [9, 10] (fun s9 s10 wr => ∃ (P : Option Addr) (cp : Nat) (rs : List RVal), s9 = .slice P rs.length cp ∧ s10 = .int .i64 (rs.length : Nat) ∧ rs.length ≤ vars ∧ Hid (PtIn wo g wr P cp rs)) (fun _ s10 _ => vars - (intOf s10).toNat)
      case atStart => exact ⟨none, 0, [], rfl, rfl, Nat.zero_le _, HIN⟩
      case round =>
        clear HIN
        obtain ⟨wi, rfl⟩ : ∃ wi : World, wi = wr := ⟨_, rfl⟩
        obtain ⟨P, cp, rs, rfl, rfl, hrl, HPI⟩ := hrel
        obtain ⟨n, hn⟩ : ∃ n, rs.length = n := ⟨_, rfl⟩
        by_cases hlt : n < vars
        · have hd2 : decide ((n : Int) < (vars : Int)) = true := decide_eq_true (by omega)
          have HNN := Lib.hid hn
          rw [hn] at hrl ⊢
          clear hn
          have HW2 := Lib.hid (HWH.out wi HPI.out.tape)
          obtain ⟨cs1, BT⟩ := HPI.out.tape.blk
          have HBT := Lib.hid BT
          clear BT
          go_wp2_with (fail)
          refine HW2.out.mono ?_
          rintro e w2 ⟨_, rfl, ⟨z, hz, hQ⟩, hT2, ht2⟩
          obtain ⟨r, hrq, rfl, hok⟩ := hQ.rval
          have hgw : g < wo.heap.size := Nat.lt_of_lt_of_le hg (by have := HST.out.tk.size; exact this)
          have hrow := HPI.out.row.tk ht2 hgw HBT.out (by decide)
          have htk2 := HPI.out.tk.trans ht2
          have HOK := Lib.hid hok
          have HC : Hid (Coord r) := Lib.hid ⟨z, hz, hrq⟩
          have hown := hrow.own
          rw [HNN.out] at hown
          have hsz := htk2.size
          have HROW := Lib.hid hrow
          have HTK := Lib.hid htk2
          have HT2 := Lib.hid hT2
          have HNW := Lib.hid (cells_new w2 52 r.cells)
          clear hQ hrq hz hok hrow ht2 htk2 hT2 HW2
          unfold RVal.cells at HNW
          unfold RVal.val
          generalize hs1 : decide (r.q.num < 0) = s1 at *
          generalize hn1 : (dg r.q.num.natAbs).length = n1 at *
          generalize hn2 : (dg (dnz r.q.den)).length = n2 at *
          have HCE : Hid (r.cells = [.bool s1, .slice r.N n1 r.cn, .bool false, .slice r.D n2 r.cd]) := Lib.hid (by unfold RVal.cells; rw [hs1, hn1, hn2])
          clear hs1 hn1 hn2
          generalize r.N = rN at *
          generalize r.D = rD at *
          generalize r.cn = rcn at *
          generalize r.cd = rcd at *
          go_wp2_with (first
            | (at_builtin; refine wpList_append_own_at _ rfl _ _ 27 rfl wo.heap.size 52 i0 _ 4 64 Tryz.underlying27 hi hz0 hz1 hz2 rfl (by decide) (.slice P n cp) n _ rfl (hown.alloc _) ⟨w2.heap.size, 0, none⟩ 1 1 [.bool s1, .slice rN n1 rcn, .bool false, .slice rD n2 rcd] rfl rfl ?c1 ?c2 ?c3 ?c4 ?c5 ?_
               case c1 => exact HNW.out
               case c2 => simp [Value.oneCell']
               case c3 => simp only [maxLen]; omega
               case c4 => omega
               case c5 => simp; omega
               intro v' w5 hown' hgrow _ _))
          obtain ⟨A2, cs2, hv2, _, _⟩ := Sl.of_own hown'
          subst hv2
          have hal := Below.alloc (Below.refl w2.heap.size w2) (Nat.le_refl _) (.cells #[.bool s1, .slice rN n1 rcn, .bool false, .slice rD n2 rcd] 52)
          have hrowA := HROW.out.keep hal
          have hokA := HOK.out.keep hal
          have hownA := hown.alloc (.cells #[.bool s1, .slice rN n1 rcn, .bool false, .slice rD n2 rcd] 52)
          go_roundw
          case rel =>
            refine ⟨A2, cs2, rs ++ [r], by rw [List.length_append, HNN.out]; rfl, by rw [List.length_append, HNN.out]; go_num, by rw [List.length_append, HNN.out]; simp; omega, Lib.hid ⟨?_, ?_, ?_, ?_⟩⟩
            · refine OwnQ.push hrowA hokA (by rw [HNN.out]; exact hgrow) ?_
              rw [HNN.out, HCE.out]; exact hown'
            · exact (HT2.out.keep hal).grown hownA hgw hgrow
            · exact (HTK.out.then hal).grown hownA (Nat.le_refl _) hgrow
            · intro x hx
              rcases List.mem_append.1 hx with hx | hx
              · exact HPI.out.co x hx
              · rw [List.mem_singleton.1 hx]; exact HC.out
          case measure => simp [intOf]; omega
        · have hd2 : decide ((n : Int) < (vars : Int)) = false := decide_eq_false (by omega)
          have hd2' : decide (n < vars) = false := decide_eq_false (by omega)
          have hnv : n = vars := by omega
          have HNN := Lib.hid hn
          have HNV := Lib.hid hnv
          rw [hn] at hrl ⊢
          clear hn hnv hlt
          have hpl : ps.length ≤ 4 := by have := HST.out.len; omega
          have hwl : ws.length ≤ 4 := by have := HST.out.lenw; omega
          have hgw : g < wo.heap.size := Nat.lt_of_lt_of_le hg (by have := HST.out.tk.size; exact this)
          obtain ⟨cs1, BT⟩ := HST.out.tape.blk
          have hX := HST.out.xs.tk HPI.out.tk hg BT (by decide)
          have hY := HST.out.ys.tk HPI.out.tk hg BT (by decide)
          have hsz0 : w.heap.size ≤ wo.heap.size := HST.out.tk.size
          have hszi : wo.heap.size ≤ wi.heap.size := HPI.out.tk.size
          have HX := Lib.hid hX
          have HY := Lib.hid hY
          have hownX := hX.own
          obtain ⟨np, hnp⟩ : ∃ x, ps.length = x := ⟨_, rfl⟩
          obtain ⟨nw, hnw⟩ : ∃ x, ws.length = x := ⟨_, rfl⟩
          rw [hnp] at hownX hpl ⊢
          rw [hnw] at hwl ⊢
          have HNP := Lib.hid hnp
          have HNW := Lib.hid hnw
          clear hX hY BT hnp hnw
          go_wp2_with (first
            | (at_builtin; refine wpList_append_own_at _ rfl _ _ 45 rfl w.heap.size 27 j0 _ 1 24 Tryz.underlying45 hj jz0 jz1 jz2 rfl (by decide) (.slice X np cx) np _ rfl (hownX.alloc _) ⟨wi.heap.size, 0, none⟩ 1 1 [.slice P n cp] rfl rfl ?c1 ?c2 ?c3 ?c4 ?c5 ?_
               case c1 => exact cell_one_new _ _ _
               case c2 => simp [Value.oneCell']
               case c3 => simp only [maxLen]; omega
               case c4 => omega
               case c5 => simp; omega
               intro v' w5 hown' hgrow _ _))
          obtain ⟨X2, cx2, hv2, _, _⟩ := Sl.of_own hown'
          subst hv2
          have hal := Below.alloc (Below.refl wi.heap.size wi) (Nat.le_refl _) (.cells #[.slice P n cp] 27)
          have hownXA := hownX.alloc (.cells #[.slice P n cp] 27)
          have HP5 : Hid (OwnP w.heap.size w5 X2 cx2 (ps ++ [⟨P, cp, rs⟩])) := Lib.hid (by
            refine OwnP.push (HX.out.keep hal) ((HPI.out.row.mono hsz0).keep hal) (by rw [HNP.out]; exact hgrow) ?_
            rw [HNP.out]
            have e : PRow2.cell ⟨P, cp, rs⟩ = .slice P n cp := by unfold PRow2.cell; rw [HNN.out]
            rw [e]; exact hown')
          have HY5 : Hid (OwnQ w.heap.size w5 Y cy ws) := Lib.hid ((HY.out.keep hal).other hownXA hgrow (by decide) (by decide))
          have HT5 : Hid (TapeAt w5 g) := Lib.hid ((HPI.out.tape.keep hal).grown hownXA hg hgrow)
          have HK5 : Hid (Tk g w w5) := Lib.hid (((HST.out.tk.trans HPI.out.tk).then hal).grown hownXA (Nat.le_refl _) hgrow)
          have hsz5 : wi.heap.size ≤ w5.heap.size := by have := hgrow.size; simp at this; omega
          have HPB : Hid ((Value.slice P rs.length cp).ownBlock = none ∨ (Value.slice P rs.length cp).ownBlock ≠ (Value.slice Y ws.length cy).ownBlock) := Lib.hid (by
            cases hP : (Value.slice P rs.length cp).ownBlock with
            | none => exact .inl rfl
            | some b =>
              refine .inr (fun e => ?_)
              have h1 := (HPI.out.row.own.lt b hP).1
              have h2 := (HST.out.ys.own.lt b e.symm).2
              omega)
          clear hownXA hown' hgrow hal hownX
          have HPP := Lib.hid (HPO.out w5 HT5.out)
          refine HPP.out.mono ?_
          rintro e w6 ⟨_, rfl, ⟨zn, zd, z1, z2, z3, z4, hQ⟩, hT6, ht6⟩
          obtain ⟨r, hrq, rfl, hok⟩ := hQ.rval
          obtain ⟨cs5, BT5⟩ := HT5.out.blk
          have HP6 := Lib.hid (HP5.out.tk ht6 hg BT5 (by decide))
          have HY6 := Lib.hid (HY5.out.tk ht6 hg BT5 (by decide))
          have hk6 := HK5.out.trans ht6
          have hsz6 := hk6.size
          have HK6 := Lib.hid hk6
          have HT6 := Lib.hid hT6
          have HOK := Lib.hid hok
          have HWT : Hid (Weight r) := Lib.hid ⟨zn, zd, z1, z2, z3, z4, hrq⟩
          have hownY := HY6.out.own
          rw [HNW.out] at hownY
          have HNC := Lib.hid (cells_new w6 52 r.cells)
          clear hQ hrq z1 z2 z3 z4 hok ht6 hT6 HPP BT5 hk6
          unfold RVal.cells at HNC
          unfold RVal.val
          generalize hs1 : decide (r.q.num < 0) = s1 at *
          generalize hn1 : (dg r.q.num.natAbs).length = n1 at *
          generalize hn2 : (dg (dnz r.q.den)).length = n2 at *
          have HCE : Hid (r.cells = [.bool s1, .slice r.N n1 r.cn, .bool false, .slice r.D n2 r.cd]) := Lib.hid (by unfold RVal.cells; rw [hs1, hn1, hn2])
          clear hs1 hn1 hn2
          generalize r.N = rN at *
          generalize r.D = rD at *
          generalize r.cn = rcn at *
          generalize r.cd = rcd at *
          go_wp2_with (first
            | (at_builtin; refine wpList_append_own_at _ rfl _ _ 27 rfl w.heap.size 52 i0 _ 4 64 Tryz.underlying27 hi hz0 hz1 hz2 rfl (by decide) (.slice Y nw cy) nw _ rfl (hownY.alloc _) ⟨w6.heap.size, 0, none⟩ 1 1 [.bool s1, .slice rN n1 rcn, .bool false, .slice rD n2 rcd] rfl rfl ?c1 ?c2 ?c3 ?c4 ?c5 ?_
               case c1 => exact HNC.out
               case c2 => simp [Value.oneCell']
               case c3 => simp only [maxLen]; omega
               case c4 => omega
               case c5 => simp; omega
               intro v' w7 hown' hgrow _ hat))
          obtain ⟨Y2, cy2, hv2, _, _⟩ := Sl.of_own hown'
          subst hv2
          have hal := Below.alloc (Below.refl w6.heap.size w6) (Nat.le_refl _) (.cells #[.bool s1, .slice rN n1 rcn, .bool false, .slice rD n2 rcd] 52)
          have hownYA := hownY.alloc (.cells #[.bool s1, .slice rN n1 rcn, .bool false, .slice rD n2 rcd] 52)
          have HFAR : Hid (∀ p ∈ ps ++ [⟨P, cp, rs⟩], (Value.slice p.A p.rs.length p.c).ownBlock = none ∨ (Value.slice p.A p.rs.length p.c).ownBlock ≠ (Value.slice Y nw cy).ownBlock) := Lib.hid (fun p hp => by
            rcases List.mem_append.1 hp with hp | hp
            · have := HST.out.far p hp; rwa [HNW.out] at this
            · rw [List.mem_singleton.1 hp]; have := HPB.out; rwa [HNW.out] at this)
          have wk : IntKind.i64.wrap ((k : Int) - 1) = ((k - 1 : Nat) : Int) := by
            rw [show ((k - 1 : Nat) : Int) = (k : Int) - 1 by omega]
            exact IntWalk.i64_in _ (by omega)
          go_roundw
          case rel =>
            refine ⟨k - 1, X2, cx2, ps ++ [⟨P, cp, rs⟩], Y2, cy2, ws ++ [r], by rw [List.length_append, HNP.out]; rfl, by rw [List.length_append, HNW.out]; rfl, by go_num, by omega, Lib.hid ⟨?_, ?_, ?_, ?_, ?_, ?_, ?_, ?_, ?_⟩⟩
            · exact (HP6.out.keep hal).other hownYA hgrow (fun p hp => ((HP6.out.keep hal).rows p hp).apart hownYA hgrow (HFAR.out p hp))
            · refine OwnQ.push (HY6.out.keep hal) (HOK.out.keep hal) (by rw [HNW.out]; exact hgrow) ?_
              rw [HNW.out, HCE.out]; exact hown'
            · exact (HT6.out.keep hal).grown hownYA hg hgrow
            · exact (HK6.out.then hal).grown hownYA (Nat.le_refl _) hgrow
            · have := HST.out.len; simp; omega
            · have := HST.out.lenw; simp; omega
            · intro p hp
              rcases List.mem_append.1 hp with hp | hp
              · exact HST.out.dim p hp
              · rw [List.mem_singleton.1 hp]; exact ⟨HNN.out.trans HNV.out, HPI.out.co⟩
            · intro x hx
              rcases List.mem_append.1 hx with hx | hx
              · exact HST.out.wt x hx
              · rw [List.mem_singleton.1 hx]; exact HWT.out
            · intro p hp
              rw [List.length_append, HNW.out]
              rcases HFAR.out p hp with h | h
              · exact .inl h
              · cases hP : (Value.slice p.A p.rs.length p.c).ownBlock with
                | none => exact .inl rfl
                | some b =>
                  refine .inr (fun e => ?_)
                  rcases hat with h1 | h1
                  · rw [hP] at h; exact h (e.trans h1)
                  · have h2 := ((HP6.out.keep hal).rows p hp).own.lt b hP
                    have h3 := e.trans h1
                    injection h3 with h3
                    omega
          case measure => simp [intOf]; omega
end Go.Proofs.Tg
end
section
/- Lists of texts of numbers: numbers (the program), Texts (the harness). -/
namespace Go.Proofs.Tg.Fi
open Go.RowKit Go.Rq Go.Qn Go.Proofs.Tg
set_option maxHeartbeats 6400000
set_option maxRecDepth 100000
def vq (q : Rat) : Value := .string (qtx q)
/-- A slice of texts of numbers. -/
abbrev Txts (w : World) (A : Option Addr) (qs : List Rat) : Prop := Sl w A qs.length 1 (qs.map vq)
theorem Txts.at {w : World} {A : Option Addr} {qs : List Rat} (h : Txts w A qs) {k : Nat} (hk : k < qs.length) : ∃ ad, A = some ad ∧ w.cell? (ad.add k) = some (.string (qtx qs[k])) := by
  obtain ⟨ad, rfl, hc⟩ := Sl.at1 h hk
  exact ⟨ad, rfl, by simpa [vq] using hc⟩
theorem numbers_q (A : Option Addr) (c : Nat) (qs : List Rat) (w : World) (hA : Txts w A qs) (hs : ∀ q ∈ qs, Sh q) (hn : qs.length ≤ 1000000) :
    Calls Tryz.prog 37 #[.slice A qs.length c] w fun e w' => e = .returned (.bool true) ∧ Below w.heap.size w w' := by
  have HV := Lib.hid (fun q (h : q ∈ qs) W => valid_q q (hs q h) W)
  obtain ⟨n, hn'⟩ : ∃ n, qs.length = n := ⟨_, rfl⟩
  have HA := Lib.hid hA
  rw [hn'] at hn ⊢
  have HN := Lib.hid hn'
  clear hs hA hn'
  go_enter Tryz.func37, Tryz.ntmps37
  go_wp2
  go_loopw [7] (fun s7 wr => ∃ k : Nat, s7 = .int .i64 (k : Nat) ∧ k ≤ n ∧ Hid (Below w.heap.size w wr)) (fun s7 _ => n - (intOf s7).toNat)
  case atStart => exact ⟨0, rfl, Nat.zero_le _, Lib.hid (Below.refl _ _)⟩
  case round =>
    obtain ⟨wo, rfl⟩ : ∃ wo : World, wo = wr := ⟨_, rfl⟩
    obtain ⟨k, rfl, hk, HB⟩ := hrel
    by_cases hkn : k = n
    · have e1 : decide ((k : Int) < (n : Int)) = false := decide_eq_false (by omega)
      have e1' : decide (k < n) = false := decide_eq_false (by omega)
      clear hkn
      go_wp2
      go_ret
      exact ⟨rfl, HB.out⟩
    · have hkl : k < n := by omega
      have e1 : decide ((k : Int) < (n : Int)) = true := decide_eq_true (by omega)
      have e1' : decide (k < n) = true := decide_eq_true hkl
      obtain ⟨ad, rfl, hc⟩ := Txts.at (HA.out.keep HB.out) (k := k) (by rw [HN.out]; exact hkl)
      have HC := Lib.hid (HV.out (qs[k]'(by rw [HN.out]; exact hkl)) (List.getElem_mem _) wo)
      generalize qtx (qs[k]'(by rw [HN.out]; exact hkl)) = S at *
      clear hkn
      go_wp2_with (fail)
      refine HC.out.mono ?_
      rintro e w2 ⟨rfl, hb2⟩
      go_wp2
      go_roundw
      case rel => exact ⟨k + 1, by go_num, by omega, Lib.hid (below_all HB.out hb2)⟩
      case measure => simp [intOf]; omega
end Go.Proofs.Tg.Fi
end
section
/- Lists of texts that are being filled; Texts of the harness. -/
namespace Go.Proofs.Tg.Fi
open Go.RowKit Go.Rq Go.Qn Go.Bn Go.Proofs.Tg
set_option maxHeartbeats 6400000
set_option maxRecDepth 100000
/-- The first k of n texts are there. -/
def tpart (qs : List Rat) (n k : Nat) : Array Value := ((qs.take k).map vq ++ List.replicate (n - k) (Value.string ⟨#[]⟩)).toArray
theorem tpart_zero (qs : List Rat) (n : Nat) : madeCells #[.string ⟨#[]⟩] n = tpart qs n 0 := by
  apply Array.ext
  · simp [tpart, size_madeCells]
  · intro i h1 h2
    simp [madeCells, tpart, Nat.mod_one]
theorem tpart_all {qs : List Rat} {n : Nat} (h : qs.length = n) : tpart qs n n = (qs.map vq).toArray := by
  subst h
  simp [tpart]
theorem tpart_set {qs : List Rat} {n k : Nat} (h : qs.length = n) (hk : k < n) : (tpart qs n k).setIfInBounds k (.string (qtx (qs[k]'(by omega)))) = tpart qs n (k + 1) := by
  unfold tpart
  rw [List.take_succ_eq_append_getElem (by omega), show n - k = (n - (k + 1)) + 1 by omega, List.replicate_succ]
  have e : ((qs.take k).map vq).length = k := by simp; omega
  simp only [List.setIfInBounds_toArray, List.map_append]
  congr 1
  rw [List.set_append_right _ _ (by omega), e, Nat.sub_self, List.set_cons_zero]
  simp [vq]
theorem tpart_at {qs : List Rat} {n k : Nat} (h : qs.length = n) (hk : k < n) : ∃ u, (tpart qs n k)[k]? = some u := by
  refine ⟨_, Array.getElem?_eq_getElem ?_⟩
  simp [tpart]; omega
theorem txts_of {w : World} {g : Nat} {qs : List Rat} (h : Blk w g 9 (qs.map vq).toArray) : Txts w (some ⟨g, 0, none⟩) qs :=
  ⟨by simp, fun _ => ⟨_, rfl, h.lt, fun j u hu => by rw [add_lit, Nat.zero_add, h.cell j]; simpa using hu⟩⟩
theorem text_info : (Tryz.prog.info? 9).map (fun i => (i.zero, i.size, i.bytes)) = some (some (.string ⟨#[]⟩), 1, 16) := by kernel_rfl
theorem make_txts (n : Nat) (hn : n ≤ 1000000) (w : World) : (Instr.makeSlice 22 (.int .i64 (n : Int)) (.int .i64 (n : Int))).run Tryz.prog w = .ok (.slice (some ⟨w.heap.size, 0, none⟩) n n) (w.alloc (.cells (madeCells #[.string ⟨#[]⟩] n) 9)) := by
  obtain ⟨i0, hi, hz0, hz1, hz2⟩ := info_parts text_info
  have hr := run_make (P := Tryz.prog) w 22 9 i0 (.string ⟨#[]⟩) Tryz.underlying22 hi hz0 .i64 .i64 n n (by omega) (by omega) (by rw [hz2]; omega) (by omega)
  rw [hz1, Nat.mul_one, Int.toNat_natCast] at hr
  exact hr
/-- A slice of rational numbers that can be read. -/
structure QsAt (w : World) (A : Option Addr) (rs : List RVal) : Prop where
  sl : Sl w A rs.length 4 (rs.flatMap RVal.cells)
  ok : ∀ r ∈ rs, r.Ok w
theorem QsAt.keep {w w' : World} {A : Option Addr} {rs : List RVal} (h : QsAt w A rs) (hb : Below w.heap.size w w') : QsAt w' A rs := ⟨h.sl.keep hb, fun r hr => (h.ok r hr).keep hb⟩
theorem OwnQ.qs {base : Nat} {w : World} {A : Option Addr} {c : Nat} {rs : List RVal} (h : OwnQ base w A c rs) : QsAt w A rs := ⟨Sl.own h.own, h.ok⟩
theorem flat4 {rs : List RVal} {k j : Nat} (hk : k < rs.length) {u : Value} (hu : rs[k].cells[j]? = some u) : (rs.flatMap RVal.cells)[k * 4 + j]? = some u := by
  have hj : j < 4 := (List.getElem?_eq_some_iff.1 hu).1
  induction rs generalizing k with
  | nil => exact absurd hk (by simp)
  | cons r rs ih =>
    cases k with
    | zero =>
      rw [List.flatMap_cons, List.getElem?_append_left (by rw [RVal.cells_len]; omega)]
      simpa using hu
    | succ k =>
      rw [List.flatMap_cons, List.getElem?_append_right (by rw [RVal.cells_len]; omega), RVal.cells_len]
      have : (k + 1) * 4 + j - 4 = k * 4 + j := by omega
      rw [this]
      exact ih (by simpa using hk) (by simpa using hu)
/-- The four cells of an element. -/
theorem QsAt.at {w : World} {A : Option Addr} {rs : List RVal} (h : QsAt w A rs) {k : Nat} (hk : k < rs.length) : ∃ ad, A = some ad ∧
    w.cell? (ad.add (k * 4)) = some (.bool (decide (rs[k].q.num < 0))) ∧ w.cell? ⟨(ad.add (k * 4)).block, (ad.add (k * 4)).off + 1, none⟩ = some (.slice rs[k].N (dg rs[k].q.num.natAbs).length rs[k].cn) ∧
    w.cell? ⟨(ad.add (k * 4)).block, (ad.add (k * 4)).off + 2, none⟩ = some (.bool false) ∧ w.cell? ⟨(ad.add (k * 4)).block, (ad.add (k * 4)).off + 3, none⟩ = some (.slice rs[k].D (dg (dnz rs[k].q.den)).length rs[k].cd) := by
  obtain ⟨ad, e, hlt, ha⟩ := h.sl.lies (by omega)
  have off : ∀ j, (⟨(ad.add (k * 4)).block, (ad.add (k * 4)).off + (j + 1), none⟩ : Addr) = ad.add (k * 4 + (j + 1)) := fun j => by
    rw [← add_add]; simp [Addr.add]
  refine ⟨ad, e, ha _ _ (flat4 (j := 0) hk rfl), (congrArg w.cell? (off 0)).trans (ha _ _ (flat4 (j := 1) hk rfl)), (congrArg w.cell? (off 1)).trans (ha _ _ (flat4 (j := 2) hk rfl)), (congrArg w.cell? (off 2)).trans (ha _ _ (flat4 (j := 3) hk rfl))⟩
/-- A list of texts in a block of its own. -/
def RetTxts (qs : List Rat) (w : World) (e : Ending) (w' : World) : Prop := ∃ A, e = .returned (.slice A qs.length qs.length) ∧ Txts w' A qs ∧ Below w.heap.size w w'
/-- The same, with the block named. -/
def RetTB (qs : List Rat) (w : World) (e : Ending) (w' : World) : Prop := ∃ g, e = .returned (.slice (some ⟨g, 0, none⟩) qs.length qs.length) ∧ Blk w' g 9 (qs.map vq).toArray ∧ w.heap.size ≤ g ∧ Below w.heap.size w w'
theorem texts_b (A : Option Addr) (c : Nat) (rs : List RVal) (w : World) (h : QsAt w A rs) (hs : ∀ r ∈ rs, Sh r.q) (hn : rs.length ≤ 1000000) :
    Calls Tryz.prog 19 #[.slice A rs.length c] w (RetTB (rs.map RVal.q) w) := by
  obtain ⟨n, hn'⟩ : ∃ n, rs.length = n := ⟨_, rfl⟩
  have HT := Lib.hid (fun r (hr : r ∈ rs) V (hb : Below w.heap.size w V) => text_q r.q r.val V ((h.ok r hr).keep hb).at (hs r hr))
  have HA := Lib.hid h
  rw [hn'] at hn ⊢
  have HN := Lib.hid hn'
  have hmk := make_txts n hn
  have hql : (rs.map RVal.q).length = n := by rw [List.length_map, hn']
  unfold RetTB
  rw [hql]
  have HQL := Lib.hid hql
  have HFI : Hid ((tpart (rs.map RVal.q) n n) = ((rs.map RVal.q).map vq).toArray) := Lib.hid (tpart_all hql)
  obtain ⟨W, hW⟩ : ∃ W, w.alloc (.cells (madeCells #[.string ⟨#[]⟩] n) 9) = W := ⟨_, rfl⟩
  have HST : Hid (Blk W w.heap.size 9 (tpart (rs.map RVal.q) n 0) ∧ Below w.heap.size w W) := Lib.hid (by
    rw [← hW, tpart_zero (rs.map RVal.q) n]
    exact ⟨Blk.new _ _ _, (Below.refl _ _).alloc (Nat.le_refl _) _⟩)
  have HWW := Lib.hid hW
  clear hs h hn' hql hW
  go_enter Tryz.func19, Tryz.ntmps19
  go_upto_region 2 with (fail)
  rw [HWW.out]
  go_wp2
  go_loopw [4] (fun s4 wr => ∃ k : Nat, s4 = .int .i64 (k : Nat) ∧ k ≤ n ∧ Hid (Blk wr w.heap.size 9 (tpart (rs.map RVal.q) n k) ∧ Below w.heap.size w wr)) (fun s4 _ => n - (intOf s4).toNat)
  case atStart => exact ⟨0, rfl, Nat.zero_le _, HST⟩
  case round =>
    clear HST
    obtain ⟨wo, rfl⟩ : ∃ wo : World, wo = wr := ⟨_, rfl⟩
    obtain ⟨k, rfl, hk, HST⟩ := hrel
    by_cases hkn : k = n
    · have e1 : decide ((k : Int) < (n : Int)) = false := decide_eq_false (by omega)
      have e1' : decide (k < n) = false := decide_eq_false (by omega)
      have HK := Lib.hid hkn
      clear hkn
      go_wp2
      go_ret
      have hB := HST.out.1
      rw [HK.out, HFI.out] at hB
      exact ⟨w.heap.size, rfl, hB, Nat.le_refl _, HST.out.2⟩
    · have hkl : k < n := by omega
      have e1 : decide ((k : Int) < (n : Int)) = true := decide_eq_true (by omega)
      have e1' : decide (k < n) = true := decide_eq_true hkl
      have q0 : (0 : Int) ≤ (k : Int) := by omega
      have q1 : (k : Int) < (n : Int) := by omega
      have hkr : k < rs.length := by rw [HN.out]; exact hkl
      obtain ⟨ad, rfl, h0, h1, h2, h3⟩ := (HA.out.keep HST.out.2).at hkr
      have HC := Lib.hid (HT.out (rs[k]'hkr) (List.getElem_mem _) wo HST.out.2)
      have HSET : Hid ((tpart (rs.map RVal.q) n k).setIfInBounds k (.string (qtx (rs[k]'hkr).q)) = tpart (rs.map RVal.q) n (k + 1)) := Lib.hid (by
        have := tpart_set HQL.out hkl
        simpa using this)
      unfold RVal.val at HC
      generalize rs[k]'hkr = r at *
      generalize decide (r.q.num < 0) = s1 at *
      generalize (dg r.q.num.natAbs).length = n1 at *
      generalize (dg (dnz r.q.den)).length = n2 at *
      generalize qtx r.q = S at *
      generalize r.N = rN at *
      generalize r.D = rD at *
      generalize r.cn = rcn at *
      generalize r.cd = rcd at *
      clear hkn
      go_wp2_with (fail)
      refine HC.out.mono ?_
      rintro e w2 ⟨rfl, hb2⟩
      have hB2 := HST.out.1.keep hb2 HST.out.1.lt
      obtain ⟨u, hu⟩ := tpart_at HQL.out hkl
      have c0 : w2.cell? ⟨w.heap.size, k, none⟩ = some u := by rw [hB2.cell k]; exact hu
      have f0 := hB2.frozen k
      have HB2 := Lib.hid hB2
      clear hu hB2 h0 h1 h2 h3
      go_wp2
      go_roundw
      case rel =>
        refine ⟨k + 1, by go_num, by omega, Lib.hid ⟨?_, below_far (below_all HST.out.2 hb2) (Nat.le_refl _) _ _⟩⟩
        rw [← HSET.out]
        exact HB2.out.set _ _
      case measure => simp [intOf]; omega
theorem texts_q (A : Option Addr) (c : Nat) (rs : List RVal) (w : World) (h : QsAt w A rs) (hs : ∀ r ∈ rs, Sh r.q) (hn : rs.length ≤ 1000000) :
    Calls Tryz.prog 19 #[.slice A rs.length c] w (RetTxts (rs.map RVal.q) w) := by
  refine (texts_b A c rs w h hs hn).mono ?_
  rintro e w' ⟨g, e1, hB, _, hb⟩
  exact ⟨some ⟨g, 0, none⟩, e1, txts_of hB, hb⟩
end Go.Proofs.Tg.Fi
end
